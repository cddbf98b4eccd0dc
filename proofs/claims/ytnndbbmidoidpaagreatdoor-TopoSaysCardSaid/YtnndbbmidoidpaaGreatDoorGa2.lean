import Derived.Laws.StructEq
import Derived.Laws.BytesString
import Derived.ChangeKeysEq
import Derived.LaidEql
import Derived.Test.YtnndbbmidoidpaaGreatDoorGa1
set_option linter.unusedVariables false
set_option linter.unusedSimpArgs false
section
namespace Go.Proofs.YtnndbbmidoidpaaGreatDoor.VL
open Go.RowKit
def mapO {α β : Type} (f : α → Option β) : List α → Option (List β)
 | [] => some []
 | x :: xs => match f x with
  | some y => match mapO f xs with
   | some ys => some (y :: ys)
   | none => none
  | none => none
def lowTok : Tok → Tok
 | .own _ => .none
 | .fr _ => .bor
 | t => t
def chunk (agg : Bool) (e : Nat) : Nat → List AV → List AV
 | 0,_ => []
 | n + 1,l => (match agg with | true => .agg (l.take e) | false => (l.take 1).headD .dead) :: chunk agg e n (l.drop e)
def lentAs (m : List (Nat × Nat)) (c : Nat) : Option Nat:= match m with
 | [] => none
 | (c',k) :: r => if c = c' then some k else lentAs r c
def lentOf (m : List (Nat × Nat)) (k : Nat) : Option Nat:= match m with
 | [] => none
 | (c,k') :: r => if k = k' then some c else lentOf r k
def lowerM (m : List (Nat × Nat)) (C : Nat → Option (List AV)) : Nat → AV → Option AV
 | 0,_ => none
 | n + 1,x => match x with
  | .sl t e rows => some (.sl (lowTok t) e rows)
  | .agg cs => match mapO (lowerM m C n) cs with
   | some l => some (.agg l)
   | none => none
  | .lp c o => match lentAs m c with
   | some k => some (.lp k o)
   | none => match C c with
    | some cs => match mapO (match m with | [] => lowerM m C n | _ :: _ => closeV) (cs.drop o) with
     | some l => some (.bp l)
     | none => none
    | none => none
  | .clo f a b => match mapO (lowerM m C n) a with
   | some l => match mapO (lowerM m C n) b with
    | some m => some (.clo f l m)
    | none => none
   | none => none
  | .ifc t v => match lowerM m C n v with
   | some u => some (.ifc t u)
   | none => none
  | .ml c o len cap g e => match lentAs m c with
   | some k => some (.ml k o len cap g e)
   | none => match C c with
    | some cs => if o + len * e ≤ cs.length ∧ len ≤ cap ∧ (g = true ∨ e = 1) then match mapO closeV ((cs.drop o).take (len * e)) with
     | some l => some (.sl .bor e (chunk g e len l))
     | none => none
     else none
    | none => none
  | .tup _ => none
  | .mu _ _ _ => none
  | .mf _ _ => none
  | x => some x
abbrev lower (C : Nat → Option (List AV)) : Nat → AV → Option AV:= lowerM [] C
def retv (C : Nat → Option (List AV)) (keep : Bool) : Nat → AV → Option AV
 | 0,_ => none
 | n + 1,x => match x with
  | .lit v => some (.lit v)
  | .gl i => some (.gl i)
  | .mp k v => some (.mp k v)
  | .rp cs => some (.rp cs)
  | .dead => some .dead
  | .sl t e rows => match t with
   | .bor => none
   | .own τ => if keep then some (.sl (.own τ) e rows) else some (.sl .none e rows)
   | .fr τ => if keep then some (.sl (.fr τ) e rows) else none
   | .gone => none
   | t => some (.sl t e rows)
  | .mu τ k v => some (.mp k v)
  | .mf τ al => if keep then some (.mf τ al) else none
  | .agg cs => match mapO (retv C keep n) cs with
   | some l => some (.agg l)
   | none => none
  | .tup cs => match mapO (retv C keep n) cs with
   | some l => some (.tup l)
   | none => none
  | .clo f a b => match mapO (retv C keep n) a with
   | some l => match mapO (retv C keep n) b with
    | some m => some (.clo f l m)
    | none => none
   | none => none
  | .ifc t v => match retv C keep n v with
   | some u => some (.ifc t u)
   | none => none
  | .lp c o => if 100000 ≤ c then (if keep then some (.lp c o) else none) else match C c with
   | some cs => match mapO (retv C false n) (cs.drop o) with
    | some l => some (.rp l)
    | none => none
   | none => none
  | .ml c o len cap g e => if 100000 ≤ c then (if keep then some (.ml c o len cap g e) else none) else match C c with
   | some cs => if o + len * e ≤ cs.length ∧ len ≤ cap ∧ (g = true ∨ e = 1) then match mapO (retv C false n) ((cs.drop o).take (len * e)) with
    | some l => some (.sl .none e (chunk g e len l))
    | none => none
    else none
   | none => none
  | _ => none
mutual
/-- May a value leave a call? -/
def resOK : AV → Bool
 | .lit _ => true
 | .gl _ => true
 | .mp _ _ => true
 | .rp _ => true
 | .sl .bor _ _ => false
 | .sl _ _ _ => true
 | .agg cs => resOKL cs
 | .tup cs => resOKL cs
 | .ifc _ v => resOK v
 | .clo _ a b => resOKL a && resOKL b
 | .dead => true
 | .lp _ _ => true
 | .ml _ _ _ _ _ _ => true
 | .mf _ _ => true
 | _ => false
def resOKL : List AV → Bool
 | [] => true
 | x :: xs => resOK x && resOKL xs
end
mutual
/-- A call's owners' marks get the call's own name in front. -/
def retag (d : Nat) : AV → AV
 | .sl (.own t) e rows => .sl (.own (d :: t)) e rows
 | .sl (.fr t) e rows => .sl (.fr (d :: t)) e rows
 | .mf t al => .mf (d :: t) al
 | .agg cs => .agg (retagL d cs)
 | .tup cs => .tup (retagL d cs)
 | .clo f a b => .clo f (retagL d a) (retagL d b)
 | .ifc t v => .ifc t (retag d v)
 | x => x
def retagL (d : Nat) : List AV → List AV
 | [] => []
 | x :: xs => retag d x :: retagL d xs
end
mutual
/-- Cells that were lent get their owner's names again. -/
def unlend (m : List (Nat × Nat)) : AV → AV
 | .lp k o => match lentOf m k with | some c => .lp c o | none => .dead
 | .ml k o n cap g e => match lentOf m k with | some c => .ml c o n cap g e | none => .dead
 | .agg cs => .agg (unlendL m cs)
 | .tup cs => .tup (unlendL m cs)
 | .clo f a b => .clo f (unlendL m a) (unlendL m b)
 | .ifc t v => .ifc t (unlend m v)
 | x => x
def unlendL (m : List (Nat × Nat)) : List AV → List AV
 | [] => []
 | x :: xs => unlend m x :: unlendL m xs
end
structure RE.Start (R : RE) : Prop where
 own : ∀ g τ,¬ R.own g τ
 S : ∀ b o,R.S b o → b < R.w.heap.size
 Bok : ∀ b,R.B b → b < R.w.heap.size ∧ ¬ R.M b
 Mlt : ∀ k,R.M k → k < R.w.heap.size
 MS : ∀ k,R.M k → ∀ o,¬ R.S k o
 loc1 : ∀ c c' b,R.loc c = some b → R.loc c' = some b → c = c'
 lim : ∀ c b,R.loc c = some b → 100000 ≤ c
 mloc : ∀ c,R.mloc c = none
 glob : ∀ g ∈ GS,R.w.cell? ⟨g,0,none⟩ = some (.iface (R.G g).1 (.pointer (some (R.G g).2)))
 globM : ∀ g ∈ GS,¬ R.M g
 globD : GOK fun g => R.w.heap[g]?
 globB : ∀ g ∈ GB,¬ R.M g
 gsent : ∀ g ∈ GS,(R.G g).1 = GT ∧ (∃ cs ty,R.w.heap[(R.G g).2.block]? = some (.cells cs ty (0,0))) ∧ ¬ R.M (R.G g).2.block
 gdist : ∀ g ∈ GS,∀ k ∈ GS,(R.G g).2 = (R.G k).2 → g = k
def RE.Holds (R E : RE) (c0 : List (Nat × List AV)) : Prop:= ∀ c b,R.loc c = some b → ∃ cs vals ty,getC c0 c = some cs ∧ E.w.heap[b]? = some (.cells vals ty (0,0)) ∧ RepL E.closed cs vals.toList ∧ ∀ u ∈ vals.toList,u.oneCell' = true
structure After (R E : RE) : Prop where
 below : BelowX R.M R.w E.w
 MS : ∀ k,R.M k → ∀ o,¬ E.S k o
 S0 : ∀ b o,b < R.w.heap.size → (E.S b o ↔ R.S b o)
 Slt : ∀ b o,E.S b o → b < E.w.heap.size
 G : E.G = R.G
 ownlt : ∀ g τ,E.own g τ → R.w.heap.size ≤ g ∧ g < E.w.heap.size
 own1 : ∀ g τ τ',E.own g τ → E.own g τ' → τ = τ'
 loc : ∀ c b,E.loc c = some b → R.loc c = some b
def Enters (P : Program) (f : FuncId) : Prop:= ∀ (args : Array Value) (w : World),(callFunc f args).run P w = .ok (.enter f args) w
structure AM (P : Program) (f : FuncId) (args : List AV) (c0 : List (Nat × List AV)) (r : AV) (c1 : List (Nat × List AV)) : Prop where
 res : resOK r = true
 enters : Enters P f
 calls : ∀ (R : RE) (cargs : List Value),R.Start → R.Holds R c0 → (∀ c cs,getC c0 c = some cs → ∃ b,R.loc c = some b) → RepL R args cargs → Calls P f cargs.toArray R.w fun e w' => ∃ v E',e = .returned v ∧ E'.w = w' ∧ Rep E' r v ∧ After R E' ∧ R.Holds E' c1
def AC (P : Program) (f : FuncId) (args : List AV) (r : AV) : Prop:= AM P f args [] r []
theorem enters_of {P : Program} {f : FuncId} {fn : Func} (hf : P.funcs[f]? = some fn) (hn : (fn.name == "runtime.NumGoroutine") = false) (hb : fn.body.isNone = false) : Enters P f:= by
 intro args w
 unfold callFunc
 have hn' : ¬ (fn.name = "runtime.NumGoroutine"):= by simpa using hn
 have hb' : ¬ (fn.body = none):= fun e => by rw [e] at hb; cases hb
 simp [program,Sem.run,Bind.bind,Sem.bind,hf,hn',hb',Pure.pure]
section
variable {P : Program} {R : RE} {N : Nat} {env : Env} {a : Act} {E : RE}
def RE.lend (E : RE) (m : List (Nat × Nat)) : RE :=
 { E with B:= fun b => b < E.w.heap.size ∧ ¬ ∃ k,(lentOf m k).bind E.loc = some b,loc:= fun k => (lentOf m k).bind E.loc,own:= fun _ _ => False,mloc:= fun _ => none }
def mOK (m : List (Nat × Nat)) : Bool:= m.all fun q => lentAs m q.1 == some q.2 && lentOf m q.2 == some q.1 && decide (100000 ≤ q.2)
theorem lentAs_mem {m : List (Nat × Nat)} {c k : Nat} (h : lentAs m c = some k) : (c,k) ∈ m:= by
 induction m with
 | nil => cases h
 | cons q r ih =>
  obtain ⟨c',k'⟩:= q
  simp only [lentAs] at h
  split at h
  ·rename_i e
   injection h with h
   subst e h
   simp
  ·exact List.mem_cons_of_mem _ (ih h)
theorem lentOf_mem {m : List (Nat × Nat)} {c k : Nat} (h : lentOf m k = some c) : (c,k) ∈ m:= by
 induction m with
 | nil => cases h
 | cons q r ih =>
  obtain ⟨c',k'⟩:= q
  simp only [lentOf] at h
  split at h
  ·rename_i e
   injection h with h
   subst e h
   simp
  ·exact List.mem_cons_of_mem _ (ih h)
theorem lent_iff {m : List (Nat × Nat)} (hm : mOK m = true) {c k : Nat} : lentAs m c = some k ↔ lentOf m k = some c:= by
 simp only [mOK,List.all_eq_true,Bool.and_eq_true,beq_iff_eq] at hm
 exact ⟨fun h => (hm _ (lentAs_mem h)).1.2,fun h => (hm _ (lentOf_mem h)).1.1⟩
theorem lent_lim {m : List (Nat × Nat)} (hm : mOK m = true) {c k : Nat} (h : lentOf m k = some c) : 100000 ≤ k:= by
 simp only [mOK,List.all_eq_true,Bool.and_eq_true,beq_iff_eq,decide_eq_true_eq] at hm
 exact (hm _ (lentOf_mem h)).2
theorem Inv.glob (h : Inv R N env a E) (hR : R.Start) : ∀ g ∈ GS,E.w.cell? ⟨g,0,none⟩ = some (.iface (E.G g).1 (.pointer (some (E.G g).2))):= by
 intro g hg
 have:= hR.glob g hg
 have hlt:= World.block_lt_of_cell? R.w _ this
 rw [h.below.cell hlt (hR.globM g hg),this,h.G]
theorem Inv.sent (h : Inv R N env a E) (hR : R.Start) : ∀ g ∈ GS,(E.G g).1 = GT ∧ ∃ cs ty,E.w.heap[(E.G g).2.block]? = some (.cells cs ty (0,0)):= by
 intro g hg
 obtain ⟨h1,⟨cs,ty,h2⟩,h3⟩:= hR.gsent g hg
 rw [h.G]
 exact ⟨h1,cs,ty,(h.below.block _ (lt_of_heap h2) h3).trans h2⟩
theorem Inv.lentB (h : Inv R N env a E) {m : List (Nat × Nat)} {k : Nat} (hk : (E.lend m).M k) : (R.w.heap.size ≤ k ∨ R.M k) ∧ k < E.w.heap.size ∧ ∀ o,¬ E.S k o:= by
 obtain ⟨c,hc⟩:= hk
 obtain ⟨c',_,hb⟩:= Option.bind_eq_some_iff.1 hc
 obtain ⟨h1,h2,_,_,_,_,_,hh,_⟩:= h.locc c' k hb
 exact ⟨h1.imp id fun e => ⟨c',e⟩,(Array.getElem?_eq_some_iff.1 hh).1,h2⟩
theorem Inv.start (h : Inv R N env a E) (hR : R.Start) {m : List (Nat × Nat)} (hm : mOK m = true) : (E.lend m).Start :=
 ⟨fun _ _ h => h,h.Slt,fun b hb => hb,fun k hk => (h.lentB hk).2.1,fun k hk => (h.lentB hk).2.2,fun c c' b h1 h2 => by
  obtain ⟨x,hx,hb⟩:= Option.bind_eq_some_iff.1 h1
  obtain ⟨y,hy,hb'⟩:= Option.bind_eq_some_iff.1 h2
  have:= h.loc1 x y b hb hb'
  subst this
  have e1:= (lent_iff hm).2 hx
  have e2:= (lent_iff hm).2 hy
  rw [e1] at e2
  injection e2,fun c b hb => by
  obtain ⟨x,hx,_⟩:= Option.bind_eq_some_iff.1 hb
  exact lent_lim hm hx,fun _ => rfl,h.glob hR,fun g hg hk => by
  have hlt:= World.block_lt_of_cell? R.w _ (hR.glob g hg)
  rcases (h.lentB hk).1 with h1 | h1
  ·have : g < R.w.heap.size:= hlt
   omega
  ·exact hR.globM g hg h1,hR.globD.congr fun g hg o hu => by
  have hlt : g < R.w.heap.size:= lt_of_heap hu
  exact (h.below.block g hlt (hR.globB g hg)).trans hu,fun g hg hk => by
  obtain ⟨u,hu⟩:= hR.globD.sm g hg
  have hlt:= lt_of_heap hu
  rcases (h.lentB hk).1 with h1 | h1
  ·have : g < R.w.heap.size:= hlt
   omega
  ·exact hR.globB g hg h1,fun g hg => by
  obtain ⟨h1,⟨cs,ty,h2⟩,h3⟩:= hR.gsent g hg
  have h4 : (E.lend m).G = R.G:= h.G
  rw [h4]
  refine ⟨h1,⟨cs,ty,(h.below.block _ (lt_of_heap h2) h3).trans h2⟩,fun hk => ?_⟩
  have hlt:= lt_of_heap h2
  rcases (h.lentB hk).1 with h5 | h5
  ·omega
  ·exact h3 h5,fun g hg k hk e => by
  have h4 : (E.lend m).G = R.G:= h.G
  rw [h4] at e
  exact hR.gdist g hg k hk e⟩
theorem mapO_rep {E E' : RE} {f : AV → Option AV} : ∀ {xs ys : List AV} {vs : List Value},(∀ x y v,f x = some y → Rep E x v → Rep E' y v) → mapO f xs = some ys → RepL E xs vs → RepL E' ys vs
 | [],ys,vs,_,h,hr => by
  simp only [mapO] at h
  injection h with h
  subst h
  simpa only [RepL] using hr
 | x :: xs,ys,vs,hf,h,hr => by
  simp only [mapO] at h
  split at h
  case h_2 => cases h
  rename_i y hy
  split at h
  case h_2 => cases h
  rename_i ys' hys
  injection h with h
  subst h
  simp only [RepL] at hr ⊢
  obtain ⟨v,ws,rfl,h1,h2⟩:= hr
  exact ⟨v,ws,rfl,hf _ _ _ hy h1,mapO_rep hf hys h2⟩
theorem Inv.lend_B (h : Inv R N env a E) {m : List (Nat × Nat)} {b : Nat} (hb : E.B b) : (E.lend m).B b:= by
 obtain ⟨h1,h2⟩:= h.Bok b hb
 refine ⟨Nat.lt_of_lt_of_le h1 h.below.size,fun hk => ?_⟩
 rcases (h.lentB hk).1 with h3 | h3
 ·omega
 ·exact h2 h3
theorem Inv.ext_callee (h : Inv R N env a E) (m : List (Nat × Nat)) : Ext E.bor (E.lend m).bor :=
 ⟨fun _ _ h => h,fun b hb => h.lend_B hb,fun _ _ _ _ hc => hc,fun _ _ _ _ hc => hc,fun c b hc => by simp [RE.bor] at hc,fun g τ hg => (hg : False).elim,rfl,fun c b hc => by simp [RE.bor] at hc⟩
theorem callee_closed (E : RE) (m : List (Nat × Nat)) : (E.lend m).closed = E.closed:= rfl
def chunkV (agg : Bool) (e : Nat) : Nat → List Value → List Value
 | 0,_ => []
 | n + 1,l => (match agg with | true => .agg (l.take e).toArray | false => (l.take 1).headD undef) :: chunkV agg e n (l.drop e)
theorem chunk_length (g : Bool) (e : Nat) : ∀ (n : Nat) (l : List AV),(chunk g e n l).length = n
 | 0,l => rfl
 | n + 1,l => by simp [chunk,chunk_length g e n]
theorem chunk_rep {E : RE} {g : Bool} {e : Nat} (hg : g = true ∨ e = 1) : ∀ (n : Nat) {l : List AV} {us : List Value},RepL E l us → us.length = n * e → (∀ u ∈ us,u.oneCell' = true) →
  RepL E (chunk g e n l) (chunkV g e n us) ∧ flat (chunkV g e n us) = us ∧ ∀ u ∈ chunkV g e n us,u.cells.size = e
 | 0,l,us,hr,hl,h1 => by
  have : us = []:= List.eq_nil_of_length_eq_zero (by simpa using hl)
  subst this
  simp [chunk,chunkV,RepL,flat]
 | n + 1,l,us,hr,hl,h1 => by
  have hl' : us.length = n * e + e:= by rw [hl,Nat.add_mul,Nat.one_mul]
  obtain ⟨k1,k2,k3⟩:= chunk_rep hg n (hr.drop e) (by rw [List.length_drop]; omega) fun u hu => h1 u (List.mem_of_mem_drop hu)
  have hflat : ∀ v : Value,flat (v :: chunkV g e n (us.drop e)) = v.cells.toList ++ us.drop e:= by intro v; show v.cells.toList ++ flat (chunkV g e n (us.drop e)) = _; rw [k2]
  cases g with
  | true =>
   refine ⟨?_,?_,?_⟩
   ·simp only [chunk,chunkV,RepL]
    exact ⟨_,_,rfl,by simp only [Rep]; exact ⟨_,rfl,hr.take e⟩,k1⟩
   ·simp only [chunkV]
    rw [hflat]
    simp [Value.cells]
   ·intro u hu
    simp only [chunkV] at hu
    rcases List.mem_cons.1 hu with rfl | hu
    ·simp [Value.cells]; omega
    ·exact k3 u hu
  | false =>
   have he : e = 1:= by simpa using hg
   subst he
   cases us with
   | nil => simp at hl'
   | cons u us =>
    cases l with
    | nil => simp [RepL] at hr
    | cons x xs =>
     simp only [RepL] at hr
     obtain ⟨v,ws,he,hx,hxs⟩:= hr
     injection he with e1 e2
     subst e1 e2
     have hu1 : u.cells = #[u]:= cells_one (h1 u (by simp))
     refine ⟨?_,?_,?_⟩
     ·simp only [chunk,chunkV,RepL,List.take_succ_cons,List.headD_cons]
      exact ⟨_,_,rfl,hx,k1⟩
     ·simp only [chunkV,List.take_succ_cons,List.headD_cons]
      rw [hflat,hu1]
      simp
     ·intro w hw
      simp only [chunkV,List.take_succ_cons,List.headD_cons] at hw
      rcases List.mem_cons.1 hw with rfl | hw
      ·rw [hu1]; rfl
      ·exact k3 w hw
theorem lower_rep (h : Inv R N env a E) {m : List (Nat × Nat)} (hm : mOK m = true) : ∀ (n : Nat) {x y : AV} {v : Value},lowerM m env.c n x = some y → Rep E x v → Rep (E.lend m) y v
 | 0,x,y,v,hl,hr => by simp [lowerM] at hl
 | n + 1,x,y,v,hl,hr => by
  have ih : ∀ x y v,lowerM m env.c n x = some y → Rep E x v → Rep (E.lend m) y v:= fun x y v => lower_rep h hm n
  cases x with
  | lit u => simp only [lowerM] at hl; injection hl with hl; subst hl; simpa only [Rep] using hr
  | gl i => simp only [lowerM] at hl; injection hl with hl; subst hl; simp only [Rep] at hr ⊢; exact hr
  | gp g => simp only [lowerM] at hl; injection hl with hl; subst hl; simpa only [Rep] using hr
  | dead => simp only [lowerM] at hl; injection hl with hl; subst hl; simp only [Rep]
  | mp k vs => simp only [lowerM] at hl; injection hl with hl; subst hl; simp only [Rep,callee_closed] at hr ⊢; exact hr
  | rp cs => simp only [lowerM] at hl; injection hl with hl; subst hl; simp only [Rep,callee_closed] at hr ⊢; exact hr
  | tup cs => simp [lowerM] at hl
  | mu c k vs => simp [lowerM] at hl
  | mf c al => simp [lowerM] at hl
  | bp cs =>
   simp only [lowerM] at hl
   injection hl with hl
   subst hl
   simp only [Rep] at hr ⊢
   obtain ⟨b,o,vs,rfl,h1,h2⟩:= hr
   exact ⟨b,o,vs,rfl,h1.mono (h.ext_callee m),h2.mono (fun b o hb => h.lend_B hb) fun _ _ _ _ hc => hc⟩
  | sl t e rows =>
   simp only [lowerM] at hl
   injection hl with hl
   subst hl
   simp only [Rep,callee_closed] at hr ⊢
   obtain ⟨A,cap,vs,rfl,hcap,hrr,he,ho,ht⟩:= hr
   refine ⟨A,cap,vs,rfl,hcap,hrr,he,ho,?_⟩
   cases t with
   | none => exact ht
   | nil => exact ht
   | bor =>
    intro hne
    obtain ⟨b,o,hA,hat⟩:= ht hne
    exact ⟨b,o,hA,hat.mono (fun b o hb => h.lend_B hb) fun _ _ _ _ hc => hc⟩
   | own τ =>
    intro hne
    rcases ht with ⟨_,h0⟩ | ⟨g,cur,ty,hA,hat,_⟩
    ·exact absurd (List.eq_nil_of_length_eq_zero (by omega)) hne
    ·exact ⟨g,0,hA,hat⟩
   | gone => trivial
   | fr τ =>
    intro hne
    rcases ht with ⟨h0,_⟩ | ⟨g,cur,ty,hA,hat,_,_,_,hn,_⟩
    ·exact absurd h0 hne
    ·have hlt:= (h.ownlt g τ hn).2
     refine ⟨g,0,hA,fun j u hj => ⟨⟨hlt,?_⟩,(hat j u hj).2⟩⟩
     rintro ⟨k,hk⟩
     obtain ⟨c,_,hb⟩:= Option.bind_eq_some_iff.1 hk
     exact (h.locc c g hb).2.2.1 τ hn
  | agg cs =>
   simp only [lowerM] at hl
   split at hl
   ·rename_i l hml
    injection hl with hl
    subst hl
    simp only [Rep] at hr ⊢
    obtain ⟨vs,rfl,hr⟩:= hr
    exact ⟨vs,rfl,mapO_rep ih hml hr⟩
   ·cases hl
  | clo f p q =>
   simp only [lowerM] at hl
   split at hl
   ·rename_i l hml
    split at hl
    ·rename_i m hmm
     injection hl with hl
     subst hl
     simp only [Rep] at hr ⊢
     obtain ⟨fs,cs,rfl,h1,h2⟩:= hr
     exact ⟨fs,cs,rfl,mapO_rep ih hml h1,mapO_rep ih hmm h2⟩
    ·cases hl
   ·cases hl
  | ifc t u =>
   simp only [lowerM] at hl
   split at hl
   ·rename_i l hml
    injection hl with hl
    subst hl
    simp only [Rep] at hr ⊢
    obtain ⟨w,rfl,h1⟩:= hr
    exact ⟨w,rfl,ih _ _ _ hml h1⟩
   ·cases hl
  | ml c o len cap g e =>
   simp only [lowerM] at hl
   simp only [Rep] at hr
   obtain ⟨b,hb,rfl⟩:= hr
   split at hl
   ·rename_i k hk
    injection hl with hl
    subst hl
    simp only [Rep]
    refine ⟨b,?_,rfl⟩
    show (lentOf m k).bind E.loc = some b
    rw [(lent_iff hm).1 hk]
    exact hb
   ·rename_i hk
    split at hl
    ·rename_i cs hcs
     split at hl
     ·rename_i hcond
      split at hl
      ·rename_i l hml
       injection hl with hl
       subst hl
       obtain ⟨h1,h2,h3,cs',vals,ty,hcs',hh,hrr,ho⟩:= h.locc c b hb
       rw [hcs] at hcs'
       injection hcs' with hcs'
       subst hcs'
       have hrl:= hrr.length
       have hq : RepL E.closed l ((vals.toList.drop o).take (len * e)):= mapO_rep (fun x y v hx hr => close_rep h hx hr) hml ((hrr.drop o).take _)
       obtain ⟨k1,k2,k3⟩:= chunk_rep hcond.2.2 len hq (by rw [List.length_take,List.length_drop]; omega) fun u hu => ho u (List.mem_of_mem_drop (List.mem_of_mem_take hu))
       simp only [Rep,callee_closed]
       refine ⟨_,cap,_,by rw [chunk_length],by rw [chunk_length]; exact hcond.2.1,k1,k3,fun u hu => ?_,fun _ => ⟨b,o,rfl,?_⟩⟩
       ·rw [k2] at hu
        exact ho u (List.mem_of_mem_drop (List.mem_of_mem_take hu))
       ·rw [k2]
        intro j u hj
        refine ⟨⟨lt_of_heap hh,?_⟩,?_⟩
        ·rintro ⟨k,hkb⟩
         obtain ⟨c',hc',hb'⟩:= Option.bind_eq_some_iff.1 hkb
         have:= h.loc1 c c' b hb hb'
         subst this
         rw [(lent_iff hm).2 hc'] at hk
         cases hk
        ·rw [List.getElem?_take] at hj
         split at hj
         ·rw [List.getElem?_drop] at hj
          show E.w.cell? _ = _
          simp [World.cell?,hh]
          simpa using hj
         ·cases hj
      ·cases hl
     ·cases hl
    ·cases hl
  | lp c o =>
   simp only [lowerM] at hl
   simp only [Rep] at hr
   obtain ⟨b,hb,rfl⟩:= hr
   split at hl
   ·rename_i k hk
    injection hl with hl
    subst hl
    simp only [Rep]
    refine ⟨b,?_,rfl⟩
    show (lentOf m k).bind E.loc = some b
    rw [(lent_iff hm).1 hk]
    exact hb
   ·rename_i hk
    split at hl
    ·rename_i cs hcs
     split at hl
     ·rename_i l hml
      injection hl with hl
      subst hl
      obtain ⟨h1,h2,h3,cs',vals,ty,hcs',hh,hrr,_⟩:= h.locc c b hb
      rw [hcs] at hcs'
      injection hcs' with hcs'
      subst hcs'
      simp only [Rep]
      refine ⟨b,o,vals.toList.drop o,rfl,?_,fun j u hj => ⟨⟨lt_of_heap hh,?_⟩,?_⟩⟩
      ·cases m with
       | nil => exact mapO_rep ih hml (hrr.drop o)
       | cons q r => exact (mapO_rep (E':= E.closed) (fun x y v hx hr => close_rep h hx hr) hml (hrr.drop o)).mono ((Ext.closed_bor (E.lend (q :: r))))
      ·rintro ⟨k,hkb⟩
       obtain ⟨c',hc',hb'⟩:= Option.bind_eq_some_iff.1 hkb
       have:= h.loc1 c c' b hb hb'
       subst this
       rw [(lent_iff hm).2 hc'] at hk
       cases hk
      ·rw [List.getElem?_drop] at hj
       show E.w.cell? _ = _
       simp [World.cell?,hh]
       simpa using hj
     ·cases hl
    ·cases hl
mutual
theorem retag_rep {E E' : RE} (d : Nat) (hx : Ext E.closed E'.closed) (ho : ∀ g τ,E.own g τ → E'.own g (d :: τ)) (hw : E'.w = E.w) (hS : E'.S = E.S) (hG : E'.G = E.G) (hl : ∀ c b,E.loc c = some b → E'.loc c = some b) : ∀ {x : AV} {v : Value},resOK x = true → Rep E x v → Rep E' (retag d x) v
 | .lit u,v,_,h => by simpa only [retag,Rep] using h
 | .gl i,v,_,h => by simp only [retag,Rep] at h ⊢; rw [hG]; exact h
 | .mp k vs,v,_,h => by
  simp only [retag]
  simp only [Rep] at h ⊢
  obtain ⟨b,es,ck,vs',rfl,hh,hs,hk,hv,hr⟩:= h
  exact ⟨b,es,ck,vs',rfl,by rw [hw]; exact hh,by rw [hS]; exact hs,hk,hv,hr.mono hx⟩
 | .rp cs,v,_,h => by
  simp only [retag]
  simp only [Rep] at h ⊢
  obtain ⟨b,o,vs,rfl,hr,hat⟩:= h
  exact ⟨b,o,vs,rfl,hr.mono hx,by rw [hw,hS]; exact hat⟩
 | .sl .none e rows,v,_,h => by
  simp only [retag]
  simp only [Rep] at h ⊢
  obtain ⟨A,cap,vs,rfl,hcap,hr,he,h1,ht⟩:= h
  exact ⟨A,cap,vs,rfl,hcap,hr.mono hx,he,h1,by rw [hw,hS]; exact ht⟩
 | .sl .nil e rows,v,_,h => by
  simp only [retag]
  simp only [Rep] at h ⊢
  obtain ⟨A,cap,vs,rfl,hcap,hr,he,h1,ht⟩:= h
  exact ⟨A,cap,vs,rfl,hcap,hr.mono hx,he,h1,ht⟩
 | .sl .bor e rows,v,hk,h => by simp [resOK] at hk
 | .sl (.own τ) e rows,v,_,h => by
  simp only [retag]
  simp only [Rep] at h ⊢
  obtain ⟨A,cap,vs,rfl,hcap,hr,he,h1,ht⟩:= h
  refine ⟨A,cap,vs,rfl,hcap,hr.mono hx,he,h1,?_⟩
  rcases ht with ht | ⟨g,cur,ty,ha,hat,hh,hm,hc,hown,hs⟩
  ·exact .inl ht
  ·exact .inr ⟨g,cur,ty,ha,by rw [hw,hS]; exact hat,by rw [hw]; exact hh,hm,hc,ho g τ hown,by rw [hS]; exact hs⟩
 | .sl .gone e rows,v,_,h => by
  simp only [retag]
  simp only [Rep] at h ⊢
  obtain ⟨A,cap,vs,rfl,hcap,hr,he,h1,ht⟩:= h
  exact ⟨A,cap,vs,rfl,hcap,hr.mono hx,he,h1,trivial⟩
 | .sl (.fr τ) e rows,v,_,h => by
  simp only [retag]
  simp only [Rep] at h ⊢
  obtain ⟨A,cap,vs,rfl,hcap,hr,he,h1,ht⟩:= h
  refine ⟨A,cap,vs,rfl,hcap,hr.mono hx,he,h1,?_⟩
  rcases ht with ht | ⟨g,cur,ty,ha,hat,hh,hm,hc,hown,hs,h2⟩
  ·exact .inl ht
  ·exact .inr ⟨g,cur,ty,ha,by rw [hw]; exact hat,by rw [hw]; exact hh,hm,hc,ho g τ hown,by rw [hS]; exact hs,h2⟩
 | .mu τ k vs,v,hk,h => by simp [resOK] at hk
 | .mf τ al,v,_,h => by
  simp only [retag]
  simp only [Rep] at h ⊢
  obtain ⟨b,rfl,h⟩:= h
  refine ⟨b,rfl,fun e => ?_⟩
  obtain ⟨hh,hown,hs⟩:= h e
  exact ⟨by rw [hw]; exact hh,ho b τ hown,by rw [hS]; exact hs⟩
 | .agg cs,v,hk,h => by
  simp only [resOK] at hk
  simp only [retag,Rep] at h ⊢
  obtain ⟨vs,rfl,h⟩:= h
  exact ⟨vs,rfl,retagL_rep d hx ho hw hS hG hl hk h⟩
 | .tup cs,v,hk,h => by
  simp only [resOK] at hk
  simp only [retag,Rep] at h ⊢
  obtain ⟨vs,rfl,h⟩:= h
  exact ⟨vs,rfl,retagL_rep d hx ho hw hS hG hl hk h⟩
 | .ifc t x,v,hk,h => by
  simp only [resOK] at hk
  simp only [retag,Rep] at h ⊢
  obtain ⟨u,rfl,h⟩:= h
  exact ⟨u,rfl,retag_rep d hx ho hw hS hG hl hk h⟩
 | .bp cs,v,hk,h => by simp [resOK] at hk
 | .lp c o,v,hk,h => by
  simp only [retag,Rep] at h ⊢
  obtain ⟨b,hb,rfl⟩:= h
  exact ⟨b,hl _ _ hb,rfl⟩
 | .ml c o n k g e,v,hk,h => by
  simp only [retag,Rep] at h ⊢
  obtain ⟨b,hb,rfl⟩:= h
  exact ⟨b,hl _ _ hb,rfl⟩
 | .clo f p q,v,hk,h => by
  simp only [resOK,Bool.and_eq_true] at hk
  simp only [retag,Rep] at h ⊢
  obtain ⟨fs,cs,rfl,h1,h2⟩:= h
  exact ⟨fs,cs,rfl,retagL_rep d hx ho hw hS hG hl hk.1 h1,retagL_rep d hx ho hw hS hG hl hk.2 h2⟩
 | .gp g,v,hk,h => by simp [resOK] at hk
 | .dead,v,hk,h => by simp only [retag,Rep]
theorem retagL_rep {E E' : RE} (d : Nat) (hx : Ext E.closed E'.closed) (ho : ∀ g τ,E.own g τ → E'.own g (d :: τ)) (hw : E'.w = E.w) (hS : E'.S = E.S) (hG : E'.G = E.G) (hl : ∀ c b,E.loc c = some b → E'.loc c = some b) : ∀ {xs : List AV} {vs : List Value},resOKL xs = true → RepL E xs vs → RepL E' (retagL d xs) vs
 | [],vs,_,h => by simpa only [retagL,RepL] using h
 | x :: xs,vs,hk,h => by
  simp only [resOKL,Bool.and_eq_true] at hk
  simp only [retagL,RepL] at h ⊢
  obtain ⟨v,ws,rfl,h1,h2⟩:= h
  exact ⟨v,ws,rfl,retag_rep d hx ho hw hS hG hl hk.1 h1,retagL_rep d hx ho hw hS hG hl hk.2 h2⟩
end
def RE.setL (E : RE) (L : Nat → Option Nat) : RE:= { E with loc:= L }
theorem setL_closed (E : RE) (L : Nat → Option Nat) : (E.setL L).closed = E.closed:= rfl
theorem setL_bor (E : RE) (L : Nat → Option Nat) : (E.setL L).bor = E.bor:= rfl
mutual
theorem unlend_rep {E : RE} (m : List (Nat × Nat)) {L : Nat → Option Nat} (hl : ∀ k b,E.loc k = some b → ∃ c,lentOf m k = some c ∧ L c = some b) : ∀ {x : AV} {v : Value},Rep E x v → Rep (E.setL L) (unlend m x) v
 | .lit u,v,h => by simpa only [unlend,Rep] using h
 | .gl i,v,h => by simp only [unlend,Rep] at h ⊢; exact h
 | .gp i,v,h => by simpa only [unlend,Rep] using h
 | .mp k vs,v,h => by simp only [unlend]; simp only [Rep,setL_closed] at h ⊢; exact h
 | .mu t k vs,v,h => by simp only [unlend]; simp only [Rep,setL_closed] at h ⊢; exact h
 | .rp cs,v,h => by simp only [unlend]; simp only [Rep,setL_closed] at h ⊢; exact h
 | .bp cs,v,h => by simp only [unlend]; simp only [Rep,setL_bor] at h ⊢; exact h
 | .sl .none e rows,v,h => by simp only [unlend]; simp only [Rep,setL_closed] at h ⊢; exact h
 | .sl .nil e rows,v,h => by simp only [unlend]; simp only [Rep,setL_closed] at h ⊢; exact h
 | .sl .bor e rows,v,h => by simp only [unlend]; simp only [Rep,setL_closed] at h ⊢; exact h
 | .sl (.own τ) e rows,v,h => by simp only [unlend]; simp only [Rep,setL_closed] at h ⊢; exact h
 | .sl (.fr τ) e rows,v,h => by simp only [unlend]; simp only [Rep,setL_closed] at h ⊢; exact h
 | .sl .gone e rows,v,h => by simp only [unlend]; simp only [Rep,setL_closed] at h ⊢; exact h
 | .mf t al,v,h => by simp only [unlend]; simp only [Rep] at h ⊢; exact h
 | .lp k o,v,h => by
  simp only [Rep] at h
  obtain ⟨b,hb,rfl⟩:= h
  obtain ⟨c,hc,hc'⟩:= hl _ _ hb
  simp only [unlend,hc,Rep]
  exact ⟨b,hc',rfl⟩
 | .ml k o n q g e,v,h => by
  simp only [Rep] at h
  obtain ⟨b,hb,rfl⟩:= h
  obtain ⟨c,hc,hc'⟩:= hl _ _ hb
  simp only [unlend,hc,Rep]
  exact ⟨b,hc',rfl⟩
 | .agg cs,v,h => by
  simp only [unlend,Rep] at h ⊢
  obtain ⟨vs,rfl,h⟩:= h
  exact ⟨vs,rfl,unlendL_rep m hl h⟩
 | .tup cs,v,h => by
  simp only [unlend,Rep] at h ⊢
  obtain ⟨vs,rfl,h⟩:= h
  exact ⟨vs,rfl,unlendL_rep m hl h⟩
 | .clo f p q,v,h => by
  simp only [unlend,Rep] at h ⊢
  obtain ⟨fs,cs,rfl,h1,h2⟩:= h
  exact ⟨fs,cs,rfl,unlendL_rep m hl h1,unlendL_rep m hl h2⟩
 | .ifc t x,v,h => by
  simp only [unlend,Rep] at h ⊢
  obtain ⟨u,rfl,h⟩:= h
  exact ⟨u,rfl,unlend_rep m hl h⟩
 | .dead,v,h => by simp only [unlend,Rep]
theorem unlendL_rep {E : RE} (m : List (Nat × Nat)) {L : Nat → Option Nat} (hl : ∀ k b,E.loc k = some b → ∃ c,lentOf m k = some c ∧ L c = some b) : ∀ {xs : List AV} {vs : List Value},RepL E xs vs → RepL (E.setL L) (unlendL m xs) vs
 | [],vs,h => by simpa only [unlendL,RepL] using h
 | x :: xs,vs,h => by
  simp only [unlendL,RepL] at h ⊢
  obtain ⟨v,ws,rfl,h1,h2⟩:= h
  exact ⟨v,ws,rfl,unlend_rep m hl h1,unlendL_rep m hl h2⟩
end
mutual
theorem resOK_unlend (m : List (Nat × Nat)) : ∀ {x : AV},resOK x = true → resOK (unlend m x) = true
 | .lit u,h => h
 | .gl i,h => h
 | .gp i,h => h
 | .mp k vs,h => h
 | .mu t k vs,h => h
 | .mf t al,h => h
 | .rp cs,h => h
 | .bp cs,h => h
 | .sl t e rows,h => h
 | .lp k o,h => by simp only [unlend]; split <;> rfl
 | .ml k o n q g e,h => by simp only [unlend]; split <;> rfl
 | .agg cs,h => by simp only [unlend,resOK] at h ⊢; exact resOKL_unlend m h
 | .tup cs,h => by simp only [unlend,resOK] at h ⊢; exact resOKL_unlend m h
 | .clo f p q,h => by simp only [unlend,resOK,Bool.and_eq_true] at h ⊢; exact ⟨resOKL_unlend m h.1,resOKL_unlend m h.2⟩
 | .ifc t x,h => by simp only [unlend,resOK] at h ⊢; exact resOK_unlend m h
 | .dead,h => h
theorem resOKL_unlend (m : List (Nat × Nat)) : ∀ {xs : List AV},resOKL xs = true → resOKL (unlendL m xs) = true
 | [],h => h
 | x :: xs,h => by simp only [unlendL,resOKL,Bool.and_eq_true] at h ⊢; exact ⟨resOK_unlend m h.1,resOKL_unlend m h.2⟩
end
def lentC (m : List (Nat × Nat)) (C : Nat → Option (List AV)) : Option (List (Nat × List AV)):= mapO (fun q => match C q.1 with
 | some cs => match mapO closeV cs with
  | some l => some (q.2,l)
  | none => none
 | none => none) m
def backC (m : List (Nat × Nat)) (c1 : List (Nat × List AV)) (env : Env) : Env:= ⟨env.s,fun c => match lentAs m c with
 | some k => (match env.c c with
  | some _ => getC c1 k
  | none => none)
 | none => env.c c⟩
theorem lentC_get {C : Nat → Option (List AV)} : ∀ {m : List (Nat × Nat)} {c0 : List (Nat × List AV)},lentC m C = some c0 →
  (∀ c k,(c,k) ∈ m → lentOf m k = some c → ∃ cs l,C c = some cs ∧ mapO closeV cs = some l ∧ getC c0 k = some l) ∧ ∀ k l,getC c0 k = some l → ∃ c,lentOf m k = some c
 | [],c0,h => by
  simp only [lentC,mapO] at h
  injection h with h
  subst h
  exact ⟨fun c k hm => by simp at hm,fun k l h => by simp [getC] at h⟩
 | (c',k') :: m,c0,h => by
  simp only [lentC,mapO] at h
  split at h
  case h_2 => cases h
  rename_i y hy
  split at h
  case h_2 => cases h
  rename_i ys hys
  injection h with h
  subst h
  split at hy
  case h_2 => cases hy
  rename_i cs hcs
  split at hy
  case h_2 => cases hy
  rename_i l hl
  injection hy with hy
  subst hy
  obtain ⟨ih1,ih2⟩:= lentC_get (m:= m) (c0:= ys) hys
  refine ⟨fun c k hmem hof => ?_,fun k x hx => ?_⟩
  ·simp only [lentOf] at hof
   simp only [getC]
   split at hof
   ·rename_i e
    injection hof with hof
    subst hof
    exact ⟨cs,l,hcs,hl,by rw [if_pos e]⟩
   ·rename_i e
    obtain ⟨cs2,l2,e1,e2,e3⟩:= ih1 c k (lentOf_mem hof) hof
    exact ⟨cs2,l2,e1,e2,by rw [if_neg e]; exact e3⟩
  ·simp only [getC] at hx
   simp only [lentOf]
   split at hx
   ·rename_i e; exact ⟨c',by rw [if_pos e]⟩
   ·rename_i e
    obtain ⟨c,hc⟩:= ih2 k x hx
    exact ⟨c,by rw [if_neg e]; exact hc⟩
theorem Inv.holds (h : Inv R N env a E) {m : List (Nat × Nat)} (hm : mOK m = true) {c0 : List (Nat × List AV)} (hc : lentC m env.c = some c0) :
  (E.lend m).Holds (E.lend m) c0 ∧ ∀ k cs,getC c0 k = some cs → ∃ b,(E.lend m).loc k = some b:= by
 obtain ⟨g1,g2⟩:= lentC_get hc
 refine ⟨fun k b hb => ?_,fun k cs hk => ?_⟩
 ·obtain ⟨c,hc',hb'⟩:= Option.bind_eq_some_iff.1 hb
  obtain ⟨cs,l,e1,e2,e3⟩:= g1 c k (lentOf_mem hc') hc'
  obtain ⟨_,_,_,cs',vals,ty,hcs',hh,hrr,ho⟩:= h.locc c b hb'
  rw [e1] at hcs'
  injection hcs' with hcs'
  subst hcs'
  exact ⟨l,vals,ty,e3,hh,mapO_rep (E':= E.closed) (fun x y v hx hr => close_rep h hx hr) e2 hrr,ho⟩
 ·obtain ⟨c,hc'⟩:= g2 k cs hk
  obtain ⟨cs',l,e1,_,_⟩:= g1 c k (lentOf_mem hc') hc'
  obtain ⟨b,hb⟩:= h.locd c cs' e1
  exact ⟨b,by show (lentOf m k).bind E.loc = some b; rw [hc']; exact hb⟩
theorem Inv.afterCall (h : Inv R N env a E) {m : List (Nat × Nat)} (hm : mOK m = true) {c0 c1 : List (Nat × List AV)} (hc0 : lentC m env.c = some c0) {E1 : RE} (ha : After (E.lend m) E1) (hh1 : (E.lend m).Holds E1 c1) (d : Nat) {r : AV} {v : Value} (hk : resOK r = true)
  (hr : Rep (E1.setL E.loc) r v) :
  ∃ E',E'.w = E1.w ∧ Inv R N (backC m c1 env) a E' ∧ Rep E' (retag d r) v:= by
 let E' : RE:= { E with w:= E1.w,S:= E1.S,own:= fun g t => E.own g t ∨ ∃ τ,t = d :: τ ∧ E1.own g τ }
 have hsz : E.w.heap.size ≤ E1.w.heap.size:= ha.below.size
 have hold : ∀ b,b < E.w.heap.size → ¬ (E.lend m).M b → E1.w.heap[b]? = E.w.heap[b]?:= ha.below.block
 have hS0 : ∀ b o,b < E.w.heap.size → (E1.S b o ↔ E.S b o):= ha.S0
 have hownlt : ∀ g τ,E1.own g τ → E.w.heap.size ≤ g ∧ g < E1.w.heap.size:= ha.ownlt
 have hSM : ∀ b o,E.S b o → ¬ (E.lend m).M b:= fun b o hs hM => (h.lentB hM).2.2 o hs
 have hBM : ∀ b,E.B b → ¬ (E.lend m).M b:= fun b hb => (h.lend_B (m:= m) hb).2
 have hownM : ∀ g τ,E.own g τ → ¬ (E.lend m).M g:= fun g τ hg ⟨k,hk⟩ => by
  obtain ⟨c,_,hb⟩:= Option.bind_eq_some_iff.1 hk
  exact (h.locc c g hb).2.2.1 τ hg
 have hmlM : ∀ t b,E.mloc t = some b → ¬ (E.lend m).M b:= fun t b hb ⟨k,hk⟩ => by
  obtain ⟨c,_,hb'⟩:= Option.bind_eq_some_iff.1 hk
  exact (h.mlocc t b hb).2.2.2.2 c hb'
 have hx : Ext E E':= by
  refine ⟨fun b o hs => (hS0 b o (h.Slt b o hs)).2 hs,fun _ hb => hb,fun b o u hb hc => ?_,fun b es ck hb hc => ?_,fun c b hc => hc,fun g τ hg => ⟨.inl hg,?_,fun o hs => ?_⟩,rfl,fun t b hb => ⟨?_,?_⟩⟩
  ·have hlt : b < E.w.heap.size:= hb.elim (h.Slt b o) fun hb => Nat.lt_of_lt_of_le (h.Bok b hb).1 h.below.size
   have hnM : ¬ (E.lend m).M b:= hb.elim (hSM b o) (hBM b)
   show E1.w.cell? _ = _
   simp only [World.cell?,hold b hlt hnM]
   exact hc
  ·exact (hold b (h.Slt b 0 hb) (hSM b 0 hb)).trans hc
  ·exact hold g (h.ownlt g τ hg).2 (hownM g τ hg)
  ·exact (hS0 g o (h.ownlt g τ hg).2).1 hs
  ·exact hb
  ·exact hold b (h.mlocc t b hb).2.1 (hmlM t b hb)
 have hxc : Ext (E1.setL E.loc).closed E'.closed:= ⟨fun _ _ h => h,fun _ h => h,fun _ _ _ _ hc => hc,fun _ _ _ _ hc => hc,fun c b hc => by simp [RE.closed] at hc,fun g τ hg => (hg : False).elim,ha.G.symm,fun c b hc => by simp [RE.closed] at hc⟩
 have hxc1 : Ext E1.closed E'.closed:= hxc
 have hbel : BelowX R.M R.w E1.w:= ⟨ha.below.os.trans h.below.os,ha.below.tape.trans h.below.tape,ha.below.output.trans h.below.output,Nat.le_trans h.below.size hsz,fun k hk hM => by
  rw [hold k (Nat.lt_of_lt_of_le hk h.below.size) (fun hM' => by
   rcases (h.lentB hM').1 with h1 | h1
   ·omega
   ·exact hM h1)]
  exact h.below.block k hk hM⟩
 refine ⟨E',rfl,⟨h.defers,h.Nlim,h.lentl,h.size,h.B,h.Bok,hbel,h.Mlt,fun k hk o hs => ?_,h.par,h.G,fun b o hb => ?_,ha.Slt,fun g t ht => ?_,fun g t t' h1 h2 => ?_,fun c b hb => ?_,fun c cs hc => ?_,h.loc1,fun t b hb => ?_,h.mloc1,fun k => (h.slots k).mono hx⟩,?_⟩
 ·exact h.MS k hk o ((hS0 k o (Nat.lt_of_lt_of_le (h.Mlt k hk) h.below.size)).1 hs)
 ·have:= h.below.size
  rw [← h.S0 b o hb]
  exact hS0 b o (by omega)
 ·rcases ht with ht | ⟨τ,rfl,ht⟩
  ·have:= h.ownlt g t ht; exact ⟨this.1,by show g < E1.w.heap.size; omega⟩
  ·have:= hownlt g τ ht; have:= h.below.size; exact ⟨by omega,by show g < E1.w.heap.size; omega⟩
 ·rcases h1 with h1 | ⟨τ,rfl,h1⟩ <;> rcases h2 with h2 | ⟨τ',rfl,h2⟩
  ·exact h.own1 g t t' h1 h2
  ·have:= (h.ownlt g _ h1).2; have:= (hownlt g _ h2).1; omega
  ·have:= (h.ownlt g _ h2).2; have:= (hownlt g _ h1).1; omega
  ·rw [ha.own1 g τ τ' h1 h2]
 ·obtain ⟨h1,h2,h3,cs,vals,ty,hcs,hh,hrr,ho⟩:= h.locc c b hb
  have hlt:= lt_of_heap hh
  have hS' : ∀ o,¬ E'.S b o:= fun o hs => h2 o ((hS0 b o hlt).1 hs)
  have hown' : ∀ t,¬ E'.own b t:= fun t ht => by
   rcases ht with ht | ⟨τ,rfl,ht⟩
   ·exact h3 t ht
   ·have:= (hownlt b τ ht).1; omega
  cases hl : lentAs m c with
  | some k =>
   have hloc : (E.lend m).loc k = some b:= by
    show (lentOf m k).bind E.loc = some b
    rw [(lent_iff hm).1 hl]
    exact hb
   obtain ⟨cs1,vals1,ty1,e1,e2,e3,e4⟩:= hh1 k b hloc
   exact ⟨h1,hS',hown',cs1,vals1,ty1,by simp only [backC,hl,hcs,e1],e2,(e3.mono hxc1).mono (Ext.closed_le E'),e4⟩
  | none =>
   have hnM : ¬ (E.lend m).M b:= by
    rintro ⟨k,hk⟩
    obtain ⟨c',hc',hb'⟩:= Option.bind_eq_some_iff.1 hk
    have:= h.loc1 c c' b hb hb'
    subst this
    rw [(lent_iff hm).2 hc'] at hl
    cases hl
   exact ⟨h1,hS',hown',cs,vals,ty,by simp only [backC,hl,hcs],(hold b hlt hnM).trans hh,hrr.mono hx,ho⟩
 ·simp only [backC] at hc
  split at hc
  ·split at hc
   ·rename_i hcs; exact h.locd c _ hcs
   ·cases hc
  ·exact h.locd c cs hc
 ·obtain ⟨h1,h2,h3,h4,h5⟩:= h.mlocc t b hb
  refine ⟨h1,by show b < E1.w.heap.size; omega,fun o hs => h3 o ((hS0 b o h2).1 hs),fun t ht => ?_,h5⟩
  rcases ht with ht | ⟨τ,rfl,ht⟩
  ·exact h4 t ht
  ·have:= (hownlt b τ ht).1; omega
 ·exact retag_rep (E:= E1.setL E.loc) (E':= E') d hxc (fun g τ hg => Or.inr ⟨τ,rfl,hg⟩) rfl rfl ha.G.symm (fun c b hb => hb) hk hr
theorem Ext.setL_of_none {E1 : RE} {L : Nat → Option Nat} (h : ∀ c,E1.loc c = none) : Ext E1 (E1.setL L) :=
 ⟨fun _ _ h => h,fun _ h => h,fun _ _ _ _ hc => hc,fun _ _ _ _ hc => hc,fun c b hc => (by rw [h c] at hc; cases hc),fun g τ hg => ⟨hg,rfl,fun _ h => h⟩,rfl,fun t b hb => ⟨hb,rfl⟩⟩
theorem wp_callM (hI : Inv R N env a E) (hR : R.Start) {o : Oper} {f : FuncId} {cargs : List Value} {args : List AV} {r : AV} {m : List (Nat × Nat)} {c0 c1 : List (Nat × List AV)} (hm : mOK m = true) (hc0 : lentC m env.c = some c0)
  (hex : (execOp a.eval o).run P E.w = (callFunc f cargs.toArray).run P E.w)
  (hargs : RepL (E.lend m) args cargs) (hac : AM P f args c0 r c1) {K : Act → World → Prop} {Q : Exit → Act → World → Prop}
  (hK : ∀ v E',Inv R N (backC m c1 env) a E' → Rep E' (retag (o.dst.getD 0) (unlend m r)) v → K (a.put o.dst v) E'.w) : o.wp P a E.w K Q:= by
 unfold Oper.wp
 rw [hex,hac.enters,Oper.upon_enter]
 obtain ⟨hh,hl⟩:= hI.holds hm hc0
 refine (hac.calls (E.lend m) cargs (hI.start hR hm) hh hl hargs).mono ?_
 rintro e w' ⟨v,E1,rfl,rfl,hr,ha,hh1⟩
 have hr2 : Rep (E1.setL E.loc) (unlend m r) v:= unlend_rep m (fun k b hb => by
  have:= ha.loc k b hb
  obtain ⟨c,hc,hb'⟩:= Option.bind_eq_some_iff.1 this
  exact ⟨c,hc,hb'⟩) hr
 obtain ⟨E',hw,hI',hr'⟩:= hI.afterCall hm hc0 ha hh1 (o.dst.getD 0) (resOK_unlend m hac.res) hr2
 have:= hK v E' hI' hr'
 rw [hw] at this
 exact this
theorem wp_callF (hI : Inv R N env a E) (hR : R.Start) {o : Oper} {f : FuncId} {cargs : List Value} {args : List AV} {r : AV} (hex : (execOp a.eval o).run P E.w = (callFunc f cargs.toArray).run P E.w)
  (hargs : RepL (E.lend []) args cargs) (hac : AC P f args r) {K : Act → World → Prop} {Q : Exit → Act → World → Prop}
  (hK : ∀ v E',Inv R N env a E' → Rep E' (retag (o.dst.getD 0) r) v → K (a.put o.dst v) E'.w) : o.wp P a E.w K Q:= by
 unfold Oper.wp
 rw [hex,AM.enters hac,Oper.upon_enter]
 obtain ⟨hh,hl⟩:= hI.holds (m:= []) (c0:= []) rfl rfl
 refine (AM.calls hac (E.lend []) cargs (hI.start hR rfl) hh hl hargs).mono ?_
 rintro e w' ⟨v,E1,rfl,rfl,hr,ha,hh1⟩
 have hr2 : Rep (E1.setL E.loc) r v:= hr.mono (Ext.setL_of_none fun c => by
  cases hc : E1.loc c with
  | none => rfl
  | some b => have:= ha.loc c b hc; cases this)
 obtain ⟨E',hw,hI',hr'⟩:= hI.afterCall (m:= []) rfl rfl ha hh1 (o.dst.getD 0) (AM.res hac) hr2
 have:= hK v E' hI' hr'
 rw [hw] at this
 exact this
end
end Go.Proofs.YtnndbbmidoidpaaGreatDoor.VL
end

section
namespace Go.Proofs.YtnndbbmidoidpaaGreatDoor.VL
open Go.RowKit
section
variable {P : Program} {R : RE} {N : Nat} {env : Env} {a : Act} {E : RE}
def eqV1 : CK → Value → Value → Option Bool
 | .int,.int k a,.int k' b => if k = k' then some (a == b) else none
 | .bool,.bool a,.bool b => some (a == b)
 | .str,.string a,.string b => some (a == b)
 | _,_,_ => none
def eqVals : List CK → List Value → List Value → Option Bool
 | [],[],[] => some true
 | k :: ks,x :: xs,y :: ys => match eqV1 k x y with
  | some a => match eqVals ks xs ys with
   | some b => some (a && b)
   | none => none
  | none => none
 | _,_,_ => none
theorem eq1_vals {k : CK} {x y : AV} {u v : Value} {E : RE} {r : Bool} (h : eq1 k x y = some r) (hx : Rep E x u) (hy : Rep E y v) : eqV1 k u v = some r:= by
 unfold eq1 at h
 split at h
 ·split at h
  ·rename_i hk
   simp only [Rep] at hx hy
   subst hx hy
   simpa only [eqV1,if_pos hk] using h
  ·cases h
 ·simp only [Rep] at hx hy
  subst hx hy
  simpa only [eqV1] using h
 ·simp only [Rep] at hx hy
  subst hx hy
  simpa only [eqV1] using h
 ·cases h
theorem eqCells_vals {E : RE} : ∀ {ks : List CK} {xs ys : List AV} {us vs : List Value} {r : Bool},eqCells ks xs ys = some r → RepL E xs us → RepL E ys vs → eqVals ks us vs = some r
 | [],[],[],us,vs,r,h,hx,hy => by
  simp only [RepL] at hx hy
  subst hx hy
  simpa only [eqVals,eqCells] using h
 | k :: ks,x :: xs,y :: ys,us,vs,r,h,hx,hy => by
  simp only [RepL] at hx hy
  obtain ⟨u,us,rfl,hx1,hx2⟩:= hx
  obtain ⟨v,vs,rfl,hy1,hy2⟩:= hy
  simp only [eqCells] at h
  split at h
  ·rename_i p hp
   split at h
   ·rename_i q hq
    simp only [eqVals,eq1_vals hp hx1 hy1,eqCells_vals hq hx2 hy2]
    exact h
   ·cases h
  ·cases h
 | [],[],_ :: _,_,_,_,h,_,_ => by simp [eqCells] at h
 | [],_ :: _,_,_,_,_,h,_,_ => by simp [eqCells] at h
 | _ :: _,[],_,_,_,_,h,_,_ => by simp [eqCells] at h
 | _ :: _,_ :: _,[],_,_,_,h,_,_ => by simp [eqCells] at h
theorem ck_info {t : TypeId} {k : CK} (h : ckOf P t = some k) : ∃ i,P.info? t = some i ∧ i.size = 1 ∧ P.cellsOf t = 1 ∧ isAggB P t = some false ∧
  match k with
  | .int => ∃ q,P.underlying t = some (.int q)
  | .bool => P.underlying t = some .bool
  | .str => P.underlying t = some .string:= by
 unfold ckOf at h
 split at h
 ·rename_i i hi
  split at h
  ·rename_i hs
   have hc : P.cellsOf t = 1:= by simp [Program.cellsOf,hi,hs]
   split at h
   ·rename_i q hq
    injection h with h
    subst h
    exact ⟨i,hi,hs,hc,by simp [isAggB,hq],q,hq⟩
   ·rename_i hq
    injection h with h
    subst h
    exact ⟨i,hi,hs,hc,by simp [isAggB,hq],hq⟩
   ·rename_i hq
    injection h with h
    subst h
    exact ⟨i,hi,hs,hc,by simp [isAggB,hq],hq⟩
   ·cases h
  ·cases h
 ·cases h
theorem run_part1 {t : TypeId} {k : CK} (h : ckOf P t = some k) (w : World) (us : List Value) (off : Nat) {u : Value} (hu : us[off]? = some u) : (part t us.toArray off).run P w = .ok u w:= by
 obtain ⟨i,hi,hs,_,hb,_⟩:= ck_info h
 simp [part,Sem.run_bind,run_isAgg hb,hu,Sem.run]
theorem run_eq1 {t : TypeId} {k : CK} (h : ckOf P t = some k) (w : World) (d : Nat) {u v : Value} {r : Bool} (he : eqV1 k u v = some r) : (Op.equalIn (d + 1) t u v).run P w = .ok r w:= by
 obtain ⟨i,hi,hs,_,hb,hk⟩:= ck_info h
 unfold eqV1 at he
 split at he
 ·obtain ⟨q,hq⟩:= hk
  split at he
  ·rename_i a k' b e
   injection he with he
   subst e he
   exact run_equalIn_int w d t _ q _ _ hq
  ·cases he
 ·injection he with he
  subst he
  exact run_equalIn_bool w d t _ _ hk
 ·injection he with he
  subst he
  rw [run_equalIn_string w d t _ _ hk,beq_toListBytes]
 ·cases he
theorem run_eqFields_plan (w : World) (d : Nat) (us vs : List Value) : ∀ (fs : List Field) (ks : List CK) (k : Nat) {r : Bool},fs.map (·.offset) = List.range' k fs.length → (fs.all fun f => f.name ≠ "_") = true →
  eqPlan.mapCK P (fs.map (·.type)) = some ks → eqVals ks (us.drop k) (vs.drop k) = some r → (Op.eqFields (d + 1) us.toArray vs.toArray fs).run P w = .ok r w
 | [],ks,k,r,_,_,hks,hr => by
  simp only [List.map_nil,eqPlan.mapCK] at hks
  injection hks with hks
  subst hks
  unfold eqVals at hr
  split at hr
  ·injection hr with hr
   subst hr
   simp [Op.eqFields]
  ·rename_i h1 h2 h3; cases h1
  ·cases hr
 | f :: fs,ks,k,r,ho,hn,hks,hr => by
  simp only [List.map_cons,List.length_cons,List.range'_succ,List.cons.injEq] at ho
  simp only [List.all_cons,Bool.and_eq_true] at hn
  simp only [List.map_cons,eqPlan.mapCK] at hks
  split at hks
  ·rename_i c hc
   split at hks
   ·rename_i cs hcs
    injection hks with hks
    subst hks
    cases hud : us.drop k with
    | nil => rw [hud] at hr; simp [eqVals] at hr
    | cons u us' =>
     cases hvd : vs.drop k with
     | nil => rw [hud,hvd] at hr; simp [eqVals] at hr
     | cons v vs' =>
      rw [hud,hvd] at hr
      simp only [eqVals] at hr
      have hu : us[k]? = some u:= by
       have:= List.getElem?_drop (xs:= us) (i:= k) (j:= 0)
       rw [hud] at this
       simpa using this.symm
      have hv : vs[k]? = some v:= by
       have:= List.getElem?_drop (xs:= vs) (i:= k) (j:= 0)
       rw [hvd] at this
       simpa using this.symm
      have hus : us.drop (k + 1) = us':= by rw [← List.tail_drop,hud]; rfl
      have hvs : vs.drop (k + 1) = vs':= by rw [← List.tail_drop,hvd]; rfl
      split at hr
      ·rename_i p hp
       split at hr
       ·rename_i q hq
        injection hr with hr
        have ih:= run_eqFields_plan w d us vs fs cs (k + 1) ho.2 hn.2 hcs (by rw [hus,hvs]; exact hq)
        have hne : f.name ≠ "_":= by simpa using hn.1
        simp only [Op.eqFields,hne,ne_eq,not_false_eq_true,if_true,Sem.run_bind,ho.1,run_part1 hc w us k hu,run_part1 hc w vs k hv,Result.andThen_ok,run_eq1 hc w d hp]
        subst hr
        cases p
        ·simp
        ·simpa using ih
       ·cases hr
      ·cases hr
   ·cases hks
  ·cases hks
theorem run_eqItems_plan {e : TypeId} {c : CK} (hc : ckOf P e = some c) (w : World) (d : Nat) (us vs : List Value) : ∀ (n k : Nat) {r : Bool},eqVals (List.replicate n c) (us.drop k) (vs.drop k) = some r →
  (Op.eqItems (d + 1) e (P.cellsOf e) us.toArray vs.toArray (List.range' k n)).run P w = .ok r w
 | 0,k,r,hr => by
  simp only [List.replicate_zero] at hr
  unfold eqVals at hr
  split at hr
  ·injection hr with hr
   subst hr
   simp [Op.eqItems]
  ·rename_i h1 h2 h3; cases h1
  ·cases hr
 | n + 1,k,r,hr => by
  simp only [List.replicate_succ] at hr
  cases hud : us.drop k with
  | nil => rw [hud] at hr; simp [eqVals] at hr
  | cons u us' =>
   cases hvd : vs.drop k with
   | nil => rw [hud,hvd] at hr; simp [eqVals] at hr
   | cons v vs' =>
    rw [hud,hvd] at hr
    simp only [eqVals] at hr
    have hu : us[k]? = some u:= by
     have:= List.getElem?_drop (xs:= us) (i:= k) (j:= 0)
     rw [hud] at this
     simpa using this.symm
    have hv : vs[k]? = some v:= by
     have:= List.getElem?_drop (xs:= vs) (i:= k) (j:= 0)
     rw [hvd] at this
     simpa using this.symm
    have hus : us.drop (k + 1) = us':= by rw [← List.tail_drop,hud]; rfl
    have hvs : vs.drop (k + 1) = vs':= by rw [← List.tail_drop,hvd]; rfl
    obtain ⟨_,_,_,h1,_⟩:= ck_info hc
    split at hr
    ·rename_i p hp
     split at hr
     ·rename_i q hq
      injection hr with hr
      have ih:= run_eqItems_plan hc w d us vs n (k + 1) (by rw [hus,hvs]; exact hq)
      rw [h1] at ih ⊢
      simp only [List.range'_succ,Op.eqItems,Sem.run_bind,Nat.mul_one,run_part1 hc w us k hu,run_part1 hc w vs k hv,Result.andThen_ok,run_eq1 hc w d hp]
      subst hr
      cases p
      ·simp
      ·simpa using ih
     ·cases hr
    ·cases hr
theorem val_eqa (hI : Inv R N env a E) {o : Oper} {op : BinOp} {neg : Bool} {t t' : TypeId} {y z : Operand} (ho : o.op = .binOp op t y z t') (hop : op = if neg then .neq else .eql)
  {x : AV} (h : aval env (eqaRes P neg t y z) = some x) : ValOK P E a o x:= by
 unfold eqaRes at h
 split at h
 case isFalse => simp [aval] at h
 rename_i hg
 split at h
 case h_2 => simp [aval] at h
 rename_i ks hks
 simp only [aval] at h
 have hy:= hI.ev y
 have hz:= hI.ev z
 split at h
 case h_2 => cases h
 rename_i cs ds h1 h2
 rw [h1] at hy
 rw [h2] at hz
 simp only [Rep] at hy hz
 obtain ⟨us,hu,hur⟩:= hy
 obtain ⟨vs,hv,hvr⟩:= hz
 split at h
 case h_2 => cases h
 rename_i r hr
 injection h with h
 subst h
 have hev:= eqCells_vals hr hur hvr
 have key : (Op.equalIn 10000 t (.agg us.toArray) (.agg vs.toArray)).run P E.w = .ok r E.w:= by
  unfold eqPlan at hks
  split at hks
  ·rename_i fs ht
   split at hks
   case isFalse => cases hks
   rename_i hst
   split at hks
   case isFalse => cases hks
   rename_i hof
   split at hks
   case isFalse => cases hks
   rename_i hnm
   have hf : P.fieldsOf t = fs:= by simp [Program.fieldsOf,ht]
   rw [run_equalIn_agg E.w 9999 t us.toArray vs.toArray (by rw [hf]; exact ht) hst,hf]
   refine run_eqFields_plan E.w 9998 us vs fs.toList ks 0 ?_ hnm hks (by simpa using hev)
   rw [hof,List.range_eq_range']
   simp
  ·rename_i n e ht
   split at hks
   case h_2 => cases hks
   rename_i c hc
   injection hks with hks
   subst hks
   obtain ⟨i,hi,_⟩:= ck_info hc
   rw [run_equalIn_array (w:= E.w) 9999 us.toArray vs.toArray ht hi,List.range_eq_range']
   exact run_eqItems_plan hc E.w 9998 us vs n 0 (by simpa using hev)
  ·cases hks
 subst hop
 refine ⟨.bool (if neg = true then !r else r),?_,by simp only [Rep]⟩
 cases neg
 ·simp [execOp,ho,hu,hv,Sem.run_bind,run_eqGuard_agg E.w _ t _ _ _ _ hg,run_eql_struct,key,Result.andThen,Sem.run]
 ·simp [execOp,ho,hu,hv,Sem.run_bind,run_eqGuard_agg E.w _ t _ _ _ _ hg,run_neq_struct,key,Result.andThen,Sem.run]
theorem val_eqi (hI : Inv R N env a E) (hR : R.Start) {o : Oper} {op : BinOp} {neg : Bool} {t t' : TypeId} {ms : Array (String × TypeId)} {y z : Operand} (ho : o.op = .binOp op t y z t') (hop : op = if neg then .neq else .eql) (ht : P.underlying t = some (.interface ms))
  (hs : sentOK P = true) {x : AV} (h : aval env (.eqi neg y z) = some x) : ValOK P E a o x:= by
 simp only [aval] at h
 have hy:= hI.ev y
 have hz:= hI.ev z
 split at h
 case h_2 => cases h
 rename_i i j h1 h2
 rw [h1] at hy
 rw [h2] at hz
 simp only [Rep] at hy hz
 injection h with h
 subst h hop
 obtain ⟨gi,hy⟩:= hy
 obtain ⟨gj,hz⟩:= hz
 obtain ⟨e1,⟨c1,t1,b1⟩⟩:= hI.sent hR i gi
 obtain ⟨e2,⟨c2,t2,b2⟩⟩:= hI.sent hR j gj
 rw [e1] at hy
 rw [e2] at hz
 unfold sentOK at hs
 split at hs
 case h_2 => cases hs
 rename_i te inf hte hinf
 simp only [Bool.and_eq_true] at hs
 obtain ⟨hcomp,hsz⟩:= hs
 split at hsz
 case h_2 => cases hsz
 rename_i jn hj
 have hsz' : jn.size ≠ 0:= by simpa using hsz
 have key : (Op.equal t (.iface GT (.pointer (some (E.G i).2))) (.iface GT (.pointer (some (E.G j).2)))).run P E.w = .ok (i == j) E.w:= by
  simp only [Op.equal,Op.maxDepth]
  by_cases hij : i = j
  ·subst hij
   rw [run_equalIn_iface_ptr_same E.w 9998 _ ht hte hinf hcomp hj]
   simp
  ·rw [run_equalIn_iface_ptr_other E.w 9998 ht hte hinf hcomp hj hsz' (fun e => hij (hR.gdist i gi j gj (by rw [← hI.G]; exact e))) b1 b2]
   simp [hij]
 refine ⟨.bool (if neg = true then !(i == j) else i == j),?_,by simp only [Rep]⟩
 cases neg <;> simp [execOp,ho,hy,hz,eqGuard,Sem.run_bind,binOp,key,Sem.run]
theorem val_tas (hI : Inv R N env a E) (hR : R.Start) {o : Oper} {xt t e : TypeId} {z : Value} {y : Operand} (ho : o.op = .typeAssert y xt t true) (ht : P.underlying t = some (.pointer e)) (hz : (P.info? t).bind (·.zero) = some z)
  {x : AV} (h : aval env (.tas t (ofVal z) y) = some x) : ValOK P E a o x:= by
 obtain ⟨inf,hinf,hzz⟩:= Option.bind_eq_some_iff.1 hz
 simp only [aval] at h
 have hy:= hI.ev y
 have hzero : ∀ w,(zeroValue t).run P w = .ok z w:= fun w => by simp [zeroValue,typeInfo,program,Sem.run,hinf,hzz,Bind.bind,Sem.bind,Pure.pure]
 have fin : Rep E (.tup [ofVal z,.lit (.bool false)]) (.tuple #[z,.bool false]):= by
  simp only [Rep]
  refine ⟨[z,.bool false],rfl,?_⟩
  simp only [RepL]
  exact ⟨z,[.bool false],rfl,rep_ofVal E z,.bool false,[],rfl,by simp only [Rep],rfl⟩
 split at h
 ·rename_i h1
  rw [h1] at hy
  simp only [Rep] at hy
  injection h with h
  subst h
  refine ⟨.tuple #[z,.bool false],?_,fin⟩
  simp [execOp,ho,hy,Instr.typeAssert,Sem.run_bind,run_underlying_eq ht,hzero,Sem.run]
 ·rename_i i h1
  rw [h1] at hy
  simp only [Rep] at hy
  split at h
  ·cases h
  rename_i hne
  injection h with h
  subst h
  refine ⟨.tuple #[z,.bool false],?_,fin⟩
  obtain ⟨e1,_⟩:= hI.sent hR i hy.1
  have hne' : ¬ GT = t:= fun e => hne e.symm
  simp [execOp,ho,hy.2,e1,hne',Instr.typeAssert,Sem.run_bind,run_underlying_eq ht,hzero,Sem.run]
 ·rename_i u v h1
  rw [h1] at hy
  simp only [Rep] at hy
  obtain ⟨uv,hy,hr⟩:= hy
  split at h
  ·rename_i hut
   injection h with h
   subst h hut
   refine ⟨.tuple #[uv,.bool true],?_,?_⟩
   ·simp [execOp,ho,hy,Instr.typeAssert,Sem.run_bind,run_underlying_eq ht,Sem.run]
   ·simp only [Rep]
    refine ⟨[uv,.bool true],rfl,?_⟩
    simp only [RepL]
    exact ⟨uv,[.bool true],rfl,hr,.bool true,[],rfl,by simp only [Rep],rfl⟩
  ·rename_i hut
   injection h with h
   subst h
   refine ⟨.tuple #[z,.bool false],?_,fin⟩
   simp [execOp,ho,hy,hut,Instr.typeAssert,Sem.run_bind,run_underlying_eq ht,hzero,Sem.run]
 ·cases h
theorem bytesA_vals {E : RE} : ∀ {xs : List AV} {vs : List Value} {l : List UInt8},bytesA xs = some l → RepL E xs vs → ∃ ns : List Int,vs = ns.map (Value.int .u8) ∧ l = ns.map fun n => UInt8.ofNat n.toNat
 | [],vs,l,h,hr => by
  simp only [bytesA] at h
  injection h with h
  simp only [RepL] at hr
  subst h hr
  exact ⟨[],rfl,rfl⟩
 | x :: xs,vs,l,h,hr => by
  unfold bytesA at h
  split at h
  ·rename_i e; cases e
  ·rename_i n r e
   injection e with e1 e2
   subst e1 e2
   simp only [RepL] at hr
   obtain ⟨v,ws,rfl,h1,h2⟩:= hr
   simp only [Rep] at h1
   subst h1
   split at h
   ·rename_i l' hl'
    injection h with h
    subst h
    obtain ⟨ns,rfl,rfl⟩:= bytesA_vals hl' h2
    exact ⟨n :: ns,rfl,rfl⟩
   ·cases h
  ·cases h
theorem foldl_push (ns : List Int) : ∀ s : ByteArray,ns.foldl (fun r n => r.push (UInt8.ofNat n.toNat)) s = ⟨s.data ++ (ns.map fun n => UInt8.ofNat n.toNat).toArray⟩:= by
 induction ns with
 | nil => intro s; simp
 | cons n ns ih =>
  intro s
  rw [List.foldl_cons,ih]
  simp [ByteArray.push,List.map_cons,← Array.push_eq_append]
theorem val_b2s (hI : Inv R N env a E) {o : Oper} {s d e : TypeId} {y : Operand} (ho : o.op = .convert s d y) (hs : P.underlying s = some (.slice e)) (he : P.underlying e = some (.int .u8)) (hd : P.underlying d = some .string)
  {x : AV} (h : aval env (.b2s y) = some x) : ValOK P E a o x:= by
 simp only [aval] at h
 have hy:= hI.ev y
 have fin : ∀ {A : Addr} {len cap : Nat} {ns : List Int},(loadCells A len).run P E.w = .ok (ns.map (Value.int .u8)).toArray E.w → a.eval y = .slice (some A) len cap → ValOK P E a o (.lit (.string ⟨(ns.map fun n => UInt8.ofNat n.toNat).toArray⟩)):= by
  intro A len cap ns hl ha
  refine ⟨.string ⟨(ns.map fun n => UInt8.ofNat n.toNat).toArray⟩,?_,by simp only [Rep]⟩
  simp [execOp,ho,ha,Sem.run_bind,run_convert_bytes_string E.w s d e (some A) len cap hs he hd,run_bytesToString E.w A len cap ns hl,foldl_push,Sem.run]
 split at h
 ·rename_i tk es rows h1
  rw [h1] at hy
  simp only [Rep] at hy
  obtain ⟨A,cap,vs,hev,hcap,hr,hes,hone,htk⟩:= hy
  split at h
  case isFalse => cases h
  rename_i he1
  obtain ⟨hgn,he1⟩:= he1
  split at h
  case h_2 => cases h
  rename_i l hl
  injection h with h
  subst h
  obtain ⟨ns,rfl,rfl⟩:= bytesA_vals hl hr
  have hlen : ns.length = rows.length:= by simpa using hr.length
  have hflat : flat (ns.map (Value.int .u8)) = ns.map (Value.int .u8):= by
   clear hr hl hes hone htk hlen
   induction ns with
   | nil => rfl
   | cons n ns ih => simp only [List.map_cons,flat,List.flatMap_cons]; rw [show (ns.map (Value.int .u8)).flatMap (fun v => v.cells.toList) = ns.map (Value.int .u8) from ih]; simp [Value.cells]
  rw [hflat] at htk hone
  have load : ∀ {S : Nat → Nat → Prop} {b off : Nat},At E.w S (ns.map (Value.int .u8)) b off → (loadCells ⟨b,off,none⟩ rows.length).run P E.w = .ok (ns.map (Value.int .u8)).toArray E.w:= fun hat => by
   have:= run_loadCells_at (P:= P) hat rows.length (by simp [hlen])
   rwa [List.take_of_length_le (by simp [hlen])] at this
  have nilc : A = none → ns = [] → ValOK P E a o (.lit (.string ⟨(ns.map fun n => UInt8.ofNat n.toNat).toArray⟩)):= fun hA hn => by
   subst hA hn
   refine ⟨.string ByteArray.empty,?_,by simp only [Rep]; rfl⟩
   simp [execOp,ho,hev,Sem.run_bind,run_convert_bytes_string E.w s d e none rows.length cap hs he hd,Conv.bytesToString,Sem.run]
  have emp : rows = [] → ValOK P E a o (.lit (.string ⟨(ns.map fun n => UInt8.ofNat n.toNat).toArray⟩)):= fun hn => by
   have hns : ns = []:= by simpa [hn] using hlen
   cases A with
   | none => exact nilc rfl hns
   | some A =>
    refine fin (A:= A) ?_ hev
    subst hn hns
    simp only [List.length_nil,List.map_nil]
    exact run_loadCells_list (P:= P) (w:= E.w) A [] (fun j v hj => by simp at hj)
  by_cases hne : rows = []
  ·exact emp hne
  cases tk with
  | none =>
   obtain ⟨b,off,hA,hat⟩:= htk hne
   subst hA
   exact fin (load hat) hev
  | bor =>
   obtain ⟨b,off,hA,hat⟩:= htk hne
   subst hA
   exact fin (load hat) hev
  | nil =>
   exact absurd (by simpa [htk.2] using hcap) hne
  | own τ =>
   rcases htk with ⟨_,h0⟩ | ⟨g,cur,ty,hA,hat,_⟩
   ·exact absurd (by simpa [h0] using hcap) hne
   subst hA
   exact fin (load hat) hev
  | fr τ =>
   rcases htk with ⟨h0,_⟩ | ⟨g,cur,ty,hA,hat,_⟩
   ·exact absurd h0 hne
   subst hA
   exact fin (load hat) hev
  | gone => simp [goneB] at hgn
 ·rename_i c off n cap g es h1
  rw [h1] at hy
  simp only [Rep] at hy
  obtain ⟨b,hb,hev⟩:= hy
  split at h
  case isFalse => cases h
  split at h
  case h_2 => cases h
  rename_i cs hcs
  split at h
  case isFalse => cases h
  rename_i hle
  split at h
  case h_2 => cases h
  rename_i l hl
  injection h with h
  subst h
  obtain ⟨_,_,_,cs',vals,ty,hcs',hh,hrep,_⟩:= hI.locc c b hb
  obtain rfl : cs = cs':= Option.some.inj (hcs.symm.trans hcs')
  have hl2:= (hrep.drop off).take n
  obtain ⟨ns,hns,rfl⟩:= bytesA_vals hl hl2
  have hvl:= hrep.length
  refine fin (A:= ⟨b,off,none⟩) ?_ hev
  have hnl : ns.length = n:= by
   have:= congrArg List.length hns
   simp only [List.length_take,List.length_drop,List.length_map] at this
   omega
  have:= run_loadCells_list (P:= P) (w:= E.w) ⟨b,off,none⟩ (ns.map (Value.int .u8)) (fun j v hj => by
   rw [← hns,List.getElem?_take] at hj
   split at hj
   ·rw [List.getElem?_drop] at hj
    rw [Addr.add_lit]
    simp only [World.cell?,hh]
    simpa using hj
   ·cases hj)
  simpa [hnl] using this
 ·cases h
end
end Go.Proofs.YtnndbbmidoidpaaGreatDoor.VL
end

