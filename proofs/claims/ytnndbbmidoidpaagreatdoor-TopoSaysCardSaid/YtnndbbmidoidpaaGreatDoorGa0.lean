import Derived.Orders
import Derived.Below
import Derived.Laws.AppendOwn
import Derived.KernelRfl
import GoSem.Dispatch
import Derived.Tactics
import Derived.Laws.Slices
set_option linter.unusedVariables false
set_option linter.unusedSimpArgs false
section
namespace Go.Proofs.YtnndbbmidoidpaaGreatDoor.VL
def GS : List Nat:= [0,1,2,3,4,5,6,7,8,9,10,11,12,13]
def GT : TypeId:= 297
def GD : List (Nat × List Value):= []
def GI : List Nat:= []
def GB : List Nat:= GD.map (·.1) ++ GI
structure GOK (c : Nat → Option Obj) : Prop where
 tab : ∀ q ∈ GD,∃ ty fr,c q.1 = some (.cells q.2.toArray ty fr)
 ints : ∀ g ∈ GI,∃ cs ty fr m,c g = some (.cells cs ty fr) ∧ cs[0]? = some (.int .i64 m)
 sm : ∀ g ∈ GB,∃ o,c g = some o
theorem GOK.congr {c c' : Nat → Option Obj} (h : ∀ g ∈ GB,∀ o,c g = some o → c' g = some o) (hc : GOK c) : GOK c' :=
 ⟨fun q hq => let ⟨ty,fr,e⟩:= hc.tab q hq; ⟨ty,fr,h q.1 (List.mem_append_left _ (List.mem_map_of_mem hq)) _ e⟩,
  fun g hg => let ⟨cs,ty,fr,m,e,e2⟩:= hc.ints g hg; ⟨cs,ty,fr,m,h g (List.mem_append_right _ hg) _ e,e2⟩,fun g hg => let ⟨o,e⟩:= hc.sm g hg; ⟨o,h g hg o e⟩⟩
end Go.Proofs.YtnndbbmidoidpaaGreatDoor.VL
end

section
namespace Go.Proofs.YtnndbbmidoidpaaGreatDoor.VL
open Go.RowKit
inductive Tok where
 | none
 | nil
 | bor
 | own (t : List Nat)
 | fr (t : List Nat)
 | gone
 deriving DecidableEq
inductive AV where
 | lit (v : Value)
 | agg (cs : List AV)
 | tup (cs : List AV)
 | sl (t : Tok) (e : Nat) (rows : List AV)
 | rp (cs : List AV)
 | bp (cs : List AV)
 | lp (c off : Nat)
 | clo (fn : Fn) (fst caps : List AV)
 | ifc (t : TypeId) (v : AV)
 | mp (keys : List Value) (vals : List AV)
 | gl (i : Nat)
 | gp (g : Nat)
 | ml (c off n cap : Nat) (agg : Bool) (e : Nat)
 | mu (c : List Nat) (keys : List Value) (vals : List AV)
 | mf (t : List Nat) (al : Bool)
 | dead
 deriving Inhabited
structure RE where
 w : World
 S : Nat → Nat → Prop
 B : Nat → Prop
 loc : Nat → Option Nat
 own : Nat → List Nat → Prop
 G : Nat → TypeId × Addr
 mloc : List Nat → Option Nat
def RE.closed (E : RE) : RE:= { E with B:= fun _ => False,loc:= fun _ => none,own:= fun _ _ => False,mloc:= fun _ => none }
def RE.bor (E : RE) : RE:= { E with loc:= fun _ => none,own:= fun _ _ => False,mloc:= fun _ => none }
def At (w : World) (S : Nat → Nat → Prop) (cs : List Value) (b o : Nat) : Prop :=
 ∀ j u,cs[j]? = some u → S b (o + j) ∧ w.cell? ⟨b,o + j,none⟩ = some u
def flat (vs : List Value) : List Value:= vs.flatMap fun v => v.cells.toList
mutual
def Rep : RE → AV → Value → Prop
 | _,.lit u,v => v = u
 | E,.agg cs,v => ∃ vs : List Value,v = .agg vs.toArray ∧ RepL E cs vs
 | E,.tup cs,v => ∃ vs : List Value,v = .tuple vs.toArray ∧ RepL E cs vs
 | E,.sl t e rows,v => ∃ A cap vs,v = .slice A rows.length cap ∧ rows.length ≤ cap ∧ RepL E.closed rows vs ∧ (∀ u ∈ vs,u.cells.size = e) ∧ (∀ u ∈ flat vs,u.oneCell' = true) ∧
   match t with
   | .none => rows ≠ [] → ∃ b o,A = some ⟨b,o,none⟩ ∧ At E.w E.S (flat vs) b o
   | .bor => rows ≠ [] → ∃ b o,A = some ⟨b,o,none⟩ ∧ At E.w (fun b _ => E.B b) (flat vs) b o
   | .nil => A = none ∧ cap = 0
   | .own τ => (A = none ∧ cap = 0) ∨ ∃ g cur ty,A = some ⟨g,0,none⟩ ∧ At E.w E.S (flat vs) g 0 ∧ E.w.heap[g]? = some (.cells cur ty (0,0)) ∧ cap ≤ maxLen ∧ cur.size = cap * e ∧
     E.own g τ ∧ ∀ o,E.S g o → o < rows.length * e
   | .fr τ => (rows = [] ∧ cap = 0) ∨ ∃ g cur ty,A = some ⟨g,0,none⟩ ∧ At E.w (fun _ _ => True) (flat vs) g 0 ∧ E.w.heap[g]? = some (.cells cur ty (0,0)) ∧ cap ≤ maxLen ∧ cur.size = cap * e ∧
     E.own g τ ∧ (∀ o,¬ E.S g o) ∧ ∀ u ∈ cur.toList,u.oneCell' = true
   | .gone => True
 | E,.rp cs,v => ∃ b o vs,v = .pointer (some ⟨b,o,none⟩) ∧ RepL E.closed cs vs ∧ At E.w E.S vs b o
 | E,.bp cs,v => ∃ b o vs,v = .pointer (some ⟨b,o,none⟩) ∧ RepL E.bor cs vs ∧ At E.w (fun b _ => E.B b) vs b o
 | E,.lp c off,v => ∃ b,E.loc c = some b ∧ v = .pointer (some ⟨b,off,none⟩)
 | E,.clo fn fst caps,v => ∃ fs cs : List Value,v = .func fn fs.toArray cs.toArray ∧ RepL E fst fs ∧ RepL E caps cs
 | E,.ifc t x,v => ∃ u,v = .iface t u ∧ Rep E x u
 | E,.mp keys vals,v => ∃ (b : Nat) (es : List MapEntry) (ck : Nat) (vs : List Value),v = .map (some b) ∧ E.w.heap[b]? = some (.map es.toArray ck) ∧ E.S b 0 ∧ es.map (·.key) = keys ∧
   es.map (·.val) = vs ∧ RepL E.closed vals vs
 | E,.gl i,v => i ∈ GS ∧ v = .iface (E.G i).1 (.pointer (some (E.G i).2))
 | _,.gp g,v => v = .pointer (some ⟨g,0,none⟩)
 | E,.ml c off n cap _ _,v => ∃ b,E.loc c = some b ∧ v = .slice (some ⟨b,off,none⟩) n cap
 | E,.mu c keys vals,v => ∃ (b : Nat) (es : List MapEntry) (ck : Nat) (vs : List Value),E.mloc c = some b ∧ v = .map (some b) ∧ E.w.heap[b]? = some (.map es.toArray ck) ∧ es.map (·.key) = keys ∧
   es.map (·.val) = vs ∧ RepL E.closed vals vs
 | E,.mf τ al,v => ∃ b : Nat,v = .map (some b) ∧ (al = true → (∃ ck,E.w.heap[b]? = some (.map #[] ck)) ∧ E.own b τ ∧ ∀ o,¬ E.S b o)
 | _,.dead,_ => True
def RepL : RE → List AV → List Value → Prop
 | _,[],vs => vs = []
 | E,x :: xs,vs => ∃ v ws,vs = v :: ws ∧ Rep E x v ∧ RepL E xs ws
end
theorem RepL.length {E : RE} : ∀ {xs : List AV} {vs : List Value},RepL E xs vs → vs.length = xs.length
 | [],vs,h => by simp only [RepL] at h; simp [h]
 | x :: xs,vs,h => by
  simp only [RepL] at h
  obtain ⟨v,ws,rfl,_,h2⟩:= h
  simp [RepL.length h2]
structure Ext (E E' : RE) : Prop where
 S : ∀ b o,E.S b o → E'.S b o
 B : ∀ b,E.B b → E'.B b
 cell : ∀ b o u,(E.S b o ∨ E.B b) → E.w.cell? ⟨b,o,none⟩ = some u → E'.w.cell? ⟨b,o,none⟩ = some u
 map : ∀ b es ck,E.S b 0 → E.w.heap[b]? = some (.map es ck) → E'.w.heap[b]? = some (.map es ck)
 loc : ∀ c b,E.loc c = some b → E'.loc c = some b
 own : ∀ g τ,E.own g τ → E'.own g τ ∧ E'.w.heap[g]? = E.w.heap[g]? ∧ ∀ o,E'.S g o → E.S g o
 G : E'.G = E.G
 mloc : ∀ c b,E.mloc c = some b → E'.mloc c = some b ∧ E'.w.heap[b]? = E.w.heap[b]?
theorem Ext.refl (E : RE) : Ext E E:= ⟨fun _ _ h => h,fun _ h => h,fun _ _ _ _ h => h,fun _ _ _ _ h => h,fun _ _ h => h,fun _ _ h => ⟨h,rfl,fun _ h => h⟩,rfl,fun _ _ h => ⟨h,rfl⟩⟩
theorem Ext.closed {E E' : RE} (h : Ext E E') : Ext E.closed E'.closed :=
 ⟨h.S,fun _ hb => hb,fun b o u hb hc => h.cell b o u (hb.elim .inl fun hb => hb.elim) hc,h.map,fun c b hc => (by simp [RE.closed] at hc),fun g τ ho => (ho : False).elim,h.G,fun c b hc => (by simp [RE.closed] at hc)⟩
theorem Ext.bor {E E' : RE} (h : Ext E E') : Ext E.bor E'.bor :=
 ⟨h.S,h.B,h.cell,h.map,fun c b hc => (by simp [RE.bor] at hc),fun g τ ho => (ho : False).elim,h.G,fun c b hc => (by simp [RE.bor] at hc)⟩
theorem At.mono {w w' : World} {S S' : Nat → Nat → Prop} {cs : List Value} {b o : Nat} (h : At w S cs b o)
  (hS : ∀ b o,S b o → S' b o) (hc : ∀ b o u,S b o → w.cell? ⟨b,o,none⟩ = some u → w'.cell? ⟨b,o,none⟩ = some u) : At w' S' cs b o :=
 fun j u hj => ⟨hS _ _ (h j u hj).1,hc _ _ _ (h j u hj).1 (h j u hj).2⟩
mutual
theorem Rep.mono : ∀ {x : AV} {E E' : RE} {v : Value},Ext E E' → Rep E x v → Rep E' x v
 | .lit u,E,E',v,_,h => by simpa only [Rep] using h
 | .agg cs,E,E',v,hE,h => by
  simp only [Rep] at h ⊢
  obtain ⟨vs,rfl,h⟩:= h
  exact ⟨vs,rfl,RepL.mono hE h⟩
 | .tup cs,E,E',v,hE,h => by
  simp only [Rep] at h ⊢
  obtain ⟨vs,rfl,h⟩:= h
  exact ⟨vs,rfl,RepL.mono hE h⟩
 | .sl t e rows,E,E',v,hE,h => by
  simp only [Rep] at h ⊢
  obtain ⟨A,cap,vs,rfl,hcap,hr,he,h1,ht⟩:= h
  refine ⟨A,cap,vs,rfl,hcap,RepL.mono hE.closed hr,he,h1,?_⟩
  cases t with
  | none => exact fun hne => let ⟨b,o,ha,hat⟩:= ht hne; ⟨b,o,ha,hat.mono hE.S fun b o u hs => hE.cell b o u (.inl hs)⟩
  | bor => exact fun hne => let ⟨b,o,ha,hat⟩:= ht hne; ⟨b,o,ha,hat.mono (fun b o h => hE.B b h) fun b o u hs => hE.cell b o u (.inr hs)⟩
  | nil => exact ht
  | own τ =>
   rcases ht with ht | ⟨g,cur,ty,ha,hat,hh,hm,hc,ho,hs⟩
   ·exact .inl ht
   obtain ⟨ho',hh',hs'⟩:= hE.own g τ ho
   exact .inr ⟨g,cur,ty,ha,hat.mono hE.S fun b o u hs => hE.cell b o u (.inl hs),hh'.trans hh,hm,hc,ho',fun o h => hs o (hs' o h)⟩
  | gone => trivial
  | fr τ =>
   rcases ht with ht | ⟨g,cur,ty,ha,hat,hh,hm,hc,ho,hs,h1c⟩
   ·exact .inl ht
   obtain ⟨ho',hh',hs'⟩:= hE.own g τ ho
   refine .inr ⟨g,cur,ty,ha,fun j u hj => ⟨trivial,?_⟩,hh'.trans hh,hm,hc,ho',fun o h => hs o (hs' o h),h1c⟩
   have:= (hat j u hj).2
   simp only [World.cell?,hh',hh] at this ⊢
   exact this
 | .rp cs,E,E',v,hE,h => by
  simp only [Rep] at h ⊢
  obtain ⟨b,o,vs,rfl,h,hat⟩:= h
  exact ⟨b,o,vs,rfl,RepL.mono hE.closed h,hat.mono hE.S fun b o u hs => hE.cell b o u (.inl hs)⟩
 | .bp cs,E,E',v,hE,h => by
  simp only [Rep] at h ⊢
  obtain ⟨b,o,vs,rfl,h,hat⟩:= h
  exact ⟨b,o,vs,rfl,RepL.mono hE.bor h,hat.mono (fun b o h => hE.B b h) fun b o u hs => hE.cell b o u (.inr hs)⟩
 | .lp c off,E,E',v,hE,h => by
  simp only [Rep] at h ⊢
  obtain ⟨b,hb,rfl⟩:= h
  exact ⟨b,hE.loc _ _ hb,rfl⟩
 | .clo fn fst caps,E,E',v,hE,h => by
  simp only [Rep] at h ⊢
  obtain ⟨fs,cs,rfl,h1,h2⟩:= h
  exact ⟨fs,cs,rfl,RepL.mono hE h1,RepL.mono hE h2⟩
 | .ifc t x,E,E',v,hE,h => by
  simp only [Rep] at h ⊢
  obtain ⟨u,rfl,h⟩:= h
  exact ⟨u,rfl,Rep.mono hE h⟩
 | .mp keys vals,E,E',v,hE,h => by
  simp only [Rep] at h ⊢
  obtain ⟨b,es,ck,vs,rfl,hh,hS,hk,hv,hr⟩:= h
  exact ⟨b,es,ck,vs,rfl,hE.map _ _ _ hS hh,hE.S _ _ hS,hk,hv,RepL.mono hE.closed hr⟩
 | .gl i,E,E',v,hE,h => by simp only [Rep] at h ⊢; rw [hE.G]; exact h
 | .gp g,E,E',v,hE,h => by simpa only [Rep] using h
 | .ml c off n cap g e,E,E',v,hE,h => by
  simp only [Rep] at h ⊢
  obtain ⟨b,hb,rfl⟩:= h
  exact ⟨b,hE.loc _ _ hb,rfl⟩
 | .mu c keys vals,E,E',v,hE,h => by
  simp only [Rep] at h ⊢
  obtain ⟨b,es,ck,vs,hb,rfl,hh,hk,hv,hr⟩:= h
  obtain ⟨h1,h2⟩:= hE.mloc _ _ hb
  exact ⟨b,es,ck,vs,h1,rfl,h2.trans hh,hk,hv,RepL.mono hE.closed hr⟩
 | .mf τ al,E,E',v,hE,h => by
  simp only [Rep] at h ⊢
  obtain ⟨b,rfl,h⟩:= h
  refine ⟨b,rfl,fun e => ?_⟩
  obtain ⟨⟨ck,hh⟩,ho,hs⟩:= h e
  obtain ⟨ho',hh',hs'⟩:= hE.own b τ ho
  exact ⟨⟨ck,hh'.trans hh⟩,ho',fun o h => hs o (hs' o h)⟩
 | .dead,E,E',v,hE,h => by simp only [Rep]
theorem RepL.mono : ∀ {xs : List AV} {E E' : RE} {vs : List Value},Ext E E' → RepL E xs vs → RepL E' xs vs
 | [],E,E',vs,_,h => by simpa only [RepL] using h
 | x :: xs,E,E',vs,hE,h => by
  simp only [RepL] at h ⊢
  obtain ⟨v,ws,rfl,h1,h2⟩:= h
  exact ⟨v,ws,rfl,Rep.mono hE h1,RepL.mono hE h2⟩
end
end Go.Proofs.YtnndbbmidoidpaaGreatDoor.VL
end

section
namespace Go.Proofs.YtnndbbmidoidpaaGreatDoor.VL
open Go.RowKit
structure Env where
 s : Nat → AV
 c : Nat → Option (List AV)
def upd {α : Type} (f : Nat → α) (k : Nat) (x : α) : Nat → α:= fun j => if j = k then x else f j
def Env.put (E : Env) (k : Nat) (x : AV) : Env:= { E with s:= upd E.s k x }
def Env.putc (E : Env) (k : Nat) (x : List AV) : Env:= { E with c:= upd E.c k (some x) }
def getA (l : List (Nat × AV)) (k : Nat) : AV :=
 match l with
 | [] => .dead
 | (j,x) :: r => if k = j then x else getA r k
def getC (l : List (Nat × List AV)) (k : Nat) : Option (List AV) :=
 match l with
 | [] => none
 | (j,x) :: r => if k = j then some x else getC r k
def putA {α : Type} (l : List (Nat × α)) (k : Nat) (x : α) : List (Nat × α) :=
 match l with
 | [] => [(k,x)]
 | (j,y) :: r => if k < j then (k,x) :: (j,y) :: r else if k = j then (k,x) :: r else (j,y) :: putA r k x
def ofVal1 : Value → AV
 | .slice none 0 0 => .sl .nil 0 []
 | v => .lit v
def ofVal : Value → AV
 | .slice none 0 0 => .sl .nil 0 []
 | .agg cs => .agg (cs.toList.map ofVal1)
 | v => .lit v
def Env.ev (E : Env) : Operand → AV
 | .tmp t => E.s t
 | .const v => ofVal v
 | .global g => .gp g
 | .func f => .clo (.func f) [] []
inductive CK where
 | int
 | bool
 | str
 deriving DecidableEq
def eq1 : CK → AV → AV → Option Bool
 | .int,.lit (.int k a),.lit (.int k' b) => if k = k' then some (a == b) else none
 | .bool,.lit (.bool a),.lit (.bool b) => some (a == b)
 | .str,.lit (.string a),.lit (.string b) => some (a == b)
 | _,_,_ => none
def eqCells : List CK → List AV → List AV → Option Bool
 | [],[],[] => some true
 | k :: ks,x :: xs,y :: ys => match eq1 k x y with
  | some a => match eqCells ks xs ys with
   | some b => some (a && b)
   | none => none
  | none => none
 | _,_,_ => none
def bytesA : List AV → Option (List UInt8)
 | [] => some []
 | .lit (.int .u8 n) :: r => match bytesA r with
  | some l => some (UInt8.ofNat n.toNat :: l)
  | none => none
 | _ :: _ => none
inductive AOp where
 | mov (x : Operand)
 | pick (c a b : Operand)
 | alloc (z : List AV)
 | box (x : Operand)
 | build (z : List AV) (parts : List (Nat × Nat × Operand))
 | bslice (n esz : Nat) (parts : List Operand)
 | mks (agg : Bool) (esz bytes : Nat) (z : List AV) (l c : Operand)
 | mko (esz bytes : Nat) (c : Operand)
 | iadra (n esz : Nat) (x i : Operand)
 | idxa (agg : Bool) (n esz : Nat) (x i : Operand)
 | load (agg : Bool) (size : Nat) (a : Operand)
 | loadc (agg : Bool) (size : Nat) (a : Operand)
 | store (size : Nat) (a x : Operand)
 | nilchk (x : Operand)
 | bin (op : BinOp) (t : TypeId) (x y : Operand)
 | eqb (neg : Bool) (t : TypeId) (x y : Operand)
 | eqa (neg : Bool) (ks : List CK) (x y : Operand)
 | eqi (neg : Bool) (x y : Operand)
 | tas (t : TypeId) (z : AV) (x : Operand)
 | b2s (x : Operand)
 | eqn (neg : Bool) (x : Operand)
 | eqp (neg : Bool) (x : Operand)
 | un (op : UnOp) (x : Operand)
 | cint (k : IntKind) (x : Operand)
 | cid (x : Operand)
 | mkif (t : TypeId) (x : Operand)
 | mkfn (fn : Fn) (fst caps : List Operand)
 | slc (esz : Nat) (x : Operand) (lo hi : Option Operand)
 | slcs (x : Operand) (lo hi : Option Operand)
 | faddr (off size : Nat) (x : Operand)
 | fld (agg : Bool) (off size : Nat) (x : Operand)
 | iaddr (esz : Nat) (x i : Operand)
 | idxs (x i : Operand)
 | ext (x : Operand) (i : Nat)
 | lens (x : Operand)
 | lenl (x : Operand)
 | mnmx (mx : Bool) (args : List Operand)
 | app (esz bytes : Nat) (bs : List Nat) (x y : Operand)
 | bsl0 (esz : Nat)
 | mkf (agg : Bool) (esz bytes : Nat) (z : List AV) (l c : Operand)
 | clr (z : List AV) (x : Operand)
 | i2s (x : Operand)
 | eqs (neg : Bool) (x : Operand)
 | mkm
 | mup (str : Bool) (m k x : Operand)
 | lkp (str : Bool) (z : AV) (ok : Bool) (m k : Operand)
 | call (f : FuncId) (args : List Operand)
 | callv (f : Operand) (args : List Operand)
 | callm (f : FuncId) (args : List Operand)
 | callvm (f : Operand) (args : List Operand)
 | bad
 deriving Inhabited
def p0 {α : Type} : Sem α → Option α
 | .pure a => some a
 | _ => none
theorem p0_run {α : Type} {s : Sem α} {a : α} (h : p0 s = some a) (P : Program) (w : World) : s.run P w = .ok a w:= by
 cases s <;> simp only [p0] at h <;> first | (injection h with h; subst h; rfl) | exact absurd h (by simp)
def cellsOf : AV → List AV
 | .agg cs => cs
 | x => [x]
def AV.one : AV → Bool
 | .lit v => v.oneCell'
 | .agg _ | .tup _ | .dead => false
 | _ => true
def AV.row : AV → Bool
 | .agg _ => true
 | x => x.one
def fillA (cells : List AV) : List (Nat × Nat × AV) → Option (List AV)
 | [] => some cells
 | (off,size,x) :: rest =>
  if x.row = true then
   if (cellsOf x).length = size then
    if off + size ≤ cells.length then fillA (cells.take off ++ cellsOf x ++ cells.drop (off + size)) rest
    else none
   else none
  else none
mutual
/-- Nothing in it hangs on the call: no cell of its own, nothing lent or borrowed; room is dropped. -/
def plainV : AV → Bool
 | .lit _ | .gl _ | .gp _ | .rp _ | .mp _ _ | .dead => true
 | .sl .none _ _ | .sl .nil _ _ | .sl (.own _) _ _ => true
 | .agg cs => plainL cs
 | .tup cs => plainL cs
 | .ifc _ v => plainV v
 | .clo _ a b => plainL a && plainL b
 | _ => false
def plainL : List AV → Bool
 | [] => true
 | x :: xs => plainV x && plainL xs
end
mutual
def unownV : AV → AV
 | .sl (.own _) e rows => .sl .none e rows
 | .agg cs => .agg (unownL cs)
 | .tup cs => .tup (unownL cs)
 | .ifc t v => .ifc t (unownV v)
 | .clo f a b => .clo f (unownL a) (unownL b)
 | x => x
def unownL : List AV → List AV
 | [] => []
 | x :: xs => unownV x :: unownL xs
end
def closeV : AV → Option AV
 | .lit v => some (.lit v)
 | .sl .bor _ _ => none
 | .sl (.fr _) _ _ => none
 | .sl .gone _ _ => none
 | .sl .nil e [] => some (.sl .nil e [])
 | .sl .nil _ _ => none
 | .sl _ e rows => some (.sl .none e rows)
 | .rp cs => some (.rp cs)
 | .gl i => some (.gl i)
 | .mp k v => some (.mp k v)
 | .agg cs => match cs.mapM closeV1 with
  | some l => some (.agg l)
  | none => none
 | .ifc t v => match closeV1 v with
  | some u => some (.ifc t u)
  | none => none
 | .clo f a b => if plainL a && plainL b then some (.clo f (unownL a) (unownL b)) else none
 | .dead => some .dead
 | _ => none
where
 closeV1 : AV → Option AV
 | .lit v => some (.lit v)
 | .sl .bor _ _ => none
 | .sl (.fr _) _ _ => none
 | .sl .gone _ _ => none
 | .clo f a b => if plainL a && plainL b then some (.clo f (unownL a) (unownL b)) else none
 | .sl .nil e [] => some (.sl .nil e [])
 | .sl .nil _ _ => none
 | .sl _ e rows => some (.sl .none e rows)
 | .rp cs => some (.rp cs)
 | .gl i => some (.gl i)
 | .mp k v => some (.mp k v)
 | .ifc t (.lit v) => some (.ifc t (.lit v))
 | .ifc t (.rp cs) => some (.ifc t (.rp cs))
 | _ => none
def frB : Tok → Bool
 | .fr _ => true
 | .gone => true
 | _ => false
def goneB : Tok → Bool
 | .gone => true
 | _ => false
def intOfA : AV → Option Int
 | .lit (.int _ n) => some n
 | _ => none
mutual
/-- No owner's mark is in it. -/
def tokFree : AV → Bool
 | .sl (.own _) _ _ => false
 | .sl (.fr _) _ _ => false
 | .mu _ _ _ => false
 | .mf _ _ => false
 | .agg cs => tokFreeL cs
 | .tup cs => tokFreeL cs
 | .clo _ a b => tokFreeL a && tokFreeL b
 | .ifc _ v => tokFree v
 | _ => true
def tokFreeL : List AV → Bool
 | [] => true
 | x :: xs => tokFree x && tokFreeL xs
end
def chkTok (x : Option AV) : Option AV:= match x with
 | some x => if tokFree x then some x else none
 | none => none
def keyEq : Bool → Value → Value → Option Bool
 | false,.int k a,.int k' b => if k = k' then some (a == b) else none
 | true,.string a,.string b => some (a == b)
 | _,_,_ => none
def keyAt (str : Bool) (k : Value) : List Value → Nat → Option (Option Nat)
 | [],_ => some none
 | q :: qs,i => match keyEq str k q with
  | some true => some (some i)
  | some false => keyAt str k qs (i + 1)
  | none => none
def mapGet (str : Bool) (z : AV) (ok : Bool) (keys : List Value) (vals : List AV) (k : Value) : Option AV:= match keyAt str k keys 0 with
 | some (some i) => match vals[i]? with
  | some x => some (if ok then .tup [x,.lit (.bool true)] else x)
  | none => none
 | some none => some (if ok then .tup [z,.lit (.bool false)] else z)
 | none => none
def aval (E : Env) : AOp → Option AV
 | .mov x => some (E.ev x)
 | .pick c a b => match E.ev c with
  | .lit (.bool t) => some (match t with | true => E.ev a | false => E.ev b)
  | _ => none
 | .build z parts => match fillA z (parts.map fun (o,s,x) => (o,s,E.ev x)) with
  | some cs => some (.agg cs)
  | none => none
 | .load agg size a => match E.ev a with
  | .rp cs => ld agg size cs
  | .bp cs => ld agg size cs
  | .lp c o => match E.c c with
   | some cs => ld agg size (cs.drop o)
   | none => none
  | _ => none
 | .loadc agg size a => match E.ev a with
  | .rp cs => chkTok (ld agg size cs)
  | .bp cs => chkTok (ld agg size cs)
  | .lp c o => match E.c c with
   | some cs => ld agg size (cs.drop o)
   | none => none
  | _ => none
 | .nilchk x => match E.ev x with
  | .rp cs => some (.rp cs)
  | .bp cs => some (.bp cs)
  | .lp c o => some (.lp c o)
  | .clo (.func f) a b => some (.clo (.func f) a b)
  | _ => none
 | .bin op t x y => match E.ev x,E.ev y with
  | .lit (.int k u),.lit (.int k' v) => match p0 (binOp op t (.int k u) (.int k' v)) with
   | some r => some (.lit r)
   | none => none
  | .lit (.string u),.lit (.string v) => match p0 (binOp op t (.string u) (.string v)) with
   | some r => some (.lit r)
   | none => none
  | _,_ => none
 | .eqb neg t x y => match E.ev x,E.ev y with
  | .lit (.bool a),.lit (.bool b) => some (.lit (.bool (if neg then !(a == b) else a == b)))
  | _,_ => none
 | .eqa neg ks x y => match E.ev x,E.ev y with
  | .agg cs,.agg ds => match eqCells ks cs ds with
   | some r => some (.lit (.bool (if neg then !r else r)))
   | none => none
  | _,_ => none
 | .eqi neg x y => match E.ev x,E.ev y with
  | .gl i,.gl j => some (.lit (.bool (if neg then !(i == j) else i == j)))
  | _,_ => none
 | .tas t z x => match E.ev x with
  | .lit .nilIface => some (.tup [z,.lit (.bool false)])
  | .gl _ => if t = GT then none else some (.tup [z,.lit (.bool false)])
  | .ifc u v => if u = t then some (.tup [v,.lit (.bool true)]) else some (.tup [z,.lit (.bool false)])
  | _ => none
 | .b2s x => match E.ev x with
  | .sl t e rows => if goneB t = false ∧ e = 1 then match bytesA rows with
    | some l => some (.lit (.string ⟨l.toArray⟩))
    | none => none
   else none
  | .ml c o n _ _ e => if e = 1 then match E.c c with
    | some cs => if o + n ≤ cs.length then match bytesA ((cs.drop o).take n) with
     | some l => some (.lit (.string ⟨l.toArray⟩))
     | none => none
     else none
    | none => none
   else none
  | _ => none
 | .eqn neg x => match E.ev x with
  | .lit .nilIface => some (.lit (.bool !neg))
  | .ifc _ _ => some (.lit (.bool neg))
  | .gl _ => some (.lit (.bool neg))
  | _ => none
 | .eqp neg x => match E.ev x with
  | .lit (.pointer none) => some (.lit (.bool !neg))
  | .rp _ => some (.lit (.bool neg))
  | .bp _ => some (.lit (.bool neg))
  | .lp _ _ => some (.lit (.bool neg))
  | _ => none
 | .un op x => match E.ev x with
  | .lit u => match p0 (Op.unary op u) with
   | some r => some (.lit r)
   | none => none
  | _ => none
 | .cint k x => match E.ev x with
  | .lit (.int _ n) => some (.lit (.int k (k.wrap n)))
  | _ => none
 | .cid x => match E.ev x with
  | .lit (.string s) => some (.lit (.string s))
  | _ => none
 | .mkif t x => some (.ifc t (E.ev x))
 | .mkfn fn fst caps => some (.clo fn (fst.map E.ev) (caps.map E.ev))
 | .slcs x lo hi => match E.ev x with
  | .lit (.string s) => match bnd E 0 lo,bnd E s.size hi with
   | some l,some h => if 0 ≤ l ∧ l ≤ h ∧ h ≤ s.size then some (.lit (.string (s.extract l.toNat h.toNat))) else none
   | _,_ => none
  | _ => none
 | .slc esz x lo hi => match E.ev x with
  | .sl t e rows => match bnd E 0 lo,bnd E rows.length hi with
   | some l,some h => if frB t = false then if e = esz then if 0 ≤ l ∧ l ≤ h ∧ h ≤ rows.length then some (.sl (cutTok t) e ((rows.take h.toNat).drop l.toNat)) else none else none else none
   | _,_ => none
  | .ml c off n cap g e => match bnd E 0 lo,bnd E n hi with
   | some l,some h => if e = esz then if 0 ≤ l ∧ l ≤ h ∧ h ≤ n ∧ (l < cap ∨ l = 0) ∧ n ≤ cap then some (.ml c (off + l.toNat * e) (h.toNat - l.toNat) (cap - l.toNat) g e) else none else none
   | _,_ => none
  | _ => none
 | .faddr off size x => match E.ev x with
  | .rp cs => if off + size ≤ cs.length then some (.rp ((cs.drop off).take size)) else none
  | .bp cs => if off + size ≤ cs.length then some (.bp ((cs.drop off).take size)) else none
  | .lp c o => some (.lp c (o + off))
  | _ => none
 | .fld agg off size x => match E.ev x with
  | .agg cs => ld agg size (cs.drop off)
  | _ => none
 | .iaddr esz x i => match E.ev x,E.ev i with
  | .sl t e rows,.lit (.int _ n) => if 0 ≤ n then match rows[n.toNat]? with
    | some r => if frB t = false then if r.row = true then if e = esz then some (match t with | .bor => .bp (cellsOf r) | _ => .rp (cellsOf r)) else none else none else none
    | none => none
   else none
  | .ml c off len _ _ e,.lit (.int _ n) => if 0 ≤ n ∧ n < (len : Int) then if e = esz then some (.lp c (off + n.toNat * e)) else none else none
  | _,_ => none
 | .iadra n esz x i => match E.ev i with
  | .lit (.int _ k) => if 0 ≤ k ∧ k < (n : Int) then match E.ev x with
    | .rp cs => if k.toNat * esz + esz ≤ cs.length then some (.rp ((cs.drop (k.toNat * esz)).take esz)) else none
    | .bp cs => if k.toNat * esz + esz ≤ cs.length then some (.bp ((cs.drop (k.toNat * esz)).take esz)) else none
    | .lp c o => some (.lp c (o + k.toNat * esz))
    | _ => none
   else none
  | _ => none
 | .idxa agg n esz x i => match E.ev i with
  | .lit (.int _ k) => if 0 ≤ k ∧ k < (n : Int) then match E.ev x with
    | .agg cs => ld agg esz (cs.drop (k.toNat * esz))
    | _ => none
   else none
  | _ => none
 | .idxs x i => match E.ev x,E.ev i with
  | .lit (.string s),.lit (.int _ n) => if 0 ≤ n then match s[n.toNat]? with
    | some b => some (.lit (.int .u8 b.toNat))
    | none => none
   else none
  | _,_ => none
 | .ext x i => match E.ev x with
  | .tup cs => cs[i]?
  | _ => none
 | .i2s x => match E.ev x with
  | .lit (.int _ n) => if 0 ≤ n ∧ n < 128 then some (.lit (.string ⟨#[UInt8.ofNat n.toNat]⟩)) else none
  | _ => none
 | .eqs neg x => match E.ev x with
  | .sl t _ rows => match t,rows with
   | .nil,[] => some (.lit (.bool !neg))
   | .gone,_ => none
   | _,_ :: _ => some (.lit (.bool neg))
   | _,_ => none
  | .ml _ _ _ _ _ _ => some (.lit (.bool neg))
  | .lit (.slice A _ _) => some (.lit (.bool (if neg then !A.isNone else A.isNone)))
  | _ => none
 | .lkp str z ok m k => match E.ev m,E.ev k with
  | .mp keys vals,.lit kv => mapGet str z ok keys vals kv
  | .mu _ keys vals,.lit kv => mapGet str z ok keys vals kv
  | _,_ => none
 | .lens x => match E.ev x with
  | .lit (.string s) => some (.lit (.int .i64 s.size))
  | _ => none
 | .lenl x => match E.ev x with
  | .sl _ _ rows => some (.lit (.int .i64 rows.length))
  | .ml _ _ n _ _ _ => some (.lit (.int .i64 n))
  | _ => none
 | .mnmx mx args => match (args.map E.ev).mapM litOf with
  | some vs => match p0 (if mx then Builtin.max_ #[] 0 vs.toArray else Builtin.min_ #[] 0 vs.toArray) with
   | some r => some (.lit r)
   | none => none
  | none => none
 | _ => none
where
 ld (agg : Bool) (size : Nat) (cs : List AV) : Option AV :=
  match agg with
  | true => if size ≤ cs.length then some (.agg (cs.take size)) else none
  | false => cs[0]?
 bnd (E : Env) (d : Nat) : Option Operand → Option Int
  | none => some d
  | some x => intOfA (E.ev x)
 cutTok : Tok → Tok
  | .bor => .bor
  | _ => .none
 litOf : AV → Option Value
  | .lit v => some v
  | _ => none
end Go.Proofs.YtnndbbmidoidpaaGreatDoor.VL
end

section
namespace Go.Proofs.YtnndbbmidoidpaaGreatDoor.VL
open Go.RowKit
structure BelowX (M : Nat → Prop) (w0 w : World) : Prop where
 os : w.os = w0.os
 tape : w.tape = w0.tape
 output : w.output = w0.output
 size : w0.heap.size ≤ w.heap.size
 block : ∀ k,k < w0.heap.size → ¬ M k → w.heap[k]? = w0.heap[k]?
theorem BelowX.refl (M : Nat → Prop) (w : World) : BelowX M w w:= ⟨rfl,rfl,rfl,Nat.le_refl _,fun _ _ _ => rfl⟩
theorem BelowX.alloc {M : Nat → Prop} {w0 w : World} (h : BelowX M w0 w) (o : Obj) : BelowX M w0 (w.alloc o) :=
 ⟨h.os,h.tape,h.output,by show w0.heap.size ≤ (w.heap.push o).size; have:= h.size; simp; omega,fun k hk hm => by
  rw [heap_alloc_old w o k (Nat.lt_of_lt_of_le hk h.size)]; exact h.block k hk hm⟩
theorem BelowX.drew {M : Nat → Prop} {w0 w : World} (h : BelowX M w0 w) : BelowX M w0 w.drew:= ⟨h.os,h.tape,h.output,h.size,h.block⟩
theorem BelowX.below {M : Nat → Prop} {w0 w : World} (h : BelowX M w0 w) (hM : ∀ k,¬ M k) : Below w0.heap.size w0 w:= ⟨h.os,h.tape,h.output,h.size,fun k hk => h.block k hk (hM k)⟩
theorem BelowX.cell {M : Nat → Prop} {w0 w : World} (h : BelowX M w0 w) {b o : Nat} (hb : b < w0.heap.size) (hm : ¬ M b) : w.cell? ⟨b,o,none⟩ = w0.cell? ⟨b,o,none⟩:= by
 simp only [World.cell?,h.block b hb hm]
def RE.M (R : RE) (k : Nat) : Prop:= ∃ c,R.loc c = some k
structure Inv (R : RE) (N : Nat) (env : Env) (a : Act) (E : RE) : Prop where
 defers : a.defers = []
 Nlim : N ≤ 100000
 lentl : ∀ c b,E.loc c = some b → 100000 ≤ c → R.loc c = some b
 size : a.tmps.size = N
 B : E.B = R.B
 Bok : ∀ b,E.B b → b < R.w.heap.size ∧ ¬ R.M b
 below : BelowX R.M R.w E.w
 Mlt : ∀ k,R.M k → k < R.w.heap.size
 MS : ∀ k,R.M k → ∀ o,¬ E.S k o
 par : ∀ c b,R.loc c = some b → N ≤ c ∧ (E.loc c = none ∨ E.loc c = some b)
 G : E.G = R.G
 S0 : ∀ b o,b < R.w.heap.size → (E.S b o ↔ R.S b o)
 Slt : ∀ b o,E.S b o → b < E.w.heap.size
 ownlt : ∀ g τ,E.own g τ → R.w.heap.size ≤ g ∧ g < E.w.heap.size
 own1 : ∀ g τ τ',E.own g τ → E.own g τ' → τ = τ'
 locc : ∀ c b,E.loc c = some b → (R.w.heap.size ≤ b ∨ R.loc c = some b) ∧ (∀ o,¬ E.S b o) ∧ (∀ τ,¬ E.own b τ) ∧
  ∃ cs vals ty,env.c c = some cs ∧ E.w.heap[b]? = some (.cells vals ty (0,0)) ∧ RepL E cs vals.toList ∧ ∀ u ∈ vals.toList,u.oneCell' = true
 locd : ∀ c cs,env.c c = some cs → ∃ b,E.loc c = some b
 loc1 : ∀ c c' b,E.loc c = some b → E.loc c' = some b → c = c'
 mlocc : ∀ c b,E.mloc c = some b → R.w.heap.size ≤ b ∧ b < E.w.heap.size ∧ (∀ o,¬ E.S b o) ∧ (∀ τ,¬ E.own b τ) ∧ ∀ c',E.loc c' ≠ some b
 mloc1 : ∀ c c' b,E.mloc c = some b → E.mloc c' = some b → c = c'
 slots : ∀ k,Rep E (env.s k) (a.tmps.getD k undef)
theorem rep_ofVal1 (E : RE) (v : Value) : Rep E (ofVal1 v) v:= by
 unfold ofVal1
 split
 ·simp only [Rep]
  exact ⟨none,0,[],rfl,Nat.le_refl _,by simp [RepL],by simp,by simp [flat],rfl,rfl⟩
 ·simp [Rep]
theorem repL_ofVal1 (E : RE) : ∀ l : List Value,RepL E (l.map ofVal1) l
 | [] => by simp [RepL]
 | v :: l => by
  simp only [List.map_cons,RepL]
  exact ⟨v,l,rfl,rep_ofVal1 E v,repL_ofVal1 E l⟩
theorem rep_nil (E : RE) (e : Nat) : Rep E (.sl .nil e []) (.slice none 0 0):= by
 simp only [Rep]
 exact ⟨none,0,[],rfl,Nat.le_refl _,by simp [RepL],by simp,by simp [flat],rfl,rfl⟩
theorem rep_ofVal (E : RE) (v : Value) : Rep E (ofVal v) v:= by
 unfold ofVal
 split
 ·exact rep_nil E 0
 ·simp only [Rep]
  exact ⟨_,by simp,repL_ofVal1 E _⟩
 ·simp [Rep]
theorem Inv.ev {R : RE} {N : Nat} {env : Env} {a : Act} {E : RE} (h : Inv R N env a E) (x : Operand) : Rep E (env.ev x) (a.eval x):= by
 cases x with
 | tmp t => exact h.slots t
 | const v => exact rep_ofVal E v
 | global g => simp [Env.ev,Act.eval,Rep]
 | func f =>
  simp only [Env.ev,Act.eval,Rep]
  exact ⟨[],[],rfl,by simp [RepL],by simp [RepL]⟩
theorem Inv.put {R : RE} {N : Nat} {env : Env} {a : Act} {E : RE} (h : Inv R N env a E) {k : Nat} (hk : k < N) {x : AV} {v : Value} (hx : Rep E x v) :
  Inv R N (env.put k x) (a.put (some k) v) E:= by
 refine { h with defers:= h.defers,size:= by simp [Act.put,h.size],slots:= fun j => ?_ }
 simp only [Env.put,upd,Act.put]
 by_cases hj : j = k
 ·subst hj
  rw [if_pos rfl]
  have : j < a.tmps.size:= by rw [h.size]; exact hk
  simpa [Array.getD_eq_getD_getElem?,Array.getElem?_setIfInBounds,this] using hx
 ·rw [if_neg hj]
  have:= h.slots j
  rw [Array.getD_eq_getD_getElem?] at this ⊢
  rw [Array.getElem?_setIfInBounds_ne (by omega)]
  exact this
theorem Inv.forget {R : RE} {N : Nat} {env env' : Env} {a : Act} {E : RE} (h : Inv R N env a E) (hs : ∀ k,env'.s k = env.s k ∨ env'.s k = .dead) (hc : env'.c = env.c) :
  Inv R N env' a E:= by
 refine { h with locc:= fun c b hb => by rw [hc]; exact h.locc c b hb,locd:= fun c cs he => h.locd c cs (by rw [← hc]; exact he),slots:= fun k => ?_ }
 rcases hs k with e | e
 ·rw [e]; exact h.slots k
 ·rw [e]; simp [Rep]
theorem RepL.append {E : RE} : ∀ {xs ys : List AV} {vs ws : List Value},RepL E xs vs → RepL E ys ws → RepL E (xs ++ ys) (vs ++ ws)
 | [],ys,vs,ws,h,h' => by
  simp only [RepL] at h
  subst h
  exact h'
 | x :: xs,ys,vs,ws,h,h' => by
  simp only [RepL] at h
  obtain ⟨v,us,rfl,h1,h2⟩:= h
  simp only [List.cons_append,RepL]
  exact ⟨v,us ++ ws,rfl,h1,RepL.append h2 h'⟩
theorem RepL.take {E : RE} : ∀ (n : Nat) {xs : List AV} {vs : List Value},RepL E xs vs → RepL E (xs.take n) (vs.take n)
 | 0,xs,vs,h => by simp [RepL]
 | n + 1,[],vs,h => by
  simp only [RepL] at h
  subst h
  simp [RepL]
 | n + 1,x :: xs,vs,h => by
  simp only [RepL] at h
  obtain ⟨v,us,rfl,h1,h2⟩:= h
  simp only [List.take_succ_cons,RepL]
  exact ⟨v,_,rfl,h1,RepL.take n h2⟩
theorem RepL.drop {E : RE} : ∀ (n : Nat) {xs : List AV} {vs : List Value},RepL E xs vs → RepL E (xs.drop n) (vs.drop n)
 | 0,xs,vs,h => by simpa using h
 | n + 1,[],vs,h => by
  simp only [RepL] at h
  subst h
  simp [RepL]
 | n + 1,x :: xs,vs,h => by
  simp only [RepL] at h
  obtain ⟨v,us,rfl,h1,h2⟩:= h
  simpa using RepL.drop n h2
theorem RepL.get {E : RE} : ∀ {xs : List AV} {vs : List Value} (i : Nat) {x : AV},RepL E xs vs → xs[i]? = some x → ∃ v,vs[i]? = some v ∧ Rep E x v
 | [],vs,i,x,h,hi => by simp at hi
 | y :: xs,vs,0,x,h,hi => by
  simp only [RepL] at h
  obtain ⟨v,us,rfl,h1,h2⟩:= h
  simp at hi
  subst hi
  exact ⟨v,rfl,h1⟩
 | y :: xs,vs,i + 1,x,h,hi => by
  simp only [RepL] at h
  obtain ⟨v,us,rfl,h1,h2⟩:= h
  simpa using RepL.get i h2 (by simpa using hi)
theorem RepL.map {E : RE} {α : Type} (f : α → AV) (g : α → Value) : ∀ (l : List α),(∀ x ∈ l,Rep E (f x) (g x)) → RepL E (l.map f) (l.map g)
 | [],_ => by simp [RepL]
 | x :: l,h => by
  simp only [List.map_cons,RepL]
  exact ⟨_,_,rfl,h x (by simp),RepL.map f g l fun y hy => h y (by simp [hy])⟩
theorem rep_one {E : RE} {x : AV} {v : Value} (h : Rep E x v) (hx : x.one = true) : v.oneCell' = true:= by
 cases x with
 | lit u => simp only [Rep] at h; subst h; exact hx
 | agg cs => simp [AV.one] at hx
 | tup cs => simp [AV.one] at hx
 | dead => simp [AV.one] at hx
 | sl t e rows => simp only [Rep] at h; obtain ⟨_,_,_,rfl,_⟩:= h; rfl
 | rp cs => simp only [Rep] at h; obtain ⟨_,_,_,rfl,_⟩:= h; rfl
 | bp cs => simp only [Rep] at h; obtain ⟨_,_,_,rfl,_⟩:= h; rfl
 | lp c o => simp only [Rep] at h; obtain ⟨_,_,rfl⟩:= h; rfl
 | clo f a b => simp only [Rep] at h; obtain ⟨_,_,rfl,_⟩:= h; rfl
 | ifc t x => simp only [Rep] at h; obtain ⟨_,rfl,_⟩:= h; rfl
 | mp k vs => simp only [Rep] at h; obtain ⟨_,_,_,_,rfl,_⟩:= h; rfl
 | gl i => simp only [Rep] at h; obtain ⟨_,h⟩:= h; subst h; rfl
 | gp g => simp only [Rep] at h; subst h; rfl
 | ml c o n k g e => simp only [Rep] at h; obtain ⟨_,_,rfl⟩:= h; rfl
 | mu c k vs => simp only [Rep] at h; obtain ⟨_,_,_,_,_,rfl,_⟩:= h; rfl
 | mf t al => simp only [Rep] at h; obtain ⟨_,rfl,_⟩:= h; rfl
theorem cells_one {v : Value} (h : v.oneCell' = true) : v.cells = #[v]:= by
 cases v <;> first | rfl | simp [Value.oneCell'] at h
theorem rep_cells {E : RE} {x : AV} {v : Value} (h : Rep E x v) (hx : x.one = true ∨ ∃ cs,x = .agg cs) : RepL E (cellsOf x) v.cells.toList:= by
 rcases hx with hx | ⟨cs,rfl⟩
 ·have hc : cellsOf x = [x]:= by cases x <;> first | rfl | simp [AV.one] at hx
  rw [hc,cells_one (rep_one h hx)]
  simp only [RepL]
  exact ⟨v,[],rfl,h,rfl⟩
 ·simp only [Rep] at h
  obtain ⟨vs,rfl,h⟩:= h
  simpa [cellsOf,Value.cells] using h
theorem repL_one {E : RE} : ∀ {xs : List AV} {vs : List Value},RepL E xs vs → (∀ x ∈ xs,x.one = true) → ∀ u ∈ vs,u.oneCell' = true
 | [],vs,h,_ => by simp only [RepL] at h; simp [h]
 | x :: xs,vs,h,h1 => by
  simp only [RepL] at h
  obtain ⟨v,us,rfl,h2,h3⟩:= h
  intro u hu
  rcases List.mem_cons.1 hu with rfl | hu
  ·exact rep_one h2 (h1 x (by simp))
  ·exact repL_one h3 (fun y hy => h1 y (by simp [hy])) u hu
end Go.Proofs.YtnndbbmidoidpaaGreatDoor.VL
end

section
namespace Go.Proofs.YtnndbbmidoidpaaGreatDoor.VL
open Go.RowKit
def isAggB (P : Program) (t : TypeId) : Option Bool :=
 match P.underlying t with
 | some (.struct _) | some (.array _ _) => some true
 | some _ => some false
 | none => none
def isZeroOp : Operand → Bool
 | .const (.int _ 0) => true
 | _ => false
def keyStr (P : Program) (k : TypeId) : Option Bool:= match P.underlying k with
 | some (.int _) => some false
 | some .string => some true
 | _ => none
def ckOf (P : Program) (t : TypeId) : Option CK:= match P.info? t with
 | some i => if i.size = 1 then match P.underlying t with
   | some (.int _) => some .int
   | some .bool => some .bool
   | some .string => some .str
   | _ => none
  else none
 | none => none
def eqPlan (P : Program) (t : TypeId) : Option (List CK):= match P.underlying t with
 | some (.struct fs) => if P.stoodInHeld t = false then if fs.toList.map (·.offset) = List.range fs.size then if (fs.toList.all fun f => f.name ≠ "_") = true then mapCK P (fs.toList.map (·.type)) else none else none else none
 | some (.array n e) => match ckOf P e with
  | some k => some (List.replicate n k)
  | none => none
 | _ => none
where
 mapCK (P : Program) : List TypeId → Option (List CK)
  | [] => some []
  | t :: ts => match ckOf P t with
   | some k => match mapCK P ts with
    | some ks => some (k :: ks)
    | none => none
   | none => none
def eqaRes (P : Program) (neg : Bool) (t : TypeId) (x y : Operand) : AOp:= if P.eqGuardType P.depth t = false then match eqPlan P t with
 | some ks => .eqa neg ks x y
 | none => .bad
 else .bad
def sentOK (P : Program) : Bool:= match P.underlying GT,P.info? GT with
 | some (.pointer e),some i => i.comparable && (match P.info? e with | some j => decide (j.size ≠ 0) | none => false)
 | _,_ => false
def res (P : Program) : Op → AOp
 | .move x | .assign x => .mov x
 | .pick c a b => .pick c a b
 | .alloc t => match (P.info? t).bind (·.zero) with
  | some z => .alloc (z.cells.toList.map ofVal1)
  | none => .bad
 | .box _ x => .box x
 | .build t parts => match P.underlying t,(P.info? t).bind (·.zero) with
  | some (.struct fs),some z => match parts.toList.mapM (fun p => (fs[p.1]?).bind fun f => (P.info? f.type).map fun i => (f.offset,i.size,p.2)) with
   | some l => if (fs.toList.all fun f => (P.info? f.type).isSome) then .build (z.cells.toList.map ofVal1) l else .bad
   | none => .bad
  | some (.array _ e),some z => match P.info? e with
   | some i => .build (z.cells.toList.map ofVal1) (parts.toList.map fun p => (p.1 * i.size,i.size,p.2))
   | none => .bad
  | _,_ => .bad
 | .buildSlice t n parts => match P.underlying t with
  | some (.slice e) => match P.info? e with
   | some i => match i.zero with
    | some z => if parts.toList.map (·.1) = List.range n then if n * i.size ≤ 16777216 ∧ 0 < i.size then if z.cells.size = i.size then .bslice n i.size (parts.toList.map (·.2)) else .bad else .bad else .bad
    | none => .bad
   | none => .bad
  | _ => .bad
 | .makeSlice t l c => match P.underlying t with
  | some (.slice e) => match P.info? e,isAggB P e with
   | some i,some b => match i.zero with
    | some z => if z.cells.size = i.size then if 0 < i.size then if isZeroOp l = true then .mko i.size i.bytes c else .mks b i.size i.bytes (z.cells.toList.map ofVal1) l c else .bad else .bad
    | none => .bad
   | _,_ => .bad
  | _ => .bad
 | .load t a => match isAggB P t,P.info? t with
  | some b,some i => .load b i.size a
  | _,_ => .bad
 | .store t a x => match P.info? t with
  | some i => .store i.size a x
  | none => .bad
 | .nilCheck x => .nilchk x
 | .binOp op t x y _ => match op,P.underlying t,y with
  | .eql,some .bool,y => .eqb false t x y
  | .neq,some .bool,y => .eqb true t x y
  | .eql,some (.interface _),.const .nilIface => .eqn false x
  | .neq,some (.interface _),.const .nilIface => .eqn true x
  | .eql,some (.pointer _),.const (.pointer none) => .eqp false x
  | .neq,some (.pointer _),.const (.pointer none) => .eqp true x
  | .eql,some (.slice _),.const (.slice none 0 0) => .eqs false x
  | .neq,some (.slice _),.const (.slice none 0 0) => .eqs true x
  | .eql,some (.struct _),y => eqaRes P false t x y
  | .neq,some (.struct _),y => eqaRes P true t x y
  | .eql,some (.array _ _),y => eqaRes P false t x y
  | .neq,some (.array _ _),y => eqaRes P true t x y
  | .eql,some (.interface _),y => if sentOK P = true then .eqi false x y else .bad
  | .neq,some (.interface _),y => if sentOK P = true then .eqi true x y else .bad
  | op,_,y => .bin op t x y
 | .unOp op _ x => .un op x
 | .convert s d x => match P.underlying s,P.underlying d with
  | some (.int _),some (.int k) => .cint k x
  | some .string,some .string => .cid x
  | some (.int _),some .string => .i2s x
  | some (.slice e),some .string => match P.underlying e,P.info? e with
   | some (.int .u8),some _ => .b2s x
   | _,_ => .bad
  | _,_ => .bad
 | .typeAssert x _ t true => match P.underlying t,(P.info? t).bind (·.zero) with
  | some (.interface _),_ => .bad
  | some (.pointer _),some z => .tas t (ofVal z) x
  | _,_ => .bad
 | .makeInterface t x => match P.underlying t with
  | some (.interface _) => .bad
  | some _ => .mkif t x
  | none => .bad
 | .makeFunc fn a b => .mkfn fn a.toList b.toList
 | .slice t x lo hi mx => match P.underlying t,mx with
  | some .string,none => .slcs x lo hi
  | some (.slice e),none => match P.info? e with
   | some i => .slc i.size x lo hi
   | none => .bad
  | _,_ => .bad
 | .makeMap t none => match P.underlying t with
  | some (.map _ _) => .mkm
  | _ => .bad
 | .mapUpdate t m k x | .insert t m k x => match P.underlying t with
  | some (.map kt _) => match keyStr P kt with
   | some b => .mup b m k x
   | none => .bad
  | _ => .bad
 | .lookup t m k ok => match P.underlying t with
  | some (.map kt e) => match keyStr P kt,(P.info? e).bind (·.zero) with
   | some b,some z => .lkp b (ofVal z) ok m k
   | _,_ => .bad
  | _ => .bad
 | .fieldAddr t x f => match P.underlying t with
  | some (.struct fs) => match fs[f]? with
   | some fd => match P.info? fd.type with
    | some i => if i.size = 0 then .bad else .faddr fd.offset i.size x
    | none => .bad
   | none => .bad
  | _ => .bad
 | .field t x f => match P.underlying t with
  | some (.struct fs) => match fs[f]? with
   | some fd => match P.info? fd.type,isAggB P fd.type with
    | some i,some b => .fld b fd.offset i.size x
    | _,_ => .bad
   | none => .bad
  | _ => .bad
 | .indexAddr t x i => match P.underlying t with
  | some (.slice e) => match P.info? e with
   | some inf => .iaddr inf.size x i
   | none => .bad
  | some (.array n e) => match P.info? e with
   | some inf => .iadra n inf.size x i
   | none => .bad
  | _ => .bad
 | .index t x i => match P.underlying t with
  | some .string => .idxs x i
  | some (.array n e) => match P.info? e,isAggB P e with
   | some inf,some b => .idxa b n inf.size x i
   | _,_ => .bad
  | _ => .bad
 | .extract x i => .ext x i
 | .call c => match c.callee with
  | .value (.func f) => .call f c.args.toList
  | .value x => .callv x c.args.toList
  | .builtin .len => match c.argTypes[0]?,c.args.toList with
   | some t,[x] => match P.underlying t with
    | some .string => .lens x
    | some (.slice _) => .lenl x
    | _ => .bad
   | _,_ => .bad
  | .builtin .clear => match c.argTypes[0]?,c.args.toList with
   | some t,[x] => match P.underlying t with
    | some (.slice e) => match P.info? e with
     | some i => match i.zero with
      | some z => if z.cells.size = i.size then .clr (z.cells.toList.map ofVal1) x else .bad
      | none => .bad
     | none => .bad
    | _ => .bad
   | _,_ => .bad
  | .builtin .min => .mnmx false c.args.toList
  | .builtin .max => .mnmx true c.args.toList
  | .builtin .append => match c.argTypes.toList,c.args.toList with
   | [t,u],[x,y] => if t = u then match P.underlying t with
    | some (.slice e) => match P.info? e with
     | some i => match i.zero with
      | some z => if z.cells.size = i.size then if 0 < i.size then if (z.cells.toList.all fun u => u.oneCell') = true then .app i.size i.bytes [] x y else .bad else .bad else .bad
      | none => .bad
     | none => .bad
    | _ => .bad
    else .bad
   | _,_ => .bad
  | _ => .bad
 | _ => .bad
section
variable {P : Program} {R : RE} {N : Nat} {env : Env} {a : Act} {E : RE}
theorem run_loadCells_at {w : World} {S : Nat → Nat → Prop} {vs : List Value} {b o : Nat} (h : At w S vs b o) (n : Nat) (hn : n ≤ vs.length) :
  (loadCells ⟨b,o,none⟩ n).run P w = .ok (vs.take n).toArray w:= by
 have:= run_loadCells_list (P:= P) (w:= w) ⟨b,o,none⟩ (vs.take n) (fun j v hj => by
  rw [Addr.add_lit]
  rw [List.getElem?_take] at hj
  split at hj
  ·exact (h j v hj).2
  ·cases hj)
 simpa [Nat.min_eq_left hn] using this
theorem run_isAgg {t : TypeId} {b : Bool} (h : isAggB P t = some b) (w : World) : (isAgg t).run P w = .ok b w:= by
 unfold isAggB at h
 unfold isAgg underlying program
 cases hu : P.underlying t with
 | none => simp [hu] at h
 | some d => cases d <;> simp [hu] at h <;> subst h <;> simp [Sem.run,hu,Bind.bind,Sem.bind,Pure.pure]
theorem run_sizeOf {t : TypeId} {i : TypeInfo} (h : P.info? t = some i) (w : World) : (sizeOf t).run P w = .ok i.size w:= by
 simp [sizeOf,typeInfo,program,Sem.run,h,Bind.bind,Sem.bind,Pure.pure]
theorem run_loadVar {t : TypeId} {b : Bool} {i : TypeInfo} (hb : isAggB P t = some b) (hi : P.info? t = some i) {w : World} {S : Nat → Nat → Prop} {vs : List Value} {bl o : Nat} (h : At w S vs bl o)
  {E : RE} {cs : List AV} (hr : RepL E cs vs) {x : AV} (hx : aval.ld b i.size cs = some x) : ∃ v,(loadVar t ⟨bl,o,none⟩).run P w = .ok v w ∧ Rep E x v:= by
 unfold loadVar
 cases b with
 | true =>
  simp only [aval.ld] at hx
  split at hx
  ·rename_i hle
   injection hx with hx
   subst hx
   have hl:= hr.length
   refine ⟨.agg (vs.take i.size).toArray,?_,?_⟩
   ·simp [Sem.run_bind,run_isAgg hb,run_sizeOf hi,run_loadCells_at (P:= P) h i.size (by omega)]
   ·simp only [Rep]
    exact ⟨_,rfl,hr.take _⟩
  ·cases hx
 | false =>
  simp only [aval.ld] at hx
  obtain ⟨v,hv,hrep⟩:= hr.get 0 hx
  have:= (h 0 v hv).2
  refine ⟨v,?_,hrep⟩
  simp only [Nat.add_zero] at this
  simp [Sem.run_bind,run_isAgg hb,load,Sem.run,this]
end
end Go.Proofs.YtnndbbmidoidpaaGreatDoor.VL
end

section
namespace Go.Proofs.YtnndbbmidoidpaaGreatDoor.VL
open Go.RowKit
section
variable {P : Program} {R : RE} {N : Nat} {env : Env} {a : Act} {E : RE}
theorem Ext.closed_le (E : RE) : Ext E.closed E :=
 ⟨fun _ _ h => h,fun _ h => h.elim,fun b o u hb hc => hc,fun _ _ _ _ h => h,fun c b hc => by simp [RE.closed] at hc,fun g τ ho => (ho : False).elim,rfl,fun c b hc => by simp [RE.closed] at hc⟩
theorem Ext.bor_le (E : RE) : Ext E.bor E :=
 ⟨fun _ _ h => h,fun _ h => h,fun b o u hb hc => hc,fun _ _ _ _ h => h,fun c b hc => by simp [RE.bor] at hc,fun g τ ho => (ho : False).elim,rfl,fun c b hc => by simp [RE.bor] at hc⟩
theorem Ext.closed_bor (E : RE) : Ext E.closed E.bor :=
 ⟨fun _ _ h => h,fun _ h => h.elim,fun b o u hb hc => hc,fun _ _ _ _ h => h,fun c b hc => by simp [RE.closed] at hc,fun g τ ho => (ho : False).elim,rfl,fun c b hc => by simp [RE.closed] at hc⟩
def ValOK (P : Program) (E : RE) (a : Act) (o : Oper) (x : AV) : Prop :=
 ∃ v,(execOp a.eval o).run P E.w = .ok (.value v) E.w ∧ Rep E x v
theorem val_move (hI : Inv R N env a E) {o : Oper} {y : Operand} (ho : o.op = .move y ∨ o.op = .assign y) {x : AV} (h : aval env (.mov y) = some x) : ValOK P E a o x:= by
 simp only [aval] at h
 injection h with h
 subst h
 refine ⟨a.eval y,?_,hI.ev y⟩
 rcases ho with ho | ho <;> simp [execOp,ho,Sem.run]
theorem val_pick (hI : Inv R N env a E) {o : Oper} {c y z : Operand} (ho : o.op = .pick c y z) {x : AV} (h : aval env (.pick c y z) = some x) : ValOK P E a o x:= by
 simp only [aval] at h
 split at h
 ·rename_i t hc
  have hcv:= hI.ev c
  rw [hc] at hcv
  simp only [Rep] at hcv
  injection h with h
  subst h
  cases t
  ·exact ⟨a.eval z,by simp [execOp,ho,hcv,asBool,Sem.run,Sem.run_bind],hI.ev z⟩
  ·exact ⟨a.eval y,by simp [execOp,ho,hcv,asBool,Sem.run,Sem.run_bind],hI.ev y⟩
 ·cases h
theorem val_load (hI : Inv R N env a E) {o : Oper} {t : TypeId} {y : Operand} (ho : o.op = .load t y) {x : AV} (h : aval env (res P (.load t y)) = some x) : ValOK P E a o x:= by
 simp only [res] at h
 split at h
 ·rename_i b i hb hi
  have hy:= hI.ev y
  simp only [aval] at h
  have go : ∀ (S : Nat → Nat → Prop) (E' : RE) (cs : List AV) (vs : List Value) (bl off : Nat),a.eval y = .pointer (some ⟨bl,off,none⟩) → At E.w S vs bl off → RepL E' cs vs →
    aval.ld b i.size cs = some x → (Rep E' x = Rep E x ∨ (∀ v,Rep E' x v → Rep E x v)) → ValOK P E a o x:= by
   intro S E' cs vs bl off he hat hr hx hE
   obtain ⟨v,hv,hrep⟩:= run_loadVar (P:= P) hb hi hat hr hx
   refine ⟨v,?_,?_⟩
   ·simp [execOp,ho,he,Instr.loadAt,Instr.sureAddr,Sem.run_bind,hv]
   ·rcases hE with hE | hE
    ·rw [← hE]; exact hrep
    ·exact hE v hrep
  split at h
  ·rename_i cs hc
   rw [hc] at hy
   simp only [Rep] at hy
   obtain ⟨bl,off,vs,he,hr,hat⟩:= hy
   refine go _ _ _ _ _ _ he hat hr h (.inr fun v hv => hv.mono (Ext.closed_le E))
  ·rename_i cs hc
   rw [hc] at hy
   simp only [Rep] at hy
   obtain ⟨bl,off,vs,he,hr,hat⟩:= hy
   refine go _ _ _ _ _ _ he hat hr h (.inr fun v hv => hv.mono (Ext.bor_le E))
  ·rename_i c off hc
   rw [hc] at hy
   simp only [Rep] at hy
   obtain ⟨bl,hl,he⟩:= hy
   obtain ⟨_,_,_,cs,vals,ty,hcs,hh,hr,_⟩:= hI.locc _ _ hl
   rw [hcs] at h
   simp only at h
   have hat : At E.w (fun _ _ => True) (vals.toList.drop off) bl off:= by
    intro j u hj
    refine ⟨trivial,?_⟩
    rw [List.getElem?_drop] at hj
    simp [World.cell?,hh]
    simpa using hj
   exact go _ _ _ _ _ _ he hat (hr.drop off) h (.inl rfl)
  ·cases h
 ·simp [aval] at h
theorem val_nilchk (hI : Inv R N env a E) {o : Oper} {y : Operand} (ho : o.op = .nilCheck y) {x : AV} (h : aval env (.nilchk y) = some x) : ValOK P E a o x:= by
 simp only [aval] at h
 have hy:= hI.ev y
 split at h
 ·rename_i cs hc
  injection h with h
  rw [← h]
  rw [hc] at hy
  refine ⟨a.eval y,?_,hy⟩
  simp only [Rep] at hy
  obtain ⟨bl,off,vs,he,hr,hat⟩:= hy
  simp [execOp,ho,he,Sem.run]
 ·rename_i cs hc
  injection h with h
  rw [← h]
  rw [hc] at hy
  refine ⟨a.eval y,?_,hy⟩
  simp only [Rep] at hy
  obtain ⟨bl,off,vs,he,hr,hat⟩:= hy
  simp [execOp,ho,he,Sem.run]
 ·rename_i c off hc
  injection h with h
  rw [← h]
  rw [hc] at hy
  refine ⟨a.eval y,?_,hy⟩
  simp only [Rep] at hy
  obtain ⟨bl,hl,he⟩:= hy
  simp [execOp,ho,he,Sem.run]
 ·rename_i f b c hc
  injection h with h
  rw [← h]
  rw [hc] at hy
  refine ⟨a.eval y,?_,hy⟩
  simp only [Rep] at hy
  obtain ⟨fs,cs,he,_,_⟩:= hy
  simp [execOp,ho,he,Sem.run]
 ·cases h
theorem val_bin (hI : Inv R N env a E) {o : Oper} {op : BinOp} {t t' : TypeId} {y z : Operand} (ho : o.op = .binOp op t y z t') {x : AV} (h : aval env (.bin op t y z) = some x) : ValOK P E a o x:= by
 simp only [aval] at h
 have hy:= hI.ev y
 have hz:= hI.ev z
 split at h
 ·rename_i k u k' v h1 h2
  rw [h1] at hy
  rw [h2] at hz
  simp only [Rep] at hy hz
  split at h
  ·rename_i r hr
   injection h with h
   subst h
   refine ⟨r,?_,by simp [Rep]⟩
   simp [execOp,ho,hy,hz,eqGuard_at_int,Sem.run_bind,p0_run hr,Sem.run]
  ·cases h
 ·rename_i u v h1 h2
  rw [h1] at hy
  rw [h2] at hz
  simp only [Rep] at hy hz
  split at h
  ·rename_i r hr
   injection h with h
   subst h
   refine ⟨r,?_,by simp [Rep]⟩
   simp [execOp,ho,hy,hz,eqGuard_at_string,Sem.run_bind,p0_run hr,Sem.run]
  ·cases h
 ·cases h
theorem run_equal_bool {t : TypeId} (h : P.underlying t = some .bool) (x y : Bool) (w : World) : (Op.equal t (.bool x) (.bool y)).run P w = .ok (x == y) w:= by
 unfold Op.equal Op.maxDepth Op.equalIn
 simp [underlying,program,Sem.run,h,Bind.bind,Sem.bind,Pure.pure]
theorem val_eqb (hI : Inv R N env a E) {o : Oper} {op : BinOp} {neg : Bool} {t t' : TypeId} {y z : Operand} (ho : o.op = .binOp op t y z t') (hop : op = if neg then .neq else .eql) (ht : P.underlying t = some .bool)
  {x : AV} (h : aval env (.eqb neg t y z) = some x) : ValOK P E a o x:= by
 simp only [aval] at h
 have hy:= hI.ev y
 have hz:= hI.ev z
 split at h
 ·rename_i u v h1 h2
  rw [h1] at hy
  rw [h2] at hz
  simp only [Rep] at hy hz
  injection h with h
  subst h hop
  refine ⟨.bool (if neg = true then !u == v else u == v),?_,by simp only [Rep]⟩
  cases neg <;> simp [execOp,ho,hy,hz,eqGuard_at_bool,Sem.run_bind,binOp,run_equal_bool ht,Sem.run]
 ·cases h
theorem val_un (hI : Inv R N env a E) {o : Oper} {op : UnOp} {t : TypeId} {y : Operand} (ho : o.op = .unOp op t y) {x : AV} (h : aval env (.un op y) = some x) : ValOK P E a o x:= by
 simp only [aval] at h
 have hy:= hI.ev y
 split at h
 ·rename_i u h1
  rw [h1] at hy
  simp only [Rep] at hy
  split at h
  ·rename_i r hr
   injection h with h
   subst h
   refine ⟨r,?_,by simp [Rep]⟩
   simp [execOp,ho,hy,Sem.run_bind,p0_run hr,Sem.run]
  ·cases h
 ·cases h
theorem run_underlying_eq {t : TypeId} {d : TypeDesc} (h : P.underlying t = some d) (w : World) : (underlying t).run P w = .ok d w:= by
 simp [underlying,program,Sem.run,h,Bind.bind,Sem.bind,Pure.pure]
theorem val_cint (hI : Inv R N env a E) {o : Oper} {s d : TypeId} {q k : IntKind} {y : Operand} (ho : o.op = .convert s d y) (hs : P.underlying s = some (.int q)) (hd : P.underlying d = some (.int k))
  {x : AV} (h : aval env (.cint k y) = some x) : ValOK P E a o x:= by
 simp only [aval] at h
 have hy:= hI.ev y
 split at h
 ·rename_i k' n h1
  rw [h1] at hy
  simp only [Rep] at hy
  injection h with h
  subst h
  refine ⟨.int k (k.wrap n),?_,by simp only [Rep]⟩
  simp [execOp,ho,hy,convert,Sem.run_bind,run_underlying_eq hs,run_underlying_eq hd,Conv.intToInt,Sem.run]
 ·cases h
theorem val_cid (hI : Inv R N env a E) {o : Oper} {s d : TypeId} {y : Operand} (ho : o.op = .convert s d y) (hs : P.underlying s = some .string) (hd : P.underlying d = some .string)
  {x : AV} (h : aval env (.cid y) = some x) : ValOK P E a o x:= by
 simp only [aval] at h
 have hy:= hI.ev y
 split at h
 ·rename_i k' h1
  rw [h1] at hy
  simp only [Rep] at hy
  injection h with h
  subst h
  refine ⟨.string k',?_,by simp only [Rep]⟩
  simp [execOp,ho,hy,convert,Sem.run_bind,run_underlying_eq hs,run_underlying_eq hd,Sem.run]
 ·cases h
theorem val_mkif (hI : Inv R N env a E) {o : Oper} {t : TypeId} {d : TypeDesc} {y : Operand} (ho : o.op = .makeInterface t y) (ht : P.underlying t = some d) (hd : ∀ ms,d ≠ .interface ms)
  {x : AV} (h : aval env (.mkif t y) = some x) : ValOK P E a o x:= by
 simp only [aval] at h
 injection h with h
 subst h
 refine ⟨.iface t (a.eval y),?_,by simp only [Rep]; exact ⟨_,rfl,hI.ev y⟩⟩
 cases d <;> first | exact absurd rfl (hd _) | simp [execOp,ho,Instr.makeInterface,Sem.run_bind,run_underlying_eq ht,Sem.run]
theorem Inv.evs (hI : Inv R N env a E) (l : List Operand) : RepL E (l.map env.ev) (l.map a.eval) :=
 RepL.map _ _ l fun x _ => hI.ev x
theorem val_mkfn (hI : Inv R N env a E) {o : Oper} {fn : Fn} {fst caps : Array Operand} (ho : o.op = .makeFunc fn fst caps) {x : AV} (h : aval env (.mkfn fn fst.toList caps.toList) = some x) : ValOK P E a o x:= by
 simp only [aval] at h
 injection h with h
 subst h
 refine ⟨.func fn (fst.map a.eval) (caps.map a.eval),?_,?_⟩
 ·simp [execOp,ho,Instr.makeFunc,Sem.run_bind,Sem.run]
 ·simp only [Rep]
  exact ⟨fst.toList.map a.eval,caps.toList.map a.eval,by simp [← Array.toList_map],hI.evs fst.toList,hI.evs caps.toList⟩
theorem val_ext (hI : Inv R N env a E) {o : Oper} {y : Operand} {i : Nat} (ho : o.op = .extract y i) {x : AV} (h : aval env (.ext y i) = some x) : ValOK P E a o x:= by
 simp only [aval] at h
 have hy:= hI.ev y
 split at h
 ·rename_i cs h1
  rw [h1] at hy
  simp only [Rep] at hy
  obtain ⟨vs,he,hr⟩:= hy
  obtain ⟨v,hv,hrep⟩:= hr.get i h
  refine ⟨v,?_,hrep⟩
  simp [execOp,ho,he,Instr.extract,Sem.run_bind,hv,Sem.run]
 ·cases h
theorem val_lens (hI : Inv R N env a E) {o : Oper} {c : Call} {t : TypeId} {y : Operand} (ho : o.op = .call c) (hc : c.callee = .builtin .len) (hat : c.argTypes[0]? = some t) (har : c.args.toList = [y])
  (ht : P.underlying t = some .string) {x : AV} (h : aval env (.lens y) = some x) : ValOK P E a o x:= by
 have hargs : c.args = #[y]:= by rw [← Array.toArray_toList (xs:= c.args),har]
 simp only [aval] at h
 have hy:= hI.ev y
 split at h
 ·rename_i s h1
  rw [h1] at hy
  simp only [Rep] at hy
  injection h with h
  subst h
  refine ⟨.int .i64 s.size,?_,by simp only [Rep]⟩
  simp [execOp,ho,hc,hargs,hy,resolve,invoke,builtin,Builtin.len_,hat,Sem.run_bind,run_underlying_eq ht,goInt,Sem.run]
 ·cases h
theorem val_lenl (hI : Inv R N env a E) {o : Oper} {c : Call} {t e : TypeId} {y : Operand} (ho : o.op = .call c) (hc : c.callee = .builtin .len) (hat : c.argTypes[0]? = some t) (har : c.args.toList = [y])
  (ht : P.underlying t = some (.slice e)) {x : AV} (h : aval env (.lenl y) = some x) : ValOK P E a o x:= by
 have hargs : c.args = #[y]:= by rw [← Array.toArray_toList (xs:= c.args),har]
 simp only [aval] at h
 have hy:= hI.ev y
 split at h
 ·rename_i tk e' rows h1
  rw [h1] at hy
  simp only [Rep] at hy
  obtain ⟨A,cap,vs,he,_⟩:= hy
  injection h with h
  subst h
  refine ⟨.int .i64 rows.length,?_,by simp only [Rep]⟩
  simp [execOp,ho,hc,hargs,he,resolve,invoke,builtin,Builtin.len_,hat,Sem.run_bind,run_underlying_eq ht,goInt,Sem.run]
 ·rename_i c' off n cap g e' h1
  rw [h1] at hy
  simp only [Rep] at hy
  obtain ⟨b,_,he⟩:= hy
  injection h with h
  subst h
  refine ⟨.int .i64 n,?_,by simp only [Rep]⟩
  simp [execOp,ho,hc,hargs,he,resolve,invoke,builtin,Builtin.len_,hat,Sem.run_bind,run_underlying_eq ht,goInt,Sem.run]
 ·cases h
end
end Go.Proofs.YtnndbbmidoidpaaGreatDoor.VL
end

section
namespace Go.Proofs.YtnndbbmidoidpaaGreatDoor.VL
open Go.RowKit
section
variable {P : Program} {R : RE} {N : Nat} {env : Env} {a : Act} {E : RE}
theorem At.shift {w : World} {S : Nat → Nat → Prop} {vs : List Value} {b o : Nat} (h : At w S vs b o) (n k : Nat) : At w S ((vs.drop n).take k) b (o + n):= by
 intro j u hj
 rw [List.getElem?_take] at hj
 split at hj
 ·rw [List.getElem?_drop] at hj
  have:= h (n + j) u hj
  rw [← Nat.add_assoc] at this
  exact this
 ·cases hj
theorem val_faddr (hI : Inv R N env a E) {o : Oper} {t : TypeId} {f : Nat} {y : Operand} (ho : o.op = .fieldAddr t y f) {x : AV} (h : aval env (res P (.fieldAddr t y f)) = some x) : ValOK P E a o x:= by
 simp only [res] at h
 split at h
 ·rename_i fs hfs
  split at h
  ·rename_i fd hf
   split at h
   ·rename_i i hi
    split at h
    ·simp [aval] at h
    rename_i hsz
    have hy:= hI.ev y
    have run : ∀ ad : Addr,a.eval y = .pointer (some ad) → (execOp a.eval o).run P E.w = .ok (.value (.pointer (some (ad.add fd.offset)))) E.w:= by
     intro ad he
     simp [execOp,ho,he,Instr.fieldAt,Instr.sureAddr,Sem.run_bind,run_underlying_eq hfs,hf,fieldPlace,run_sizeOf hi,hsz,Sem.run]
    simp only [aval] at h
    split at h
    ·rename_i cs hc
     rw [hc] at hy
     simp only [Rep] at hy
     obtain ⟨bl,off,vs,he,hr,hat⟩:= hy
     split at h
     ·injection h with h
      subst h
      refine ⟨_,run _ he,?_⟩
      simp only [Rep,Addr.add_lit]
      exact ⟨bl,off + fd.offset,_,rfl,(hr.drop fd.offset).take i.size,hat.shift _ _⟩
     ·cases h
    ·rename_i cs hc
     rw [hc] at hy
     simp only [Rep] at hy
     obtain ⟨bl,off,vs,he,hr,hat⟩:= hy
     split at h
     ·injection h with h
      subst h
      refine ⟨_,run _ he,?_⟩
      simp only [Rep,Addr.add_lit]
      exact ⟨bl,off + fd.offset,_,rfl,(hr.drop fd.offset).take i.size,hat.shift _ _⟩
     ·cases h
    ·rename_i c off hc
     rw [hc] at hy
     simp only [Rep] at hy
     obtain ⟨bl,hl,he⟩:= hy
     injection h with h
     subst h
     refine ⟨_,run _ he,?_⟩
     simp only [Rep,Addr.add_lit]
     exact ⟨bl,hl,rfl⟩
    ·cases h
   ·simp [aval] at h
  ·simp [aval] at h
 ·simp [aval] at h
theorem run_part {t : TypeId} {b : Bool} {i : TypeInfo} (hb : isAggB P t = some b) (hi : P.info? t = some i) {w : World} {vs : List Value} {off : Nat} {E : RE} {cs : List AV} (hr : RepL E cs vs) {x : AV}
  (hx : aval.ld b i.size (cs.drop off) = some x) : ∃ v,(part t vs.toArray off).run P w = .ok v w ∧ Rep E x v:= by
 unfold part
 have hr':= hr.drop off
 cases b with
 | true =>
  simp only [aval.ld] at hx
  split at hx
  ·rename_i hle
   injection hx with hx
   subst hx
   refine ⟨.agg ((vs.drop off).take i.size).toArray,?_,?_⟩
   ·simp [Sem.run_bind,run_isAgg hb,run_sizeOf hi,Sem.run]
   ·simp only [Rep]
    exact ⟨_,rfl,hr'.take _⟩
  ·cases hx
 | false =>
  simp only [aval.ld] at hx
  obtain ⟨v,hv,hrep⟩:= hr'.get 0 hx
  refine ⟨v,?_,hrep⟩
  rw [List.getElem?_drop] at hv
  simp only [Nat.add_zero] at hv
  simp [Sem.run_bind,run_isAgg hb,hv,Sem.run]
theorem val_fld (hI : Inv R N env a E) {o : Oper} {t : TypeId} {f : Nat} {y : Operand} (ho : o.op = .field t y f) {x : AV} (h : aval env (res P (.field t y f)) = some x) : ValOK P E a o x:= by
 simp only [res] at h
 split at h
 ·rename_i fs hfs
  split at h
  ·rename_i fd hf
   split at h
   ·rename_i i b hi hb
    have hy:= hI.ev y
    simp only [aval] at h
    split at h
    ·rename_i cs hc
     rw [hc] at hy
     simp only [Rep] at hy
     obtain ⟨vs,he,hr⟩:= hy
     obtain ⟨v,hv,hrep⟩:= run_part (P:= P) (w:= E.w) hb hi hr h
     refine ⟨v,?_,hrep⟩
     simp [execOp,ho,he,Instr.field,asAgg,Sem.run_bind,run_underlying_eq hfs,hf,hv,Sem.run]
    ·cases h
   ·simp [aval] at h
  ·simp [aval] at h
 ·simp [aval] at h
theorem flat_length {vs : List Value} {e : Nat} (h : ∀ u ∈ vs,u.cells.size = e) : (flat vs).length = vs.length * e:= by
 induction vs with
 | nil => simp [flat]
 | cons v vs ih =>
  have h1:= ih fun u hu => h u (by simp [hu])
  unfold flat at h1 ⊢
  rw [List.flatMap_cons,List.length_append,h1,List.length_cons,Nat.add_mul,Nat.one_mul]
  have:= h v (by simp)
  simp [this]
  omega
theorem flat_row {vs : List Value} {e : Nat} (h : ∀ u ∈ vs,u.cells.size = e) (n : Nat) (v : Value) (hv : vs[n]? = some v) : ((flat vs).drop (n * e)).take e = v.cells.toList:= by
 induction vs generalizing n with
 | nil => simp at hv
 | cons u vs ih =>
  have hu:= h u (by simp)
  have hfl : flat (u :: vs) = u.cells.toList ++ flat vs:= by simp [flat]
  rw [hfl]
  cases n with
  | zero =>
   simp at hv
   subst hv
   simp [← hu]
  | succ n =>
   have:= ih (fun z hz => h z (by simp [hz])) n (by simpa using hv)
   rw [List.drop_append]
   have he : (n + 1) * e = e + n * e:= by rw [Nat.add_mul]; omega
   rw [he,List.drop_of_length_le (by simp [hu]),List.nil_append]
   simp only [Array.length_toList,hu,Nat.add_sub_cancel_left]
   exact this
theorem at_row {w : World} {S : Nat → Nat → Prop} {vs : List Value} {e b o : Nat} (hat : At w S (flat vs) b o) (he : ∀ u ∈ vs,u.cells.size = e) {n : Nat} {v : Value} (hv : vs[n]? = some v) :
  At w S v.cells.toList b (o + n * e):= by
 rw [← flat_row he n v hv]
 exact hat.shift _ _
theorem row_or {x : AV} (h : x.row = true) : x.one = true ∨ ∃ cs,x = .agg cs:= by
 cases x <;> first | exact .inr ⟨_,rfl⟩ | exact .inl h
theorem val_iadra (hI : Inv R N env a E) {o : Oper} {t e : TypeId} {n : Nat} {i : TypeInfo} {y z : Operand} (ho : o.op = .indexAddr t y z) (ht : P.underlying t = some (.array n e)) (hi : P.info? e = some i) {x : AV} (h : aval env (.iadra n i.size y z) = some x) : ValOK P E a o x:= by
 have hy:= hI.ev y
 have hz:= hI.ev z
 simp only [aval] at h
 split at h
 case h_2 => cases h
 rename_i kk k hzv
 rw [hzv] at hz
 simp only [Rep] at hz
 split at h
 case isFalse => cases h
 rename_i hk
 have run : ∀ ad : Addr,a.eval y = .pointer (some ad) → (execOp a.eval o).run P E.w = .ok (.value (.pointer (some (ad.add (k.toNat * i.size))))) E.w:= by
  intro ad he
  simp [execOp,ho,he,hz,Instr.indexAt,Instr.sureAddr,asIntOf,Sem.run_bind,run_underlying_eq ht,hk.1,hk.2,run_sizeOf hi,Sem.run]
 split at h
 ·rename_i cs hc
  rw [hc] at hy
  simp only [Rep] at hy
  obtain ⟨bl,off,vs,he,hr,hat⟩:= hy
  split at h
  ·injection h with h
   subst h
   refine ⟨_,run _ he,?_⟩
   simp only [Rep,Addr.add_lit]
   exact ⟨bl,off + k.toNat * i.size,_,rfl,(hr.drop _).take _,hat.shift _ _⟩
  ·cases h
 ·rename_i cs hc
  rw [hc] at hy
  simp only [Rep] at hy
  obtain ⟨bl,off,vs,he,hr,hat⟩:= hy
  split at h
  ·injection h with h
   subst h
   refine ⟨_,run _ he,?_⟩
   simp only [Rep,Addr.add_lit]
   exact ⟨bl,off + k.toNat * i.size,_,rfl,(hr.drop _).take _,hat.shift _ _⟩
  ·cases h
 ·rename_i c off hc
  rw [hc] at hy
  simp only [Rep] at hy
  obtain ⟨bl,hl,he⟩:= hy
  injection h with h
  subst h
  refine ⟨_,run _ he,?_⟩
  simp only [Rep,Addr.add_lit]
  exact ⟨bl,hl,rfl⟩
 ·cases h
theorem val_idxa (hI : Inv R N env a E) {o : Oper} {t e : TypeId} {n : Nat} {i : TypeInfo} {b : Bool} {y z : Operand} (ho : o.op = .index t y z) (ht : P.underlying t = some (.array n e)) (hi : P.info? e = some i) (hb : isAggB P e = some b) {x : AV} (h : aval env (.idxa b n i.size y z) = some x) : ValOK P E a o x:= by
 have hy:= hI.ev y
 have hz:= hI.ev z
 simp only [aval] at h
 split at h
 case h_2 => cases h
 rename_i kk k hzv
 rw [hzv] at hz
 simp only [Rep] at hz
 split at h
 case isFalse => cases h
 rename_i hk
 split at h
 case h_2 => cases h
 rename_i cs hc
 rw [hc] at hy
 simp only [Rep] at hy
 obtain ⟨vs,he,hr⟩:= hy
 obtain ⟨v,hv,hrep⟩:= run_part (P:= P) (w:= E.w) hb hi hr h
 refine ⟨v,?_,hrep⟩
 simp [execOp,ho,he,hz,Instr.index,asIntOf,Sem.run_bind,run_underlying_eq ht,hk.1,hk.2,run_sizeOf hi,hv,Sem.run]
theorem val_iaddr (hI : Inv R N env a E) {o : Oper} {t : TypeId} {y z : Operand} (ho : o.op = .indexAddr t y z) {x : AV} (h : aval env (res P (.indexAddr t y z)) = some x) : ValOK P E a o x:= by
 simp only [res] at h
 split at h
 ·rename_i e ht
  split at h
  ·rename_i i hi
   have hy:= hI.ev y
   have hz:= hI.ev z
   simp only [aval] at h
   split at h
   ·rename_i tk es rows k n h1 h2
    rw [h1] at hy
    rw [h2] at hz
    simp only [Rep] at hy hz
    obtain ⟨A,cap,vs,he,hcap,hr,hes,hone,htk⟩:= hy
    split at h
    ·rename_i h0
     split at h
     ·rename_i r hrow
      split at h
      case isFalse => cases h
      rename_i huq
      split at h
      ·rename_i hrw
       split at h
       ·rename_i hesz'
        injection h with h
        have hlt : n.toNat < rows.length:= (List.getElem?_eq_some_iff.1 hrow).1
        have hne : rows ≠ []:= fun e => by rw [e] at hlt; simp at hlt
        obtain ⟨v,hv,hrep⟩:= hr.get n.toNat hrow
        have hsz : v.cells.size = es:= hes v (List.mem_of_getElem? hv)
        have hcl : RepL E.closed (cellsOf r) v.cells.toList:= rep_cells hrep (row_or hrw)
        have hesz : i.size = es:= hesz'.symm
        have run : ∀ b o',A = some ⟨b,o',none⟩ → (execOp a.eval o).run P E.w = .ok (.value (.pointer (some ⟨b,o' + n.toNat * es,none⟩))) E.w:= by
         intro b o' hA
         have hn : n < (rows.length : Int):= by omega
         simp [execOp,ho,he,hz,hA,Instr.indexAt,asIntOf,Sem.run_bind,run_underlying_eq ht,h0,hn,run_sizeOf hi,hesz,Sem.run,Addr.add_lit]
        subst h
        cases tk with
        | none =>
         obtain ⟨b,o',hA,hat⟩:= htk hne
         refine ⟨_,run b o' hA,?_⟩
         simp only [Rep]
         exact ⟨b,o' + n.toNat * es,_,rfl,hcl,at_row hat hes hv⟩
        | bor =>
         obtain ⟨b,o',hA,hat⟩:= htk hne
         refine ⟨_,run b o' hA,?_⟩
         simp only [Rep]
         exact ⟨b,o' + n.toNat * es,_,rfl,hcl.mono (Ext.closed_bor E),at_row hat hes hv⟩
        | nil =>
         obtain ⟨hA,hc0⟩:= htk
         omega
        | own τ =>
         rcases htk with ⟨hA,hc0⟩ | ⟨g,cur,ty,hA,hat,_⟩
         ·omega
         refine ⟨_,run g 0 hA,?_⟩
         simp only [Rep]
         exact ⟨g,0 + n.toNat * es,_,rfl,hcl,at_row hat hes hv⟩
        | fr τ => simp [frB] at huq
        | gone => simp [frB] at huq
       ·cases h
      ·cases h
     ·cases h
    ·cases h
   ·rename_i c off len cap g es k n h1 h2
    rw [h1] at hy
    rw [h2] at hz
    simp only [Rep] at hy hz
    obtain ⟨b,hb,he⟩:= hy
    split at h
    ·rename_i hn
     split at h
     ·rename_i hes
      injection h with h
      subst h
      refine ⟨.pointer (some ⟨b,off + n.toNat * es,none⟩),?_,by simp only [Rep]; exact ⟨b,hb,rfl⟩⟩
      simp [execOp,ho,he,hz,Instr.indexAt,asIntOf,Sem.run_bind,run_underlying_eq ht,hn.1,hn.2,run_sizeOf hi,hes.symm,Sem.run,Addr.add_lit]
     ·cases h
    ·cases h
   ·cases h
  ·simp [aval] at h
 ·rename_i n e ht
  split at h
  ·rename_i i hi
   exact val_iadra hI ho ht hi h
  ·simp [aval] at h
 ·simp [aval] at h
theorem val_idxs (hI : Inv R N env a E) {o : Oper} {t : TypeId} {y z : Operand} (ho : o.op = .index t y z) (ht : P.underlying t = some .string) {x : AV} (h : aval env (.idxs y z) = some x) : ValOK P E a o x:= by
 have hy:= hI.ev y
 have hz:= hI.ev z
 simp only [aval] at h
 split at h
 ·rename_i s k n h1 h2
  rw [h1] at hy
  rw [h2] at hz
  simp only [Rep] at hy hz
  split at h
  ·rename_i h0
   split at h
   ·rename_i b hb
    injection h with h
    subst h
    refine ⟨.int .u8 b.toNat,?_,by simp only [Rep]⟩
    simp [execOp,ho,hy,hz,Instr.index,asIntOf,Sem.run_bind,run_underlying_eq ht,h0,hb,Sem.run]
   ·cases h
  ·cases h
 ·cases h
theorem litOf_rep : ∀ {xs : List AV} {vs ws : List Value},xs.mapM aval.litOf = some ws → RepL E xs vs → vs = ws
 | [],vs,ws,h,hr => by
  simp at h
  simp only [RepL] at hr
  rw [hr,h]
 | x :: xs,vs,ws,h,hr => by
  rw [List.mapM_cons] at h
  simp only [RepL] at hr
  obtain ⟨v,us,rfl,h1,h2⟩:= hr
  cases hx : aval.litOf x with
  | none => simp [hx] at h
  | some u =>
   cases hxs : xs.mapM aval.litOf with
   | none => simp [hx,hxs] at h
   | some us' =>
    simp [hx,hxs] at h
    subst h
    cases x <;> simp only [aval.litOf] at hx <;> first | (cases hx; done) | skip
    injection hx with hx
    subst hx
    simp only [Rep] at h1
    subst h1
    rw [litOf_rep hxs h2]
theorem val_mnmx (hI : Inv R N env a E) {o : Oper} {c : Call} {mx : Bool} (ho : o.op = .call c) (hc : c.callee = .builtin (if mx then .max else .min)) {x : AV} (h : aval env (.mnmx mx c.args.toList) = some x) : ValOK P E a o x:= by
 simp only [aval] at h
 split at h
 ·rename_i vs hvs
  split at h
  ·rename_i r hr
   injection h with h
   subst h
   have:= litOf_rep hvs (hI.evs c.args.toList)
   have harr : c.args.map a.eval = vs.toArray:= by rw [← this]; simp [← Array.toList_map]
   refine ⟨r,?_,by simp only [Rep]⟩
   cases mx
   ·simp only [Bool.false_eq_true,if_false] at hc hr
    have hr' : p0 (Builtin.min_ c.argTypes o.type vs.toArray) = some r:= hr
    simp [execOp,ho,hc,harr,resolve,invoke,builtin,Sem.run_bind,p0_run hr',Sem.run]
   ·simp only [if_true] at hc hr
    have hr' : p0 (Builtin.max_ c.argTypes o.type vs.toArray) = some r:= hr
    simp [execOp,ho,hc,harr,resolve,invoke,builtin,Sem.run_bind,p0_run hr',Sem.run]
  ·cases h
 ·cases h
end
end Go.Proofs.YtnndbbmidoidpaaGreatDoor.VL
end

section
namespace Go.Proofs.YtnndbbmidoidpaaGreatDoor.VL
open Go.RowKit
section
variable {P : Program} {R : RE} {N : Nat} {env : Env} {a : Act} {E : RE}
theorem bnd_val (hI : Inv R N env a E) {d : Nat} {x : Option Operand} {l : Int} (h : aval.bnd env d x = some l) :
  (x = none ∧ l = d) ∨ ∃ y k,x = some y ∧ a.eval y = .int k l:= by
 cases x with
 | none => left; simp [aval.bnd] at h; exact ⟨rfl,h.symm⟩
 | some y =>
  right
  have hy:= hI.ev y
  simp only [aval.bnd,intOfA] at h
  split at h
  ·rename_i k n h1
   rw [h1] at hy
   simp only [Rep] at hy
   injection h with h
   subst h
   exact ⟨y,k,rfl,hy⟩
  ·cases h
theorem run_sliceBounds {isS : Bool} {len cap : Nat} {lo hi : Option Value} {l h : Int} (hl : (lo = none ∧ l = 0) ∨ ∃ k,lo = some (.int k l)) (hh : (hi = none ∧ h = len) ∨ ∃ k,hi = some (.int k h))
  (h0 : 0 ≤ l) (h1 : l ≤ h) (h2 : h ≤ len) (h3 : len ≤ cap) (w : World) : (Instr.sliceBounds isS len cap lo hi none).run P w = .ok (l.toNat,h.toNat,cap) w:= by
 have hc : h ≤ (cap : Int):= by omega
 have hb1 : 0 ≤ h:= by omega
 have hb2 : l ≤ (h.toNat : Int):= by omega
 rcases hl with ⟨rfl,rfl⟩ | ⟨k,rfl⟩ <;> rcases hh with ⟨rfl,rfl⟩ | ⟨k',rfl⟩ <;>
  simp [Instr.sliceBounds,Instr.sliceBound,asIntOf,Sem.run_bind,Sem.run,hc,hb1,h0,hb2,h1] <;> omega
theorem val_slc_str (hI : Inv R N env a E) {o : Oper} {t : TypeId} {y : Operand} {lo hi : Option Operand} (ho : o.op = .slice t y lo hi none) (ht : P.underlying t = some .string) {s : ByteArray} (hs : env.ev y = .lit (.string s))
  {x : AV} (h : aval env (.slcs y lo hi) = some x) : ValOK P E a o x:= by
 have hy:= hI.ev y
 simp only [aval,hs] at h
 rw [hs] at hy
 simp only [Rep] at hy
 split at h
 ·rename_i l hh hl hhh
  split at h
  ·rename_i hcond
   obtain ⟨c0,c1,c2⟩:= hcond
   injection h with h
   subst h
   refine ⟨.string (s.extract l.toNat hh.toNat),?_,by simp only [Rep]⟩
   have b1 : (lo.map a.eval = none ∧ l = 0) ∨ ∃ k,lo.map a.eval = some (.int k l):= by
    rcases bnd_val hI hl with ⟨rfl,h⟩ | ⟨y,k,rfl,h⟩
    ·exact .inl ⟨rfl,by simpa using h⟩
    ·exact .inr ⟨k,by simp [h]⟩
   have b2 : (hi.map a.eval = none ∧ hh = (s.size : Int)) ∨ ∃ k,hi.map a.eval = some (.int k hh):= by
    rcases bnd_val hI hhh with ⟨rfl,h⟩ | ⟨y,k,rfl,h⟩
    ·exact .inl ⟨rfl,by simpa using h⟩
    ·exact .inr ⟨k,by simp [h]⟩
   simp [execOp,ho,hy,Instr.sliceAt,Instr.slice,Sem.run_bind,run_underlying_eq ht,run_sliceBounds b1 b2 c0 c1 c2 (Nat.le_refl _),Sem.run]
  ·cases h
 ·cases h
theorem flat_take {vs : List Value} {e : Nat} (h : ∀ u ∈ vs,u.cells.size = e) (n : Nat) : flat (vs.take n) = (flat vs).take (n * e):= by
 induction vs generalizing n with
 | nil => simp [flat]
 | cons u vs ih =>
  cases n with
  | zero => simp [flat]
  | succ n =>
   have hfl : flat (u :: vs) = u.cells.toList ++ flat vs:= by simp [flat]
   have hfl' : flat (u :: vs.take n) = u.cells.toList ++ flat (vs.take n):= by simp [flat]
   rw [List.take_succ_cons,hfl,hfl',ih (fun z hz => h z (by simp [hz]))]
   have he : (n + 1) * e = e + n * e:= by rw [Nat.add_mul]; omega
   have hu : u.cells.toList.length = e:= by simp [h u (by simp)]
   rw [he,← hu,List.take_length_add_append]
theorem flat_drop {vs : List Value} {e : Nat} (h : ∀ u ∈ vs,u.cells.size = e) (n : Nat) : flat (vs.drop n) = (flat vs).drop (n * e):= by
 induction vs generalizing n with
 | nil => simp [flat]
 | cons u vs ih =>
  cases n with
  | zero => simp
  | succ n =>
   have hfl : flat (u :: vs) = u.cells.toList ++ flat vs:= by simp [flat]
   rw [List.drop_succ_cons,hfl,ih (fun z hz => h z (by simp [hz]))]
   have he : (n + 1) * e = e + n * e:= by rw [Nat.add_mul]; omega
   have hu : u.cells.toList.length = e:= by simp [h u (by simp)]
   rw [he,← hu,List.drop_length_add_append]
theorem val_slc (hI : Inv R N env a E) {o : Oper} {t e : TypeId} {i : TypeInfo} {y : Operand} {lo hi : Option Operand} (ho : o.op = .slice t y lo hi none) (ht : P.underlying t = some (.slice e)) (hi' : P.info? e = some i)
  {tk : Tok} {es : Nat} {rows : List AV} (hs : env.ev y = .sl tk es rows) {x : AV} (h : aval env (.slc i.size y lo hi) = some x) : ValOK P E a o x:= by
 have hy:= hI.ev y
 simp only [aval,hs] at h
 rw [hs] at hy
 simp only [Rep] at hy
 obtain ⟨A,cap,vs,he,hcap,hr,hes,hone,htk⟩:= hy
 split at h
 ·rename_i l hh hl hhh
  split at h
  case isFalse => cases h
  rename_i huq
  split at h
  case isFalse => cases h
  rename_i hesz
  subst hesz
  split at h
  ·rename_i hcond
   obtain ⟨c0,c1,c2⟩:= hcond
   injection h with h
   subst h
   have b1 : (lo.map a.eval = none ∧ l = 0) ∨ ∃ k,lo.map a.eval = some (.int k l):= by
    rcases bnd_val hI hl with ⟨rfl,h⟩ | ⟨y,k,rfl,h⟩
    ·exact .inl ⟨rfl,by simpa using h⟩
    ·exact .inr ⟨k,by simp [h]⟩
   have b2 : (hi.map a.eval = none ∧ hh = (rows.length : Int)) ∨ ∃ k,hi.map a.eval = some (.int k hh):= by
    rcases bnd_val hI hhh with ⟨rfl,h⟩ | ⟨y,k,rfl,h⟩
    ·exact .inl ⟨rfl,by simpa using h⟩
    ·exact .inr ⟨k,by simp [h]⟩
   have run : (execOp a.eval o).run P E.w = .ok (.value (.slice (if cap = l.toNat then A else A.map (·.add (l.toNat * i.size))) (hh.toNat - l.toNat) (cap - l.toNat))) E.w:= by
    simp [execOp,ho,he,Instr.sliceAt,Instr.slice,Sem.run_bind,run_underlying_eq ht,run_sliceBounds b1 b2 c0 c1 c2 hcap,run_sizeOf hi',Sem.run]
   have hvl:= hr.length
   have hlen : ((rows.take hh.toNat).drop l.toNat).length = hh.toNat - l.toNat:= by simp; omega
   refine ⟨_,run,?_⟩
   simp only [Rep]
   refine ⟨_,cap - l.toNat,(vs.take hh.toNat).drop l.toNat,by rw [hlen],by omega,(hr.take _).drop _,fun u hu => hes u (List.mem_of_mem_take (List.mem_of_mem_drop hu)),
    fun u hu => hone u ?_,?_⟩
   ·unfold flat at hu ⊢
    obtain ⟨v,hv,hv'⟩:= List.mem_flatMap.1 hu
    exact List.mem_flatMap.2 ⟨v,List.mem_of_mem_take (List.mem_of_mem_drop hv),hv'⟩
   ·have hfl : flat ((vs.take hh.toNat).drop l.toNat) = ((flat vs).drop (l.toNat * i.size)).take ((hh.toNat - l.toNat) * i.size):= by
     rw [flat_drop (fun u hu => hes u (List.mem_of_mem_take hu)),flat_take hes,List.drop_take,Nat.sub_mul]
    have hcl : (rows.take hh.toNat).drop l.toNat ≠ [] → cap ≠ l.toNat:= by
     intro hne hc
     apply hne
     apply List.eq_nil_of_length_eq_zero
     omega
    cases tk with
    | none =>
     intro hne
     obtain ⟨b,o',hA,hat⟩:= htk (fun e => hne (by rw [e]; simp))
     rw [if_neg (hcl hne),hA]
     refine ⟨b,o' + l.toNat * i.size,by simp [Addr.add_lit],?_⟩
     rw [hfl]
     exact hat.shift _ _
    | bor =>
     intro hne
     obtain ⟨b,o',hA,hat⟩:= htk (fun e => hne (by rw [e]; simp))
     rw [if_neg (hcl hne),hA]
     refine ⟨b,o' + l.toNat * i.size,by simp [Addr.add_lit],?_⟩
     rw [hfl]
     exact hat.shift _ _
    | nil =>
     intro hne
     obtain ⟨hA,hc0⟩:= htk
     exact absurd (hcl hne) (by omega)
    | own τ =>
     intro hne
     rcases htk with ⟨hA,hc0⟩ | ⟨g,cur,ty,hA,hat,_⟩
     ·exact absurd (hcl hne) (by omega)
     rw [if_neg (hcl hne),hA]
     refine ⟨g,0 + l.toNat * i.size,by simp [Addr.add_lit],?_⟩
     rw [hfl]
     exact hat.shift _ _
    | fr τ => simp [frB] at huq
    | gone => simp [frB] at huq
  ·cases h
 ·cases h
theorem val_slc_ml (hI : Inv R N env a E) {o : Oper} {t e : TypeId} {i : TypeInfo} {y : Operand} {lo hi : Option Operand} (ho : o.op = .slice t y lo hi none) (ht : P.underlying t = some (.slice e)) (hi' : P.info? e = some i)
  {c off n cap es : Nat} {g : Bool} (hs : env.ev y = .ml c off n cap g es) {x : AV} (h : aval env (.slc i.size y lo hi) = some x) : ValOK P E a o x:= by
 have hy:= hI.ev y
 simp only [aval,hs] at h
 rw [hs] at hy
 simp only [Rep] at hy
 obtain ⟨b,hb,he⟩:= hy
 split at h
 ·rename_i l hh hl hhh
  split at h
  case isFalse => cases h
  rename_i hesz
  subst hesz
  split at h
  ·rename_i hcond
   obtain ⟨c0,c1,c2,c3,hnc⟩:= hcond
   injection h with h
   subst h
   have b1 : (lo.map a.eval = none ∧ l = 0) ∨ ∃ k,lo.map a.eval = some (.int k l):= by
    rcases bnd_val hI hl with ⟨rfl,h⟩ | ⟨y,k,rfl,h⟩
    ·exact .inl ⟨rfl,by simpa using h⟩
    ·exact .inr ⟨k,by simp [h]⟩
   have b2 : (hi.map a.eval = none ∧ hh = (n : Int)) ∨ ∃ k,hi.map a.eval = some (.int k hh):= by
    rcases bnd_val hI hhh with ⟨rfl,h⟩ | ⟨y,k,rfl,h⟩
    ·exact .inl ⟨rfl,by simpa using h⟩
    ·exact .inr ⟨k,by simp [h]⟩
   have run : (execOp a.eval o).run P E.w = .ok (.value (.slice (if cap = l.toNat then some ⟨b,off,none⟩ else (some (⟨b,off,none⟩ : Addr)).map (·.add (l.toNat * i.size))) (hh.toNat - l.toNat) (cap - l.toNat))) E.w:= by
    simp [execOp,ho,he,Instr.sliceAt,Instr.slice,Sem.run_bind,run_underlying_eq ht,run_sliceBounds b1 b2 c0 c1 c2 hnc,run_sizeOf hi',Sem.run]
   refine ⟨_,run,?_⟩
   simp only [Rep]
   refine ⟨b,hb,?_⟩
   by_cases hcl : cap = l.toNat
   ·have hl0 : l = 0:= by rcases c3 with h | h <;> omega
    subst hl0
    simp [hcl]
   ·rw [if_neg hcl]
    simp [Addr.add_lit]
  ·cases h
 ·cases h
theorem setZip_eq (cs : Array Value) (off : Nat) : ∀ (us : List Value) (k : Nat) (cells : Array Value),off + k + us.length ≤ cells.size →
  ((us.zipIdx k).foldl (fun cs (x : Value × Nat) => cs.setIfInBounds (off + x.2) x.1) cells).toList = cells.toList.take (off + k) ++ us ++ cells.toList.drop (off + k + us.length)
 | [],k,cells,h => by simp
 | u :: us,k,cells,h => by
  simp only [List.zipIdx_cons,List.foldl_cons]
  simp only [List.length_cons] at h
  rw [setZip_eq cs off us (k + 1) _ (by simp; omega)]
  simp only [Array.toList_setIfInBounds,List.length_cons]
  have e1 : off + (k + 1) = off + k + 1:= by omega
  have e2 : off + (k + 1) + us.length = off + k + (us.length + 1):= by omega
  rw [e2,e1]
  have hlt : off + k < cells.toList.length:= by simp; omega
  rw [List.take_succ_eq_append_getElem (by simpa using hlt),List.take_set_of_le (by omega),List.getElem_set_self,List.drop_set_of_lt (by omega)]
  simp
theorem fill_rep {E : RE} (place : Nat → Option (Nat × Nat)) : ∀ (ps : List (Nat × Value)) (ls : List (Nat × Nat × AV)) (cells : List AV) (vals : Array Value) (out : List AV),
  ps.length = ls.length → (∀ (j : Nat) (p : Nat × Value) (l : Nat × Nat × AV),ps[j]? = some p → ls[j]? = some l → place p.1 = some (l.1,l.2.1) ∧ Rep E l.2.2 p.2) →
  RepL E cells vals.toList → fillA cells ls = some out → ∃ vs : Array Value,Instr.fill place vals ps = some vs ∧ RepL E out vs.toList
 | [],[],cells,vals,out,_,_,hr,h => by
  simp only [fillA] at h
  injection h with h
  subst h
  exact ⟨vals,rfl,hr⟩
 | [],_ :: _,_,_,_,hl,_,_,_ => by simp at hl
 | _ :: _,[],_,_,_,hl,_,_,_ => by simp at hl
 | (i,v) :: ps,(off,size,x) :: ls,cells,vals,out,hl,hp,hr,h => by
  obtain ⟨hpl,hx⟩:= hp 0 _ _ rfl rfl
  simp only at hpl hx
  simp only [fillA] at h
  split at h
  case isFalse => cases h
  rename_i hrow
  split at h
  ·rename_i hsz
   split at h
   ·rename_i hle
    have hc:= rep_cells hx (row_or hrow)
    have hcl:= hc.length
    rw [Array.length_toList] at hcl
    have hrl:= hr.length
    rw [Array.length_toList] at hrl
    have hv : v.cells.size = size:= by omega
    simp only [Instr.fill,hpl]
    rw [if_neg (by simp; omega)]
    refine fill_rep place ps ls _ _ out (by simpa using hl) (fun j p l h1 h2 => hp (j + 1) p l h1 h2) ?_ h
    have:= setZip_eq vals off v.cells.toList 0 vals (by simp; omega)
    simp only [Nat.add_zero,Array.length_toList] at this
    rw [← Array.foldl_toList,Array.toList_zipIdx,this,hv]
    exact ((hr.take off).append hc).append (hr.drop (off + size))
   ·cases h
  ·cases h
theorem mapM_get {α β : Type} {f : α → Option β} : ∀ {l : List α} {r : List β},l.mapM f = some r → r.length = l.length ∧ ∀ (j : Nat) x y,l[j]? = some x → r[j]? = some y → f x = some y
 | [],r,h => by
  simp at h
  subst h
  simp
 | x :: l,r,h => by
  rw [List.mapM_cons] at h
  cases hx : f x with
  | none => simp [hx] at h
  | some u =>
   cases hl : l.mapM f with
   | none => simp [hx,hl] at h
   | some us =>
    simp [hx,hl] at h
    subst h
    obtain ⟨h1,h2⟩:= mapM_get hl
    refine ⟨by simp [h1],fun j y z hy hz => ?_⟩
    cases j with
    | zero => simp at hy hz; subst hy hz; exact hx
    | succ j => exact h2 j y z (by simpa using hy) (by simpa using hz)
theorem run_mapM_places {fs : List Field} (h : ∀ f ∈ fs,(P.info? f.type).isSome = true) (w : World) :
  (fs.mapM fun f => Prod.mk f.offset <$> sizeOf f.type).run P w = .ok (fs.map fun f => (f.offset,P.cellsOf f.type)) w:= by
 induction fs with
 | nil => simp [Sem.run]
 | cons f fs ih =>
  obtain ⟨i,hi⟩:= Option.isSome_iff_exists.1 (h f (by simp))
  rw [List.mapM_cons]
  have ih':= ih fun g hg => h g (by simp [hg])
  simp [Sem.run_bind,run_sizeOf hi,ih',Program.cellsOf,hi,Sem.run]
theorem val_build (hI : Inv R N env a E) {o : Oper} {t : TypeId} {parts : Array (Nat × Operand)} (ho : o.op = .build t parts) {x : AV} (h : aval env (res P (.build t parts)) = some x) : ValOK P E a o x:= by
 simp only [res] at h
 split at h
 ·rename_i fs z hfs hz
  split at h
  ·rename_i l hl
   split at h
   case isFalse => simp [aval] at h
   rename_i hall
   obtain ⟨inf,hinf,hz'⟩:= Option.bind_eq_some_iff.1 hz
   simp only [aval] at h
   split at h
   case h_2 => cases h
   rename_i cs hcs
   injection h with h
   subst h
   obtain ⟨hlen,hget⟩:= mapM_get hl
   have hplaces : (fs.mapM fun f => Prod.mk f.offset <$> sizeOf f.type).run P E.w = .ok (fs.map fun f => (f.offset,P.cellsOf f.type)) E.w:= by
    rw [Array.mapM_eq_mapM_toList]
    simp [Sem.run_bind,run_mapM_places (P:= P) (fs:= fs.toList) (fun f hf => by simpa using (List.all_eq_true.1 hall) f hf) E.w,Sem.run,← Array.toList_map]
   obtain ⟨vs,hf,hr⟩:= fill_rep (E:= E) (fun x => Option.map (fun f => (f.offset,P.cellsOf f.type)) fs[x]?) (parts.toList.map fun p => (p.1,a.eval p.2)) (l.map fun p => (p.1,p.2.1,env.ev p.2.2)) _ z.cells cs (by simp [hlen]) (fun j p q hp hq => by
    simp only [List.getElem?_map,Option.map_eq_some_iff] at hp hq
    obtain ⟨p',hp',rfl⟩:= hp
    obtain ⟨q',hq',rfl⟩:= hq
    have:= hget j p' q' hp' hq'
    obtain ⟨f,hf,hq2⟩:= Option.bind_eq_some_iff.1 this
    obtain ⟨i,hi,rfl⟩:= Option.map_eq_some_iff.1 hq2
    exact ⟨by simp [hf,Program.cellsOf,hi],hI.ev _⟩) (repL_ofVal1 E z.cells.toList) hcs
   refine ⟨.agg vs,?_,?_⟩
   ·have hzero : (zeroValue t).run P E.w = .ok z E.w:= by simp [zeroValue,typeInfo,program,Sem.run,hinf,hz',Bind.bind,Sem.bind,Pure.pure]
    have hparts : (parts.map fun (i,x) => (i,a.eval x)).toList = parts.toList.map fun p => (p.1,a.eval p.2):= by simp
    simp [execOp,ho,Instr.build,Sem.run_bind,hzero,run_underlying_eq hfs,hplaces,hf,Sem.run]
   ·simp only [Rep]
    exact ⟨vs.toList,by simp,hr⟩
  ·simp [aval] at h
 ·rename_i n e z hfs hz
  split at h
  ·rename_i i hi
   obtain ⟨inf,hinf,hz'⟩:= Option.bind_eq_some_iff.1 hz
   simp only [aval] at h
   split at h
   case h_2 => cases h
   rename_i cs hcs
   injection h with h
   subst h
   obtain ⟨vs,hf,hr⟩:= fill_rep (E:= E) (fun k => some (k * i.size,i.size)) (parts.toList.map fun p => (p.1,a.eval p.2)) ((parts.toList.map fun p => (p.1 * i.size,i.size,p.2)).map fun p => (p.1,p.2.1,env.ev p.2.2)) _ z.cells cs (by simp) (fun j p q hp hq => by
    simp only [List.getElem?_map,Option.map_eq_some_iff,List.map_map] at hp hq
    obtain ⟨p',hp',rfl⟩:= hp
    obtain ⟨q',hq',rfl⟩:= hq
    rw [hp'] at hq'
    injection hq' with hq'
    subst hq'
    exact ⟨rfl,hI.ev _⟩) (repL_ofVal1 E z.cells.toList) hcs
   refine ⟨.agg vs,?_,?_⟩
   ·have hzero : (zeroValue t).run P E.w = .ok z E.w:= by simp [zeroValue,typeInfo,program,Sem.run,hinf,hz',Bind.bind,Sem.bind,Pure.pure]
    have hparts : (parts.map fun (i,x) => (i,a.eval x)).toList = parts.toList.map fun p => (p.1,a.eval p.2):= by simp
    simp [execOp,ho,Instr.build,Sem.run_bind,hzero,run_underlying_eq hfs,run_sizeOf hi,hf,Sem.run]
   ·simp only [Rep]
    exact ⟨vs.toList,by simp,hr⟩
  ·simp [aval] at h
 ·simp [aval] at h
theorem run_equal_nil_iface {t : TypeId} {ms : Array (String × TypeId)} (h : P.underlying t = some (.interface ms)) (v : Value) (hv : v = .nilIface ∨ ∃ t u,v = .iface t u) (w : World) :
  (Op.equal t v .nilIface).run P w = .ok (match v with | .nilIface => true | _ => false) w:= by
 unfold Op.equal Op.maxDepth Op.equalIn
 rcases hv with rfl | ⟨t',u,rfl⟩ <;> simp [underlying,program,Sem.run,h,Bind.bind,Sem.bind,Pure.pure]
theorem val_eqn (hI : Inv R N env a E) {o : Oper} {op : BinOp} {neg : Bool} {t t' : TypeId} {ms : Array (String × TypeId)} {y : Operand} (ho : o.op = .binOp op t y (.const .nilIface) t') (hop : op = if neg then .neq else .eql)
  (ht : P.underlying t = some (.interface ms)) {x : AV} (h : aval env (.eqn neg y) = some x) : ValOK P E a o x:= by
 simp only [aval] at h
 have hy:= hI.ev y
 have hev : a.eval (.const .nilIface) = .nilIface:= rfl
 subst hop
 have fin : ∀ b : Bool,(a.eval y = .nilIface ∧ b = true) ∨ (∃ t u,a.eval y = .iface t u) ∧ b = false → x = .lit (.bool (if neg then !b else b)) → ValOK P E a o x:= by
  rintro b hb rfl
  refine ⟨.bool (if neg then !b else b),?_,by simp only [Rep]⟩
  rcases hb with ⟨he,rfl⟩ | ⟨⟨t1,u,he⟩,rfl⟩
  ·have hq:= run_equal_nil_iface ht .nilIface (.inl rfl) E.w
   cases neg <;> simp [execOp,ho,hev,he,eqGuard_nil_constR,Sem.run_bind,binOp,hq,Sem.run]
  ·have hq:= run_equal_nil_iface ht (.iface t1 u) (.inr ⟨_,_,rfl⟩) E.w
   cases neg <;> simp [execOp,ho,hev,he,eqGuard_at_iface,Sem.run_bind,binOp,hq,Sem.run]
 split at h
 ·rename_i h1
  rw [h1] at hy
  simp only [Rep] at hy
  injection h with h
  exact fin true (.inl ⟨hy,rfl⟩) (by rw [← h]; cases neg <;> rfl)
 ·rename_i h1
  rw [h1] at hy
  simp only [Rep] at hy
  obtain ⟨u,hy,_⟩:= hy
  injection h with h
  exact fin false (.inr ⟨⟨_,_,hy⟩,rfl⟩) (by rw [← h]; cases neg <;> rfl)
 ·rename_i h1
  rw [h1] at hy
  simp only [Rep] at hy
  injection h with h
  exact fin false (.inr ⟨⟨_,_,hy.2⟩,rfl⟩) (by rw [← h]; cases neg <;> rfl)
 ·cases h
theorem run_equal_nil_ptr {t e : TypeId} (h : P.underlying t = some (.pointer e)) (p : Option Addr) (w : World) :
  (Op.equal t (.pointer p) (.pointer none)).run P w = .ok p.isNone w:= by
 unfold Op.equal Op.maxDepth Op.equalIn
 cases p <;> simp [underlying,program,Sem.run,h,Bind.bind,Sem.bind,Pure.pure]
theorem val_eqp (hI : Inv R N env a E) {o : Oper} {op : BinOp} {neg : Bool} {t t' e : TypeId} {y : Operand} (ho : o.op = .binOp op t y (.const (.pointer none)) t') (hop : op = if neg then .neq else .eql)
  (ht : P.underlying t = some (.pointer e)) {x : AV} (h : aval env (.eqp neg y) = some x) : ValOK P E a o x:= by
 simp only [aval] at h
 have hy:= hI.ev y
 have hev : a.eval (.const (.pointer none)) = .pointer none:= rfl
 subst hop
 have fin : ∀ p,a.eval y = .pointer p → x = .lit (.bool (if neg then !p.isNone else p.isNone)) → ValOK P E a o x:= by
  rintro p he rfl
  refine ⟨.bool (if neg then !p.isNone else p.isNone),?_,by simp only [Rep]⟩
  have hq:= run_equal_nil_ptr ht p E.w
  cases neg <;> simp [execOp,ho,hev,he,eqGuard_at_pointer,Sem.run_bind,binOp,hq,Sem.run]
 split at h
 ·rename_i h1
  rw [h1] at hy
  simp only [Rep] at hy
  injection h with h
  exact fin none hy (by rw [← h]; cases neg <;> rfl)
 ·rename_i h1
  rw [h1] at hy
  simp only [Rep] at hy
  obtain ⟨b,o',vs,hy,_⟩:= hy
  injection h with h
  exact fin _ hy (by rw [← h]; cases neg <;> rfl)
 ·rename_i h1
  rw [h1] at hy
  simp only [Rep] at hy
  obtain ⟨b,o',vs,hy,_⟩:= hy
  injection h with h
  exact fin _ hy (by rw [← h]; cases neg <;> rfl)
 ·rename_i h1
  rw [h1] at hy
  simp only [Rep] at hy
  obtain ⟨b,_,hy⟩:= hy
  injection h with h
  exact fin _ hy (by rw [← h]; cases neg <;> rfl)
 ·cases h
end
end Go.Proofs.YtnndbbmidoidpaaGreatDoor.VL
end

