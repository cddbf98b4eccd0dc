/- The value logic, part 2: environments, resolved operations, what they yield. -/
import Derived.Test.YtmjmfollimaleaaVL1
import GoSem.Dispatch
set_option linter.unusedVariables false
set_option linter.unusedSimpArgs false
namespace Go.Proofs.Ytmjmfollimaleaa.VL
open Go.RowKit

structure Env where
  s : Nat → AV
  c : Nat → Option (List AV)

def upd {α : Type} (f : Nat → α) (k : Nat) (x : α) : Nat → α := fun j => if j = k then x else f j
def Env.put (E : Env) (k : Nat) (x : AV) : Env := { E with s := upd E.s k x }
def Env.putc (E : Env) (k : Nat) (x : List AV) : Env := { E with c := upd E.c k (some x) }

/-- Environments are written as lists of what is there. -/
def getA (l : List (Nat × AV)) (k : Nat) : AV :=
  match l with
  | [] => .dead
  | (j, x) :: r => if k = j then x else getA r k
def getC (l : List (Nat × List AV)) (k : Nat) : Option (List AV) :=
  match l with
  | [] => none
  | (j, x) :: r => if k = j then some x else getC r k
def putA {α : Type} (l : List (Nat × α)) (k : Nat) (x : α) : List (Nat × α) :=
  match l with
  | [] => [(k, x)]
  | (j, y) :: r => if k < j then (k, x) :: (j, y) :: r else if k = j then (k, x) :: r else (j, y) :: putA r k x

def ofVal1 : Value → AV
  | .slice none 0 0 => .sl .nil 0 []
  | v => .lit v
def ofVal : Value → AV
  | .slice none 0 0 => .sl .nil 0 []
  | .agg cs => .agg (cs.toList.map ofVal1)
  | v => .lit v

def Env.ev (E : Env) : Operand → AV
  | .tmp t => E.s t
  | .const v => ofVal v
  | .global g => .gp g
  | .func f => .clo (.func f) [] []

/-- Kinds of cells that are compared one by one. -/
inductive CK where
  | int
  | bool
  | str
  deriving DecidableEq

def eq1 : CK → AV → AV → Option Bool
  | .int, .lit (.int k a), .lit (.int k' b) => if k = k' then some (a == b) else none
  | .bool, .lit (.bool a), .lit (.bool b) => some (a == b)
  | .str, .lit (.string a), .lit (.string b) => some (a == b)
  | _, _, _ => none
def eqCells : List CK → List AV → List AV → Option Bool
  | [], [], [] => some true
  | k :: ks, x :: xs, y :: ys => match eq1 k x y with
    | some a => match eqCells ks xs ys with
      | some b => some (a && b)
      | none => none
    | none => none
  | _, _, _ => none

/-- The bytes of cells. -/
def bytesA : List AV → Option (List UInt8)
  | [] => some []
  | .lit (.int .u8 n) :: r => match bytesA r with
    | some l => some (UInt8.ofNat n.toNat :: l)
    | none => none
  | _ :: _ => none

inductive AOp where
  | mov (x : Operand)
  | pick (c a b : Operand)
  | alloc (z : List AV)
  | box (x : Operand)
  | build (z : List AV) (parts : List (Nat × Nat × Operand))
  | bslice (n esz : Nat) (parts : List Operand)
  | mks (agg : Bool) (esz bytes : Nat) (z : List AV) (l c : Operand)
  | mko (esz bytes : Nat) (c : Operand)
  | iadra (n esz : Nat) (x i : Operand)
  | idxa (agg : Bool) (n esz : Nat) (x i : Operand)
  | load (agg : Bool) (size : Nat) (a : Operand)
  | loadc (agg : Bool) (size : Nat) (a : Operand)
  | store (size : Nat) (a x : Operand)
  | nilchk (x : Operand)
  | bin (op : BinOp) (t : TypeId) (x y : Operand)
  | eqb (neg : Bool) (t : TypeId) (x y : Operand)
  | eqa (neg : Bool) (ks : List CK) (x y : Operand)
  | eqi (neg : Bool) (x y : Operand)
  | tas (t : TypeId) (z : AV) (x : Operand)
  | b2s (x : Operand)
  | eqn (neg : Bool) (x : Operand)
  | eqp (neg : Bool) (x : Operand)
  | un (op : UnOp) (x : Operand)
  | cint (k : IntKind) (x : Operand)
  | cid (x : Operand)
  | mkif (t : TypeId) (x : Operand)
  | mkfn (fn : Fn) (fst caps : List Operand)
  | slc (esz : Nat) (x : Operand) (lo hi : Option Operand)
  | slcs (x : Operand) (lo hi : Option Operand)
  | faddr (off size : Nat) (x : Operand)
  | fld (agg : Bool) (off size : Nat) (x : Operand)
  | iaddr (esz : Nat) (x i : Operand)
  | idxs (x i : Operand)
  | ext (x : Operand) (i : Nat)
  | lens (x : Operand)
  | lenl (x : Operand)
  | mnmx (mx : Bool) (args : List Operand)
  | app (esz bytes : Nat) (bs : List Nat) (x y : Operand)
  | bsl0 (esz : Nat)
  | mkf (agg : Bool) (esz bytes : Nat) (z : List AV) (l c : Operand)
  | clr (z : List AV) (x : Operand)
  | i2s (x : Operand)
  | eqs (neg : Bool) (x : Operand)
  | mkm
  | mup (str : Bool) (m k x : Operand)
  | lkp (str : Bool) (z : AV) (ok : Bool) (m k : Operand)
  | call (f : FuncId) (args : List Operand)
  | callv (f : Operand) (args : List Operand)
  | callm (f : FuncId) (args : List Operand)
  | callvm (f : Operand) (args : List Operand)
  | bad
  deriving Inhabited

/-- The value of an operation that needs no memory. -/
def p0 {α : Type} : Sem α → Option α
  | .pure a => some a
  | _ => none

theorem p0_run {α : Type} {s : Sem α} {a : α} (h : p0 s = some a) (P : Program) (w : World) : s.run P w = .ok a w := by
  cases s <;> simp only [p0] at h <;> first | (injection h with h; subst h; rfl) | exact absurd h (by simp)

def cellsOf : AV → List AV
  | .agg cs => cs
  | x => [x]

/-- One cell, and a value that may stand in one. -/
def AV.one : AV → Bool
  | .lit v => v.oneCell'
  | .agg _ | .tup _ | .dead => false
  | _ => true

/-- An element of a slice. -/
def AV.row : AV → Bool
  | .agg _ => true
  | x => x.one

def fillA (cells : List AV) : List (Nat × Nat × AV) → Option (List AV)
  | [] => some cells
  | (off, size, x) :: rest =>
    if x.row = true then
      if (cellsOf x).length = size then
        if off + size ≤ cells.length then fillA (cells.take off ++ cellsOf x ++ cells.drop (off + size)) rest
        else none
      else none
    else none

mutual
/-- Nothing in it hangs on the call: no cell of its own, nothing lent or borrowed; room is dropped. -/
def plainV : AV → Bool
  | .lit _ | .gl _ | .gp _ | .rp _ | .mp _ _ | .dead => true
  | .sl .none _ _ | .sl .nil _ _ | .sl (.own _) _ _ => true
  | .agg cs => plainL cs
  | .tup cs => plainL cs
  | .ifc _ v => plainV v
  | .clo _ a b => plainL a && plainL b
  | _ => false
def plainL : List AV → Bool
  | [] => true
  | x :: xs => plainV x && plainL xs
end

mutual
def unownV : AV → AV
  | .sl (.own _) e rows => .sl .none e rows
  | .agg cs => .agg (unownL cs)
  | .tup cs => .tup (unownL cs)
  | .ifc t v => .ifc t (unownV v)
  | .clo f a b => .clo f (unownL a) (unownL b)
  | x => x
def unownL : List AV → List AV
  | [] => []
  | x :: xs => unownV x :: unownL xs
end

/-- Are these plain (no local, borrowed or unknown part at the top), ownership dropped. -/
def closeV : AV → Option AV
  | .lit v => some (.lit v)
  | .sl .bor _ _ => none
  | .sl (.fr _) _ _ => none
  | .sl .gone _ _ => none
  | .sl .nil e [] => some (.sl .nil e [])
  | .sl .nil _ _ => none
  | .sl _ e rows => some (.sl .none e rows)
  | .rp cs => some (.rp cs)
  | .gl i => some (.gl i)
  | .mp k v => some (.mp k v)
  | .agg cs => match cs.mapM closeV1 with
    | some l => some (.agg l)
    | none => none
  | .ifc t v => match closeV1 v with
    | some u => some (.ifc t u)
    | none => none
  | .clo f a b => if plainL a && plainL b then some (.clo f (unownL a) (unownL b)) else none
  | .dead => some .dead
  | _ => none
where
  closeV1 : AV → Option AV
  | .lit v => some (.lit v)
  | .sl .bor _ _ => none
  | .sl (.fr _) _ _ => none
  | .sl .gone _ _ => none
  | .clo f a b => if plainL a && plainL b then some (.clo f (unownL a) (unownL b)) else none
  | .sl .nil e [] => some (.sl .nil e [])
  | .sl .nil _ _ => none
  | .sl _ e rows => some (.sl .none e rows)
  | .rp cs => some (.rp cs)
  | .gl i => some (.gl i)
  | .mp k v => some (.mp k v)
  | .ifc t (.lit v) => some (.ifc t (.lit v))
  | .ifc t (.rp cs) => some (.ifc t (.rp cs))
  | _ => none

def frB : Tok → Bool
  | .fr _ => true
  | .gone => true
  | _ => false
def goneB : Tok → Bool
  | .gone => true
  | _ => false

def intOfA : AV → Option Int
  | .lit (.int _ n) => some n
  | _ => none

mutual
/-- No owner's mark is in it. -/
def tokFree : AV → Bool
  | .sl (.own _) _ _ => false
  | .sl (.fr _) _ _ => false
  | .mu _ _ _ => false
  | .mf _ _ => false
  | .agg cs => tokFreeL cs
  | .tup cs => tokFreeL cs
  | .clo _ a b => tokFreeL a && tokFreeL b
  | .ifc _ v => tokFree v
  | _ => true
def tokFreeL : List AV → Bool
  | [] => true
  | x :: xs => tokFree x && tokFreeL xs
end

def chkTok (x : Option AV) : Option AV := match x with
  | some x => if tokFree x then some x else none
  | none => none

/-- Keys that are compared as they are. -/
def keyEq : Bool → Value → Value → Option Bool
  | false, .int k a, .int k' b => if k = k' then some (a == b) else none
  | true, .string a, .string b => some (a == b)
  | _, _, _ => none
/-- Where a key stands; 'none': it cannot be told. -/
def keyAt (str : Bool) (k : Value) : List Value → Nat → Option (Option Nat)
  | [], _ => some none
  | q :: qs, i => match keyEq str k q with
    | some true => some (some i)
    | some false => keyAt str k qs (i + 1)
    | none => none
def mapGet (str : Bool) (z : AV) (ok : Bool) (keys : List Value) (vals : List AV) (k : Value) : Option AV := match keyAt str k keys 0 with
  | some (some i) => match vals[i]? with
    | some x => some (if ok then .tup [x, .lit (.bool true)] else x)
    | none => none
  | some none => some (if ok then .tup [z, .lit (.bool false)] else z)
  | none => none

/-- The value of an operation that neither writes nor makes memory. -/
def aval (E : Env) : AOp → Option AV
  | .mov x => some (E.ev x)
  | .pick c a b => match E.ev c with
    | .lit (.bool t) => some (match t with | true => E.ev a | false => E.ev b)
    | _ => none
  | .build z parts => match fillA z (parts.map fun (o, s, x) => (o, s, E.ev x)) with
    | some cs => some (.agg cs)
    | none => none
  | .load agg size a => match E.ev a with
    | .rp cs => ld agg size cs
    | .bp cs => ld agg size cs
    | .lp c o => match E.c c with
      | some cs => ld agg size (cs.drop o)
      | none => none
    | _ => none
  | .loadc agg size a => match E.ev a with
    | .rp cs => chkTok (ld agg size cs)
    | .bp cs => chkTok (ld agg size cs)
    | .lp c o => match E.c c with
      | some cs => ld agg size (cs.drop o)
      | none => none
    | _ => none
  | .nilchk x => match E.ev x with
    | .rp cs => some (.rp cs)
    | .bp cs => some (.bp cs)
    | .lp c o => some (.lp c o)
    | .clo (.func f) a b => some (.clo (.func f) a b)
    | _ => none
  | .bin op t x y => match E.ev x, E.ev y with
    | .lit (.int k u), .lit (.int k' v) => match p0 (binOp op t (.int k u) (.int k' v)) with
      | some r => some (.lit r)
      | none => none
    | .lit (.string u), .lit (.string v) => match p0 (binOp op t (.string u) (.string v)) with
      | some r => some (.lit r)
      | none => none
    | _, _ => none
  | .eqb neg t x y => match E.ev x, E.ev y with
    | .lit (.bool a), .lit (.bool b) => some (.lit (.bool (if neg then !(a == b) else a == b)))
    | _, _ => none
  | .eqa neg ks x y => match E.ev x, E.ev y with
    | .agg cs, .agg ds => match eqCells ks cs ds with
      | some r => some (.lit (.bool (if neg then !r else r)))
      | none => none
    | _, _ => none
  | .eqi neg x y => match E.ev x, E.ev y with
    | .gl i, .gl j => some (.lit (.bool (if neg then !(i == j) else i == j)))
    | _, _ => none
  | .tas t z x => match E.ev x with
    | .lit .nilIface => some (.tup [z, .lit (.bool false)])
    | .gl _ => if t = GT then none else some (.tup [z, .lit (.bool false)])
    | .ifc u v => if u = t then some (.tup [v, .lit (.bool true)]) else some (.tup [z, .lit (.bool false)])
    | _ => none
  | .b2s x => match E.ev x with
    | .sl t e rows => if goneB t = false ∧ e = 1 then match bytesA rows with
        | some l => some (.lit (.string ⟨l.toArray⟩))
        | none => none
      else none
    | .ml c o n _ _ e => if e = 1 then match E.c c with
        | some cs => if o + n ≤ cs.length then match bytesA ((cs.drop o).take n) with
          | some l => some (.lit (.string ⟨l.toArray⟩))
          | none => none
          else none
        | none => none
      else none
    | _ => none
  | .eqn neg x => match E.ev x with
    | .lit .nilIface => some (.lit (.bool !neg))
    | .ifc _ _ => some (.lit (.bool neg))
    | .gl _ => some (.lit (.bool neg))
    | _ => none
  | .eqp neg x => match E.ev x with
    | .lit (.pointer none) => some (.lit (.bool !neg))
    | .rp _ => some (.lit (.bool neg))
    | .bp _ => some (.lit (.bool neg))
    | .lp _ _ => some (.lit (.bool neg))
    | _ => none
  | .un op x => match E.ev x with
    | .lit u => match p0 (Op.unary op u) with
      | some r => some (.lit r)
      | none => none
    | _ => none
  | .cint k x => match E.ev x with
    | .lit (.int _ n) => some (.lit (.int k (k.wrap n)))
    | _ => none
  | .cid x => match E.ev x with
    | .lit (.string s) => some (.lit (.string s))
    | _ => none
  | .mkif t x => some (.ifc t (E.ev x))
  | .mkfn fn fst caps => some (.clo fn (fst.map E.ev) (caps.map E.ev))
  | .slcs x lo hi => match E.ev x with
    | .lit (.string s) => match bnd E 0 lo, bnd E s.size hi with
      | some l, some h => if 0 ≤ l ∧ l ≤ h ∧ h ≤ s.size then some (.lit (.string (s.extract l.toNat h.toNat))) else none
      | _, _ => none
    | _ => none
  | .slc esz x lo hi => match E.ev x with
    | .sl t e rows => match bnd E 0 lo, bnd E rows.length hi with
      | some l, some h => if frB t = false then if e = esz then if 0 ≤ l ∧ l ≤ h ∧ h ≤ rows.length then some (.sl (cutTok t) e ((rows.take h.toNat).drop l.toNat)) else none else none else none
      | _, _ => none
    | .ml c off n cap g e => match bnd E 0 lo, bnd E n hi with
      | some l, some h => if e = esz then if 0 ≤ l ∧ l ≤ h ∧ h ≤ n ∧ (l < cap ∨ l = 0) ∧ n ≤ cap then some (.ml c (off + l.toNat * e) (h.toNat - l.toNat) (cap - l.toNat) g e) else none else none
      | _, _ => none
    | _ => none
  | .faddr off size x => match E.ev x with
    | .rp cs => if off + size ≤ cs.length then some (.rp ((cs.drop off).take size)) else none
    | .bp cs => if off + size ≤ cs.length then some (.bp ((cs.drop off).take size)) else none
    | .lp c o => some (.lp c (o + off))
    | _ => none
  | .fld agg off size x => match E.ev x with
    | .agg cs => ld agg size (cs.drop off)
    | _ => none
  | .iaddr esz x i => match E.ev x, E.ev i with
    | .sl t e rows, .lit (.int _ n) => if 0 ≤ n then match rows[n.toNat]? with
        | some r => if frB t = false then if r.row = true then if e = esz then some (match t with | .bor => .bp (cellsOf r) | _ => .rp (cellsOf r)) else none else none else none
        | none => none
      else none
    | .ml c off len _ _ e, .lit (.int _ n) => if 0 ≤ n ∧ n < (len : Int) then if e = esz then some (.lp c (off + n.toNat * e)) else none else none
    | _, _ => none
  | .iadra n esz x i => match E.ev i with
    | .lit (.int _ k) => if 0 ≤ k ∧ k < (n : Int) then match E.ev x with
        | .rp cs => if k.toNat * esz + esz ≤ cs.length then some (.rp ((cs.drop (k.toNat * esz)).take esz)) else none
        | .bp cs => if k.toNat * esz + esz ≤ cs.length then some (.bp ((cs.drop (k.toNat * esz)).take esz)) else none
        | .lp c o => some (.lp c (o + k.toNat * esz))
        | _ => none
      else none
    | _ => none
  | .idxa agg n esz x i => match E.ev i with
    | .lit (.int _ k) => if 0 ≤ k ∧ k < (n : Int) then match E.ev x with
        | .agg cs => ld agg esz (cs.drop (k.toNat * esz))
        | _ => none
      else none
    | _ => none
  | .idxs x i => match E.ev x, E.ev i with
    | .lit (.string s), .lit (.int _ n) => if 0 ≤ n then match s[n.toNat]? with
        | some b => some (.lit (.int .u8 b.toNat))
        | none => none
      else none
    | _, _ => none
  | .ext x i => match E.ev x with
    | .tup cs => cs[i]?
    | _ => none
  | .i2s x => match E.ev x with
    | .lit (.int _ n) => if 0 ≤ n ∧ n < 128 then some (.lit (.string ⟨#[UInt8.ofNat n.toNat]⟩)) else none
    | _ => none
  | .eqs neg x => match E.ev x with
    | .sl t _ rows => match t, rows with
      | .nil, [] => some (.lit (.bool !neg))
      | .gone, _ => none
      | _, _ :: _ => some (.lit (.bool neg))
      | _, _ => none
    | .ml _ _ _ _ _ _ => some (.lit (.bool neg))
    | .lit (.slice A _ _) => some (.lit (.bool (if neg then !A.isNone else A.isNone)))
    | _ => none
  | .lkp str z ok m k => match E.ev m, E.ev k with
    | .mp keys vals, .lit kv => mapGet str z ok keys vals kv
    | .mu _ keys vals, .lit kv => mapGet str z ok keys vals kv
    | _, _ => none
  | .lens x => match E.ev x with
    | .lit (.string s) => some (.lit (.int .i64 s.size))
    | _ => none
  | .lenl x => match E.ev x with
    | .sl _ _ rows => some (.lit (.int .i64 rows.length))
    | .ml _ _ n _ _ _ => some (.lit (.int .i64 n))
    | _ => none
  | .mnmx mx args => match (args.map E.ev).mapM litOf with
    | some vs => match p0 (if mx then Builtin.max_ #[] 0 vs.toArray else Builtin.min_ #[] 0 vs.toArray) with
      | some r => some (.lit r)
      | none => none
    | none => none
  | _ => none
where
  ld (agg : Bool) (size : Nat) (cs : List AV) : Option AV :=
    match agg with
    | true => if size ≤ cs.length then some (.agg (cs.take size)) else none
    | false => cs[0]?
  bnd (E : Env) (d : Nat) : Option Operand → Option Int
    | none => some d
    | some x => intOfA (E.ev x)
  cutTok : Tok → Tok
    | .bor => .bor
    | _ => .none
  litOf : AV → Option Value
    | .lit v => some v
    | _ => none

end Go.Proofs.Ytmjmfollimaleaa.VL
