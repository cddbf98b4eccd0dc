/- The value logic, part 4: operations resolved by the program's tables; what they yield is what the model runs. -/
import Derived.Test.YtmjmfollimaleaaVL3
import Derived.Tactics
import Derived.Laws.Slices
set_option linter.unusedVariables false
set_option linter.unusedSimpArgs false
namespace Go.Proofs.Ytmjmfollimaleaa.VL
open Go.RowKit

def isAggB (P : Program) (t : TypeId) : Option Bool :=
  match P.underlying t with
  | some (.struct _) | some (.array _ _) => some true
  | some _ => some false
  | none => none

def isZeroOp : Operand → Bool
  | .const (.int _ 0) => true
  | _ => false
/-- Are a map's keys compared as they are? -/
def keyStr (P : Program) (k : TypeId) : Option Bool := match P.underlying k with
  | some (.int _) => some false
  | some .string => some true
  | _ => none

/-- A cell's kind. -/
def ckOf (P : Program) (t : TypeId) : Option CK := match P.info? t with
  | some i => if i.size = 1 then match P.underlying t with
      | some (.int _) => some .int
      | some .bool => some .bool
      | some .string => some .str
      | _ => none
    else none
  | none => none
/-- How two aggregates are compared. -/
def eqPlan (P : Program) (t : TypeId) : Option (List CK) := match P.underlying t with
  | some (.struct fs) => if P.stoodInHeld t = false then if fs.toList.map (·.offset) = List.range fs.size then if (fs.toList.all fun f => f.name ≠ "_") = true then mapCK P (fs.toList.map (·.type)) else none else none else none
  | some (.array n e) => match ckOf P e with
    | some k => some (List.replicate n k)
    | none => none
  | _ => none
where
  mapCK (P : Program) : List TypeId → Option (List CK)
    | [] => some []
    | t :: ts => match ckOf P t with
      | some k => match mapCK P ts with
        | some ks => some (k :: ks)
        | none => none
      | none => none
def eqaRes (P : Program) (neg : Bool) (t : TypeId) (x y : Operand) : AOp := if P.eqGuardType P.depth t = false then match eqPlan P t with
  | some ks => .eqa neg ks x y
  | none => .bad
  else .bad
/-- The errors' type is one whose values may be compared. -/
def sentOK (P : Program) : Bool := match P.underlying GT, P.info? GT with
  | some (.pointer e), some i => i.comparable && (match P.info? e with | some j => decide (j.size ≠ 0) | none => false)
  | _, _ => false

/-- An operation, its types looked up. -/
def res (P : Program) : Op → AOp
  | .move x | .assign x => .mov x
  | .pick c a b => .pick c a b
  | .alloc t => match (P.info? t).bind (·.zero) with
    | some z => .alloc (z.cells.toList.map ofVal1)
    | none => .bad
  | .box _ x => .box x
  | .build t parts => match P.underlying t, (P.info? t).bind (·.zero) with
    | some (.struct fs), some z => match parts.toList.mapM (fun p => (fs[p.1]?).bind fun f => (P.info? f.type).map fun i => (f.offset, i.size, p.2)) with
      | some l => if (fs.toList.all fun f => (P.info? f.type).isSome) then .build (z.cells.toList.map ofVal1) l else .bad
      | none => .bad
    | _, _ => .bad
  | .buildSlice t n parts => match P.underlying t with
    | some (.slice e) => match P.info? e with
      | some i => match i.zero with
        | some z => if parts.toList.map (·.1) = List.range n then if n * i.size ≤ 16777216 ∧ 0 < i.size then if z.cells.size = i.size then .bslice n i.size (parts.toList.map (·.2)) else .bad else .bad else .bad
        | none => .bad
      | none => .bad
    | _ => .bad
  | .makeSlice t l c => match P.underlying t with
    | some (.slice e) => match P.info? e, isAggB P e with
      | some i, some b => match i.zero with
        | some z => if z.cells.size = i.size then if 0 < i.size then if isZeroOp l = true then .mko i.size i.bytes c else .mks b i.size i.bytes (z.cells.toList.map ofVal1) l c else .bad else .bad
        | none => .bad
      | _, _ => .bad
    | _ => .bad
  | .load t a => match isAggB P t, P.info? t with
    | some b, some i => .load b i.size a
    | _, _ => .bad
  | .store t a x => match P.info? t with
    | some i => .store i.size a x
    | none => .bad
  | .nilCheck x => .nilchk x
  | .binOp op t x y _ => match op, P.underlying t, y with
    | .eql, some .bool, y => .eqb false t x y
    | .neq, some .bool, y => .eqb true t x y
    | .eql, some (.interface _), .const .nilIface => .eqn false x
    | .neq, some (.interface _), .const .nilIface => .eqn true x
    | .eql, some (.pointer _), .const (.pointer none) => .eqp false x
    | .neq, some (.pointer _), .const (.pointer none) => .eqp true x
    | .eql, some (.slice _), .const (.slice none 0 0) => .eqs false x
    | .neq, some (.slice _), .const (.slice none 0 0) => .eqs true x
    | .eql, some (.struct _), y => eqaRes P false t x y
    | .neq, some (.struct _), y => eqaRes P true t x y
    | .eql, some (.array _ _), y => eqaRes P false t x y
    | .neq, some (.array _ _), y => eqaRes P true t x y
    | .eql, some (.interface _), y => if sentOK P = true then .eqi false x y else .bad
    | .neq, some (.interface _), y => if sentOK P = true then .eqi true x y else .bad
    | op, _, y => .bin op t x y
  | .unOp op _ x => .un op x
  | .convert s d x => match P.underlying s, P.underlying d with
    | some (.int _), some (.int k) => .cint k x
    | some .string, some .string => .cid x
    | some (.int _), some .string => .i2s x
    | some (.slice e), some .string => match P.underlying e, P.info? e with
      | some (.int .u8), some _ => .b2s x
      | _, _ => .bad
    | _, _ => .bad
  | .typeAssert x _ t true => match P.underlying t, (P.info? t).bind (·.zero) with
    | some (.interface _), _ => .bad
    | some (.pointer _), some z => .tas t (ofVal z) x
    | _, _ => .bad
  | .makeInterface t x => match P.underlying t with
    | some (.interface _) => .bad
    | some _ => .mkif t x
    | none => .bad
  | .makeFunc fn a b => .mkfn fn a.toList b.toList
  | .slice t x lo hi mx => match P.underlying t, mx with
    | some .string, none => .slcs x lo hi
    | some (.slice e), none => match P.info? e with
      | some i => .slc i.size x lo hi
      | none => .bad
    | _, _ => .bad
  | .makeMap t none => match P.underlying t with
    | some (.map _ _) => .mkm
    | _ => .bad
  | .mapUpdate t m k x | .insert t m k x => match P.underlying t with
    | some (.map kt _) => match keyStr P kt with
      | some b => .mup b m k x
      | none => .bad
    | _ => .bad
  | .lookup t m k ok => match P.underlying t with
    | some (.map kt e) => match keyStr P kt, (P.info? e).bind (·.zero) with
      | some b, some z => .lkp b (ofVal z) ok m k
      | _, _ => .bad
    | _ => .bad
  | .fieldAddr t x f => match P.underlying t with
    | some (.struct fs) => match fs[f]? with
      | some fd => match P.info? fd.type with
        | some i => if i.size = 0 then .bad else .faddr fd.offset i.size x
        | none => .bad
      | none => .bad
    | _ => .bad
  | .field t x f => match P.underlying t with
    | some (.struct fs) => match fs[f]? with
      | some fd => match P.info? fd.type, isAggB P fd.type with
        | some i, some b => .fld b fd.offset i.size x
        | _, _ => .bad
      | none => .bad
    | _ => .bad
  | .indexAddr t x i => match P.underlying t with
    | some (.slice e) => match P.info? e with
      | some inf => .iaddr inf.size x i
      | none => .bad
    | some (.array n e) => match P.info? e with
      | some inf => .iadra n inf.size x i
      | none => .bad
    | _ => .bad
  | .index t x i => match P.underlying t with
    | some .string => .idxs x i
    | some (.array n e) => match P.info? e, isAggB P e with
      | some inf, some b => .idxa b n inf.size x i
      | _, _ => .bad
    | _ => .bad
  | .extract x i => .ext x i
  | .call c => match c.callee with
    | .value (.func f) => .call f c.args.toList
    | .value x => .callv x c.args.toList
    | .builtin .len => match c.argTypes[0]?, c.args.toList with
      | some t, [x] => match P.underlying t with
        | some .string => .lens x
        | some (.slice _) => .lenl x
        | _ => .bad
      | _, _ => .bad
    | .builtin .clear => match c.argTypes[0]?, c.args.toList with
      | some t, [x] => match P.underlying t with
        | some (.slice e) => match P.info? e with
          | some i => match i.zero with
            | some z => if z.cells.size = i.size then .clr (z.cells.toList.map ofVal1) x else .bad
            | none => .bad
          | none => .bad
        | _ => .bad
      | _, _ => .bad
    | .builtin .min => .mnmx false c.args.toList
    | .builtin .max => .mnmx true c.args.toList
    | .builtin .append => match c.argTypes.toList, c.args.toList with
      | [t, u], [x, y] => if t = u then match P.underlying t with
        | some (.slice e) => match P.info? e with
          | some i => match i.zero with
            | some z => if z.cells.size = i.size then if 0 < i.size then if (z.cells.toList.all fun u => u.oneCell') = true then .app i.size i.bytes [] x y else .bad else .bad else .bad
            | none => .bad
          | none => .bad
        | _ => .bad
        else .bad
      | _, _ => .bad
    | _ => .bad
  | _ => .bad

section
variable {P : Program} {R : RE} {N : Nat} {env : Env} {a : Act} {E : RE}

theorem run_loadCells_at {w : World} {S : Nat → Nat → Prop} {vs : List Value} {b o : Nat} (h : At w S vs b o) (n : Nat) (hn : n ≤ vs.length) :
    (loadCells ⟨b, o, none⟩ n).run P w = .ok (vs.take n).toArray w := by
  have := run_loadCells_list (P := P) (w := w) ⟨b, o, none⟩ (vs.take n) (fun j v hj => by
    rw [Addr.add_lit]
    rw [List.getElem?_take] at hj
    split at hj
    · exact (h j v hj).2
    · cases hj)
  simpa [Nat.min_eq_left hn] using this

theorem run_isAgg {t : TypeId} {b : Bool} (h : isAggB P t = some b) (w : World) : (isAgg t).run P w = .ok b w := by
  unfold isAggB at h
  unfold isAgg underlying program
  cases hu : P.underlying t with
  | none => simp [hu] at h
  | some d => cases d <;> simp [hu] at h <;> subst h <;> simp [Sem.run, hu, Bind.bind, Sem.bind, Pure.pure]

theorem run_sizeOf {t : TypeId} {i : TypeInfo} (h : P.info? t = some i) (w : World) : (sizeOf t).run P w = .ok i.size w := by
  simp [sizeOf, typeInfo, program, Sem.run, h, Bind.bind, Sem.bind, Pure.pure]

/-- A variable of a type is read where its cells lie. -/
theorem run_loadVar {t : TypeId} {b : Bool} {i : TypeInfo} (hb : isAggB P t = some b) (hi : P.info? t = some i) {w : World} {S : Nat → Nat → Prop} {vs : List Value} {bl o : Nat} (h : At w S vs bl o)
    {E : RE} {cs : List AV} (hr : RepL E cs vs) {x : AV} (hx : aval.ld b i.size cs = some x) : ∃ v, (loadVar t ⟨bl, o, none⟩).run P w = .ok v w ∧ Rep E x v := by
  unfold loadVar
  cases b with
  | true =>
    simp only [aval.ld] at hx
    split at hx
    · rename_i hle
      injection hx with hx
      subst hx
      have hl := hr.length
      refine ⟨.agg (vs.take i.size).toArray, ?_, ?_⟩
      · simp [Sem.run_bind, run_isAgg hb, run_sizeOf hi, run_loadCells_at (P := P) h i.size (by omega)]
      · simp only [Rep]
        exact ⟨_, rfl, hr.take _⟩
    · cases hx
  | false =>
    simp only [aval.ld] at hx
    obtain ⟨v, hv, hrep⟩ := hr.get 0 hx
    have := (h 0 v hv).2
    refine ⟨v, ?_, hrep⟩
    simp only [Nat.add_zero] at this
    simp [Sem.run_bind, run_isAgg hb, load, Sem.run, this]

end
end Go.Proofs.Ytmjmfollimaleaa.VL
