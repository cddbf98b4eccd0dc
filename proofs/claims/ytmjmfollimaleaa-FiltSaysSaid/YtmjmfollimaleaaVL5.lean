/- The value logic, part 5: operations that read. -/
import Derived.Test.YtmjmfollimaleaaVL4
set_option linter.unusedVariables false
set_option linter.unusedSimpArgs false
namespace Go.Proofs.Ytmjmfollimaleaa.VL
open Go.RowKit

section
variable {P : Program} {R : RE} {N : Nat} {env : Env} {a : Act} {E : RE}

theorem Ext.closed_le (E : RE) : Ext E.closed E :=
  ⟨fun _ _ h => h, fun _ h => h.elim, fun b o u hb hc => hc, fun _ _ _ _ h => h, fun c b hc => by simp [RE.closed] at hc, fun g τ ho => (ho : False).elim, rfl, fun c b hc => by simp [RE.closed] at hc⟩
theorem Ext.bor_le (E : RE) : Ext E.bor E :=
  ⟨fun _ _ h => h, fun _ h => h, fun b o u hb hc => hc, fun _ _ _ _ h => h, fun c b hc => by simp [RE.bor] at hc, fun g τ ho => (ho : False).elim, rfl, fun c b hc => by simp [RE.bor] at hc⟩

theorem Ext.closed_bor (E : RE) : Ext E.closed E.bor :=
  ⟨fun _ _ h => h, fun _ h => h.elim, fun b o u hb hc => hc, fun _ _ _ _ h => h, fun c b hc => by simp [RE.closed] at hc, fun g τ ho => (ho : False).elim, rfl, fun c b hc => by simp [RE.closed] at hc⟩

/-- What 'aval' says of an operation. -/
def ValOK (P : Program) (E : RE) (a : Act) (o : Oper) (x : AV) : Prop :=
  ∃ v, (execOp a.eval o).run P E.w = .ok (.value v) E.w ∧ Rep E x v

theorem val_move (hI : Inv R N env a E) {o : Oper} {y : Operand} (ho : o.op = .move y ∨ o.op = .assign y) {x : AV} (h : aval env (.mov y) = some x) : ValOK P E a o x := by
  simp only [aval] at h
  injection h with h
  subst h
  refine ⟨a.eval y, ?_, hI.ev y⟩
  rcases ho with ho | ho <;> simp [execOp, ho, Sem.run]

theorem val_pick (hI : Inv R N env a E) {o : Oper} {c y z : Operand} (ho : o.op = .pick c y z) {x : AV} (h : aval env (.pick c y z) = some x) : ValOK P E a o x := by
  simp only [aval] at h
  split at h
  · rename_i t hc
    have hcv := hI.ev c
    rw [hc] at hcv
    simp only [Rep] at hcv
    injection h with h
    subst h
    cases t
    · exact ⟨a.eval z, by simp [execOp, ho, hcv, asBool, Sem.run, Sem.run_bind], hI.ev z⟩
    · exact ⟨a.eval y, by simp [execOp, ho, hcv, asBool, Sem.run, Sem.run_bind], hI.ev y⟩
  · cases h

theorem val_load (hI : Inv R N env a E) {o : Oper} {t : TypeId} {y : Operand} (ho : o.op = .load t y) {x : AV} (h : aval env (res P (.load t y)) = some x) : ValOK P E a o x := by
  simp only [res] at h
  split at h
  · rename_i b i hb hi
    have hy := hI.ev y
    simp only [aval] at h
    have go : ∀ (S : Nat → Nat → Prop) (E' : RE) (cs : List AV) (vs : List Value) (bl off : Nat), a.eval y = .pointer (some ⟨bl, off, none⟩) → At E.w S vs bl off → RepL E' cs vs →
        aval.ld b i.size cs = some x → (Rep E' x = Rep E x ∨ (∀ v, Rep E' x v → Rep E x v)) → ValOK P E a o x := by
      intro S E' cs vs bl off he hat hr hx hE
      obtain ⟨v, hv, hrep⟩ := run_loadVar (P := P) hb hi hat hr hx
      refine ⟨v, ?_, ?_⟩
      · simp [execOp, ho, he, Instr.loadAt, Instr.sureAddr, Sem.run_bind, hv]
      · rcases hE with hE | hE
        · rw [← hE]; exact hrep
        · exact hE v hrep
    split at h
    · rename_i cs hc
      rw [hc] at hy
      simp only [Rep] at hy
      obtain ⟨bl, off, vs, he, hr, hat⟩ := hy
      refine go _ _ _ _ _ _ he hat hr h (.inr fun v hv => hv.mono (Ext.closed_le E))
    · rename_i cs hc
      rw [hc] at hy
      simp only [Rep] at hy
      obtain ⟨bl, off, vs, he, hr, hat⟩ := hy
      refine go _ _ _ _ _ _ he hat hr h (.inr fun v hv => hv.mono (Ext.bor_le E))
    · rename_i c off hc
      rw [hc] at hy
      simp only [Rep] at hy
      obtain ⟨bl, hl, he⟩ := hy
      obtain ⟨_, _, _, cs, vals, ty, hcs, hh, hr, _⟩ := hI.locc _ _ hl
      rw [hcs] at h
      simp only at h
      have hat : At E.w (fun _ _ => True) (vals.toList.drop off) bl off := by
        intro j u hj
        refine ⟨trivial, ?_⟩
        rw [List.getElem?_drop] at hj
        simp [World.cell?, hh]
        simpa using hj
      exact go _ _ _ _ _ _ he hat (hr.drop off) h (.inl rfl)
    · cases h
  · simp [aval] at h

theorem val_nilchk (hI : Inv R N env a E) {o : Oper} {y : Operand} (ho : o.op = .nilCheck y) {x : AV} (h : aval env (.nilchk y) = some x) : ValOK P E a o x := by
  simp only [aval] at h
  have hy := hI.ev y
  split at h
  · rename_i cs hc
    injection h with h
    rw [← h]
    rw [hc] at hy
    refine ⟨a.eval y, ?_, hy⟩
    simp only [Rep] at hy
    obtain ⟨bl, off, vs, he, hr, hat⟩ := hy
    simp [execOp, ho, he, Sem.run]
  · rename_i cs hc
    injection h with h
    rw [← h]
    rw [hc] at hy
    refine ⟨a.eval y, ?_, hy⟩
    simp only [Rep] at hy
    obtain ⟨bl, off, vs, he, hr, hat⟩ := hy
    simp [execOp, ho, he, Sem.run]
  · rename_i c off hc
    injection h with h
    rw [← h]
    rw [hc] at hy
    refine ⟨a.eval y, ?_, hy⟩
    simp only [Rep] at hy
    obtain ⟨bl, hl, he⟩ := hy
    simp [execOp, ho, he, Sem.run]
  · rename_i f b c hc
    injection h with h
    rw [← h]
    rw [hc] at hy
    refine ⟨a.eval y, ?_, hy⟩
    simp only [Rep] at hy
    obtain ⟨fs, cs, he, _, _⟩ := hy
    simp [execOp, ho, he, Sem.run]
  · cases h

theorem val_bin (hI : Inv R N env a E) {o : Oper} {op : BinOp} {t t' : TypeId} {y z : Operand} (ho : o.op = .binOp op t y z t') {x : AV} (h : aval env (.bin op t y z) = some x) : ValOK P E a o x := by
  simp only [aval] at h
  have hy := hI.ev y
  have hz := hI.ev z
  split at h
  · rename_i k u k' v h1 h2
    rw [h1] at hy
    rw [h2] at hz
    simp only [Rep] at hy hz
    split at h
    · rename_i r hr
      injection h with h
      subst h
      refine ⟨r, ?_, by simp [Rep]⟩
      simp [execOp, ho, hy, hz, eqGuard_at_int, Sem.run_bind, p0_run hr, Sem.run]
    · cases h
  · rename_i u v h1 h2
    rw [h1] at hy
    rw [h2] at hz
    simp only [Rep] at hy hz
    split at h
    · rename_i r hr
      injection h with h
      subst h
      refine ⟨r, ?_, by simp [Rep]⟩
      simp [execOp, ho, hy, hz, eqGuard_at_string, Sem.run_bind, p0_run hr, Sem.run]
    · cases h
  · cases h

theorem run_equal_bool {t : TypeId} (h : P.underlying t = some .bool) (x y : Bool) (w : World) : (Op.equal t (.bool x) (.bool y)).run P w = .ok (x == y) w := by
  unfold Op.equal Op.maxDepth Op.equalIn
  simp [underlying, program, Sem.run, h, Bind.bind, Sem.bind, Pure.pure]

theorem val_eqb (hI : Inv R N env a E) {o : Oper} {op : BinOp} {neg : Bool} {t t' : TypeId} {y z : Operand} (ho : o.op = .binOp op t y z t') (hop : op = if neg then .neq else .eql) (ht : P.underlying t = some .bool)
    {x : AV} (h : aval env (.eqb neg t y z) = some x) : ValOK P E a o x := by
  simp only [aval] at h
  have hy := hI.ev y
  have hz := hI.ev z
  split at h
  · rename_i u v h1 h2
    rw [h1] at hy
    rw [h2] at hz
    simp only [Rep] at hy hz
    injection h with h
    subst h hop
    refine ⟨.bool (if neg = true then !u == v else u == v), ?_, by simp only [Rep]⟩
    cases neg <;> simp [execOp, ho, hy, hz, eqGuard_at_bool, Sem.run_bind, binOp, run_equal_bool ht, Sem.run]
  · cases h

theorem val_un (hI : Inv R N env a E) {o : Oper} {op : UnOp} {t : TypeId} {y : Operand} (ho : o.op = .unOp op t y) {x : AV} (h : aval env (.un op y) = some x) : ValOK P E a o x := by
  simp only [aval] at h
  have hy := hI.ev y
  split at h
  · rename_i u h1
    rw [h1] at hy
    simp only [Rep] at hy
    split at h
    · rename_i r hr
      injection h with h
      subst h
      refine ⟨r, ?_, by simp [Rep]⟩
      simp [execOp, ho, hy, Sem.run_bind, p0_run hr, Sem.run]
    · cases h
  · cases h

theorem run_underlying_eq {t : TypeId} {d : TypeDesc} (h : P.underlying t = some d) (w : World) : (underlying t).run P w = .ok d w := by
  simp [underlying, program, Sem.run, h, Bind.bind, Sem.bind, Pure.pure]

theorem val_cint (hI : Inv R N env a E) {o : Oper} {s d : TypeId} {q k : IntKind} {y : Operand} (ho : o.op = .convert s d y) (hs : P.underlying s = some (.int q)) (hd : P.underlying d = some (.int k))
    {x : AV} (h : aval env (.cint k y) = some x) : ValOK P E a o x := by
  simp only [aval] at h
  have hy := hI.ev y
  split at h
  · rename_i k' n h1
    rw [h1] at hy
    simp only [Rep] at hy
    injection h with h
    subst h
    refine ⟨.int k (k.wrap n), ?_, by simp only [Rep]⟩
    simp [execOp, ho, hy, convert, Sem.run_bind, run_underlying_eq hs, run_underlying_eq hd, Conv.intToInt, Sem.run]
  · cases h

theorem val_cid (hI : Inv R N env a E) {o : Oper} {s d : TypeId} {y : Operand} (ho : o.op = .convert s d y) (hs : P.underlying s = some .string) (hd : P.underlying d = some .string)
    {x : AV} (h : aval env (.cid y) = some x) : ValOK P E a o x := by
  simp only [aval] at h
  have hy := hI.ev y
  split at h
  · rename_i k' h1
    rw [h1] at hy
    simp only [Rep] at hy
    injection h with h
    subst h
    refine ⟨.string k', ?_, by simp only [Rep]⟩
    simp [execOp, ho, hy, convert, Sem.run_bind, run_underlying_eq hs, run_underlying_eq hd, Sem.run]
  · cases h

theorem val_mkif (hI : Inv R N env a E) {o : Oper} {t : TypeId} {d : TypeDesc} {y : Operand} (ho : o.op = .makeInterface t y) (ht : P.underlying t = some d) (hd : ∀ ms, d ≠ .interface ms)
    {x : AV} (h : aval env (.mkif t y) = some x) : ValOK P E a o x := by
  simp only [aval] at h
  injection h with h
  subst h
  refine ⟨.iface t (a.eval y), ?_, by simp only [Rep]; exact ⟨_, rfl, hI.ev y⟩⟩
  cases d <;> first | exact absurd rfl (hd _) | simp [execOp, ho, Instr.makeInterface, Sem.run_bind, run_underlying_eq ht, Sem.run]

theorem Inv.evs (hI : Inv R N env a E) (l : List Operand) : RepL E (l.map env.ev) (l.map a.eval) :=
  RepL.map _ _ l fun x _ => hI.ev x

theorem val_mkfn (hI : Inv R N env a E) {o : Oper} {fn : Fn} {fst caps : Array Operand} (ho : o.op = .makeFunc fn fst caps) {x : AV} (h : aval env (.mkfn fn fst.toList caps.toList) = some x) : ValOK P E a o x := by
  simp only [aval] at h
  injection h with h
  subst h
  refine ⟨.func fn (fst.map a.eval) (caps.map a.eval), ?_, ?_⟩
  · simp [execOp, ho, Instr.makeFunc, Sem.run_bind, Sem.run]
  · simp only [Rep]
    exact ⟨fst.toList.map a.eval, caps.toList.map a.eval, by simp [← Array.toList_map], hI.evs fst.toList, hI.evs caps.toList⟩

theorem val_ext (hI : Inv R N env a E) {o : Oper} {y : Operand} {i : Nat} (ho : o.op = .extract y i) {x : AV} (h : aval env (.ext y i) = some x) : ValOK P E a o x := by
  simp only [aval] at h
  have hy := hI.ev y
  split at h
  · rename_i cs h1
    rw [h1] at hy
    simp only [Rep] at hy
    obtain ⟨vs, he, hr⟩ := hy
    obtain ⟨v, hv, hrep⟩ := hr.get i h
    refine ⟨v, ?_, hrep⟩
    simp [execOp, ho, he, Instr.extract, Sem.run_bind, hv, Sem.run]
  · cases h

theorem val_lens (hI : Inv R N env a E) {o : Oper} {c : Call} {t : TypeId} {y : Operand} (ho : o.op = .call c) (hc : c.callee = .builtin .len) (hat : c.argTypes[0]? = some t) (har : c.args.toList = [y])
    (ht : P.underlying t = some .string) {x : AV} (h : aval env (.lens y) = some x) : ValOK P E a o x := by
  have hargs : c.args = #[y] := by rw [← Array.toArray_toList (xs := c.args), har]
  simp only [aval] at h
  have hy := hI.ev y
  split at h
  · rename_i s h1
    rw [h1] at hy
    simp only [Rep] at hy
    injection h with h
    subst h
    refine ⟨.int .i64 s.size, ?_, by simp only [Rep]⟩
    simp [execOp, ho, hc, hargs, hy, resolve, invoke, builtin, Builtin.len_, hat, Sem.run_bind, run_underlying_eq ht, goInt, Sem.run]
  · cases h

theorem val_lenl (hI : Inv R N env a E) {o : Oper} {c : Call} {t e : TypeId} {y : Operand} (ho : o.op = .call c) (hc : c.callee = .builtin .len) (hat : c.argTypes[0]? = some t) (har : c.args.toList = [y])
    (ht : P.underlying t = some (.slice e)) {x : AV} (h : aval env (.lenl y) = some x) : ValOK P E a o x := by
  have hargs : c.args = #[y] := by rw [← Array.toArray_toList (xs := c.args), har]
  simp only [aval] at h
  have hy := hI.ev y
  split at h
  · rename_i tk e' rows h1
    rw [h1] at hy
    simp only [Rep] at hy
    obtain ⟨A, cap, vs, he, _⟩ := hy
    injection h with h
    subst h
    refine ⟨.int .i64 rows.length, ?_, by simp only [Rep]⟩
    simp [execOp, ho, hc, hargs, he, resolve, invoke, builtin, Builtin.len_, hat, Sem.run_bind, run_underlying_eq ht, goInt, Sem.run]
  · rename_i c' off n cap g e' h1
    rw [h1] at hy
    simp only [Rep] at hy
    obtain ⟨b, _, he⟩ := hy
    injection h with h
    subst h
    refine ⟨.int .i64 n, ?_, by simp only [Rep]⟩
    simp [execOp, ho, hc, hargs, he, resolve, invoke, builtin, Builtin.len_, hat, Sem.run_bind, run_underlying_eq ht, goInt, Sem.run]
  · cases h

end
end Go.Proofs.Ytmjmfollimaleaa.VL
