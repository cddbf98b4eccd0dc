/- The value logic, part 14: calls in a region; a region in the text's order. -/
import Derived.Test.YtmjmfollimaleaaVL13
set_option linter.unusedVariables false
set_option linter.unusedSimpArgs false
namespace Go.Proofs.Ytmjmfollimaleaa.VL
open Go.RowKit

def resGuard (ops : Array Oper) : Option (Nat × Bool) → Option (Option (Nat × Bool))
  | none => some none
  | some (j, w) => match (ops[j]?).bind (·.dst) with
    | some s => some (some (s, w))
    | none => none

def resOper (P : Program) (ops : Array Oper) (o : Oper) : AOper :=
  match resGuard ops o.guard with
  | some g => ⟨o.dst, res P o.op, g⟩
  | none => ⟨o.dst, .bad, none⟩

/-- Does a region append? -/
def hasApp (ops : Array Oper) : Bool := ops.toList.any fun o => match o.op with
  | .call c => match c.callee with
    | .builtin .append => true
    | _ => false
  | _ => false

/-- The slice literals of a region on which an operation does not wait. -/
def bslDsts (ops : List Oper) (o : Oper) : List Nat := (ops.zipIdx.filterMap fun (q, j) => match q.op with
  | .buildSlice .. => if (o.after.toList.map (·.on)).contains j then none else q.dst
  | _ => none)

/-- In a region that draws its order, one that appends looks whom it takes the room from, and loads look for owners' marks. -/
def adj (app : Bool) (bs : List Nat) : AOp → AOp
  | .load agg size a => match app with | true => .loadc agg size a | false => .load agg size a
  | .app e b bs' x y => .app e b (bs' ++ bs) x y
  | .mks b e y z l c => .mkf b e y z l c
  | op => op

/-- In the text's order cells may be lent. -/
def adjT : AOp → AOp
  | .call f l => .callm f l
  | .callv x l => .callvm x l
  | .bslice 0 e [] => .bsl0 e
  | op => op

def resOperT (P : Program) (ops : Array Oper) (o : Oper) : AOper := { resOper P ops o with op := adjT (resOper P ops o).op }

def resOperD (P : Program) (ops : Array Oper) (o : Oper) : AOper :=
  { resOper P ops o with op := adj (hasApp ops) (bslDsts ops.toList o) (resOper P ops o).op }

section
variable {P : Program} {R : RE} {N : Nat} {env : Env} {a : Act} {E : RE}

theorem res_call {op : Op} {f : FuncId} {args : List Operand} (h : res P op = .call f args) : ∃ c, op = .call c ∧ c.callee = .value (.func f) ∧ c.args.toList = args := by
  cases op with
  | call c =>
    simp only [res] at h
    split at h
    · rename_i g hc
      injection h with h1 h2
      subst h1
      exact ⟨c, rfl, hc, h2⟩
    all_goals (repeat' split at h) <;> cases h
  | typeAssert x xt t c => cases c <;> simp only [res] at h <;> (repeat' split at h) <;> cases h
  | makeMap t r => cases r <;> simp only [res] at h <;> (repeat' split at h) <;> cases h
  | _ => simp only [res, eqaRes] at h; (repeat' split at h) <;> cases h

theorem res_callv {op : Op} {x : Operand} {args : List Operand} (h : res P op = .callv x args) : ∃ c, op = .call c ∧ c.callee = .value x ∧ c.args.toList = args := by
  cases op with
  | call c =>
    simp only [res] at h
    split at h
    · cases h
    · rename_i g hc
      injection h with h1 h2
      subst h1
      exact ⟨c, rfl, by assumption, h2⟩
    all_goals (repeat' split at h) <;> cases h
  | typeAssert x xt t c => cases c <;> simp only [res] at h <;> (repeat' split at h) <;> cases h
  | makeMap t r => cases r <;> simp only [res] at h <;> (repeat' split at h) <;> cases h
  | _ => simp only [res, eqaRes] at h; (repeat' split at h) <;> cases h

theorem res_callm {op : Op} (f : FuncId) (l : List Operand) : res P op ≠ .callm f l := by
  cases op <;> simp only [res, eqaRes] <;> (repeat' split) <;> simp
theorem res_callvm {op : Op} (f : Operand) (l : List Operand) : res P op ≠ .callvm f l := by
  cases op <;> simp only [res, eqaRes] <;> (repeat' split) <;> simp

theorem res_bsl0 {op : Op} (e : Nat) : res P op ≠ .bsl0 e := by
  cases op <;> simp only [res, eqaRes] <;> (repeat' split) <;> simp

/-- A slice literal in the tables. -/
theorem res_bslice {op : Op} {n esz : Nat} {l : List Operand} (h : res P op = .bslice n esz l) : ∃ t parts e i z, op = .buildSlice t n parts ∧ P.underlying t = some (.slice e) ∧ P.info? e = some i ∧ i.zero = some z ∧ esz = i.size ∧ l = parts.toList.map (·.2) := by
  cases op with
  | buildSlice t n' parts =>
    simp only [res] at h
    split at h
    · rename_i e ht
      split at h
      · rename_i i hi
        split at h
        · rename_i z hz
          split at h
          case isFalse => cases h
          split at h
          case isFalse => cases h
          split at h
          case isFalse => cases h
          injection h with h1 h2 h3
          subst h1
          exact ⟨t, parts, e, i, z, rfl, ht, hi, hz, h2.symm, h3.symm⟩
        · cases h
      · cases h
    · cases h
  | typeAssert x xt t c => cases c <;> simp only [res] at h <;> (repeat' split at h) <;> cases h
  | makeMap t r => cases r <;> simp only [res] at h <;> (repeat' split at h) <;> cases h
  | _ => simp only [res, eqaRes] at h; (repeat' split at h) <;> cases h

/-- A made slice in the tables. -/
theorem res_mks {op : Op} {b : Bool} {esz bytes : Nat} {z : List AV} {l c : Operand} (h : res P op = .mks b esz bytes z l c) : ∃ t e i v, op = .makeSlice t l c ∧ P.underlying t = some (.slice e) ∧ P.info? e = some i ∧ i.zero = some v ∧ v.cells.size = i.size ∧ 0 < i.size ∧
    esz = i.size ∧ bytes = i.bytes ∧ z = v.cells.toList.map ofVal1 := by
  cases op with
  | makeSlice t l' c' =>
    simp only [res] at h
    split at h
    · rename_i e ht
      split at h
      · rename_i i b' hi hb
        split at h
        · rename_i v hv
          split at h
          case isFalse => cases h
          rename_i hvs
          split at h
          case isFalse => cases h
          rename_i hpos
          split at h
          · cases h
          · injection h with h1 h2 h3 h4 h5 h6
            subst h5 h6
            exact ⟨t, e, i, v, rfl, ht, hi, hv, hvs, hpos, h2.symm, h3.symm, h4.symm⟩
        · cases h
      · cases h
    · cases h
  | typeAssert x xt t c => cases c <;> simp only [res] at h <;> (repeat' split at h) <;> cases h
  | makeMap t r => cases r <;> simp only [res] at h <;> (repeat' split at h) <;> cases h
  | _ => simp only [res, eqaRes] at h; (repeat' split at h) <;> cases h

theorem mapO_lower (hI : Inv R N env a E) {m : List (Nat × Nat)} (hm : mOK m = true) {n : Nat} {xs ys : List AV} {vs : List Value} (h : mapO (lowerM m env.c n) xs = some ys) (hr : RepL E xs vs) : RepL (E.lend m) ys vs :=
  mapO_rep (fun x y v hl hr => lower_rep hI hm n hl hr) h hr

theorem ex_call (o : Oper) {c : Call} {f : FuncId} {args : List Operand} (ho : o.op = .call c) (hc : c.callee = .value (.func f)) (hargs : c.args.toList = args) (w : World) : (execOp a.eval o).run P w = (callFunc f (args.map a.eval).toArray).run P w := by
  have : c.args.map a.eval = (args.map a.eval).toArray := by rw [← hargs]; simp [← Array.toList_map]
  simp [execOp, ho, resolve, hc, Act.eval, Deferred.ofValue, invoke, this, Sem.run_bind, Sem.run]

theorem ex_callv (o : Oper) {c : Call} {x : Operand} {f : FuncId} {args : List Operand} {fs cs : List Value} (ho : o.op = .call c) (hc : c.callee = .value x) (hargs : c.args.toList = args) (he : a.eval x = .func (.func f) fs.toArray cs.toArray) (w : World) :
    (execOp a.eval o).run P w = (callFunc f (fs ++ args.map a.eval ++ cs).toArray).run P w := by
  have : c.args.map a.eval = (args.map a.eval).toArray := by rw [← hargs]; simp [← Array.toList_map]
  simp [execOp, ho, resolve, hc, he, Deferred.ofValue, invoke, this, Sem.run_bind, Sem.run]

theorem wp_awOp (hI : Inv R N env a E) (hR : R.Start) {o : Oper} (hd : ∀ k, o.dst = some k → k < N) {g : Option (Nat × Bool)} {KE : Env → Prop} (h : awOp P ⟨o.dst, res P o.op, g⟩ env KE)
    {K : Act → World → Prop} {Q : Exit → Act → World → Prop} (hK : ∀ v E' env', KE env' → Inv R N env' (a.put o.dst v) E' → K (a.put o.dst v) E'.w) : o.wp P a E.w K Q := by
  unfold awOp at h
  simp only at h
  split at h
  · rename_i f args hres
    obtain ⟨as, r, has, hac, hk⟩ := h
    obtain ⟨c, ho, hc, hargs⟩ := res_call hres
    exact wp_callF hI hR (cargs := args.map a.eval) (ex_call o ho hc hargs _) (mapO_lower hI rfl has (hI.evs args)) hac fun v E' hI' hr => hK v E' _ hk (hI'.putO hd hr)
  · rename_i x args hres
    obtain ⟨f, fst, caps, hx, as, r, has, hac, hk⟩ := h
    obtain ⟨c, ho, hc, hargs⟩ := res_callv hres
    have hv := hI.ev x
    rw [hx] at hv
    simp only [Rep] at hv
    obtain ⟨fs, cs, he, h1, h2⟩ := hv
    exact wp_callF hI hR (cargs := fs ++ args.map a.eval ++ cs) (ex_callv o ho hc hargs he _) (mapO_lower hI rfl has ((h1.append (hI.evs args)).append h2)) hac fun v E' hI' hr => hK v E' _ hk (hI'.putO hd hr)
  · rename_i f args hres
    exact absurd hres (res_callm f args)
  · rename_i f args hres
    exact absurd hres (res_callvm f args)
  · rename_i e hres
    exact absurd hres (res_bsl0 e)
  · obtain ⟨env', hs, hk⟩ := h
    exact wp_step hI hR hd hs fun v E' hI' => hK v E' env' hk hI'

theorem wp_awOpT (hI : Inv R N env a E) (hR : R.Start) {o : Oper} (hd : ∀ k, o.dst = some k → k < N) {g : Option (Nat × Bool)} {KE : Env → Prop} (h : awOp P ⟨o.dst, adjT (res P o.op), g⟩ env KE)
    {K : Act → World → Prop} {Q : Exit → Act → World → Prop} (hK : ∀ v E' env', KE env' → Inv R N env' (a.put o.dst v) E' → K (a.put o.dst v) E'.w) : o.wp P a E.w K Q := by
  have other : adjT (res P o.op) = res P o.op → o.wp P a E.w K Q := fun e => by
    rw [e] at h
    exact wp_awOp hI hR hd h hK
  cases hres : res P o.op with
  | call f args =>
    rw [hres] at h
    simp only [adjT, awOp] at h
    obtain ⟨c, ho, hc, hargs⟩ := res_call hres
    rcases h with ⟨as, r, has, hac, hk⟩ | ⟨m, as, c0, r, c1, hm, has, hc0, hac, hk⟩
    · exact wp_callF hI hR (cargs := args.map a.eval) (ex_call o ho hc hargs _) (mapO_lower hI rfl has (hI.evs args)) hac fun v E' hI' hr => hK v E' _ hk (hI'.putO hd hr)
    · exact wp_callM hI hR (cargs := args.map a.eval) hm hc0 (ex_call o ho hc hargs _) (mapO_lower hI hm has (hI.evs args)) hac fun v E' hI' hr => hK v E' _ hk (hI'.putO hd hr)
  | callv x args =>
    rw [hres] at h
    simp only [adjT, awOp] at h
    obtain ⟨f, fst, caps, hx, h⟩ := h
    obtain ⟨c, ho, hc, hargs⟩ := res_callv hres
    have hv := hI.ev x
    rw [hx] at hv
    simp only [Rep] at hv
    obtain ⟨fs, cs, he, h1, h2⟩ := hv
    rcases h with ⟨as, r, has, hac, hk⟩ | ⟨m, as, c0, r, c1, hm, has, hc0, hac, hk⟩
    · exact wp_callF hI hR (cargs := fs ++ args.map a.eval ++ cs) (ex_callv o ho hc hargs he _) (mapO_lower hI rfl has ((h1.append (hI.evs args)).append h2)) hac fun v E' hI' hr => hK v E' _ hk (hI'.putO hd hr)
    · exact wp_callM hI hR (cargs := fs ++ args.map a.eval ++ cs) hm hc0 (ex_callv o ho hc hargs he _) (mapO_lower hI hm has ((h1.append (hI.evs args)).append h2)) hac fun v E' hI' hr => hK v E' _ hk (hI'.putO hd hr)
  | bslice n esz l =>
    by_cases h0 : n = 0 ∧ l = []
    · obtain ⟨rfl, rfl⟩ := h0
      obtain ⟨t, parts, e, i, z, ho, ht, hi, hz, he, hl⟩ := res_bslice hres
      have hp0 : parts.toList = [] := by simpa using hl.symm
      have hp1 : parts = #[] := by rw [← Array.toArray_toList (xs := parts), hp0]
      subst hp1 he
      have h2 := h
      rw [hres] at h2
      simp only [adjT, awOp] at h2
      obtain ⟨d, hdd, h2⟩ := h2
      rcases h2 with h2 | h2
      · refine wp_awOp (KE := KE) (g := g) hI hR hd ?_ hK
        rw [hres]
        exact ⟨_, by simp only [step, hdd, stepBslice, List.map_nil, rowsOf], h2⟩
      · have hK' : ∀ v E', Inv R N (env.put d (.sl (.fr [d]) i.size [])) (a.put (some d) v) E' → K (a.put (some d) v) E'.w := fun v E' hI' => by
          have := hK v E' _ h2 (by rw [hdd]; exact hI')
          rw [hdd] at this
          exact this
        exact wp_bsl0 hI ho hdd (hd d hdd) ht hi hz hK'
    · refine other ?_
      rw [hres]
      cases n with
      | zero => cases l with
        | nil => exact absurd ⟨rfl, rfl⟩ h0
        | cons => rfl
      | succ n => rfl
  | _ => exact other (by rw [hres]; rfl)

/-- Is an operation wanted? -/
theorem wanted_none {o : Oper} {f : Nat → Option Bool} (h : o.guard = none) : Region.wanted o f = true := by simp [Region.wanted, h]

theorem yielded_slot (hI : Inv R N env a E) {ops : Array Oper} {j s : Nat} (hs : (ops[j]?).bind (·.dst) = some s) {t : Value} (ht : env.s s = .lit t) (hsN : s < N) : yielded ops a.tmps j = match t with | .bool b => some b | _ => none := by
  have h := hI.slots s
  rw [ht] at h
  simp only [Rep] at h
  unfold yielded
  rw [hs]
  have hlt : s < a.tmps.size := by rw [hI.size]; exact hsN
  have hs2 : a.tmps[s]? = some t := by
    rw [Array.getElem?_eq_getElem hlt]
    rw [Array.getD_eq_getD_getElem?, Array.getElem?_eq_getElem hlt] at h
    simpa using h
  simp only [Option.bind_some, hs2]
  cases t <;> rfl

/-- One place of a region, its guard looked at. -/
theorem wpOp_aw (hI : Inv R N env a E) (hR : R.Start) {ops : Array Oper} {i : Nat} {o : Oper} (ho : ops[i]? = some o) (hd : ∀ (j : Nat) (o : Oper) (k : Nat), ops[j]? = some o → o.dst = some k → k < N)
    {KE : Env → Prop} (h : match (resOper P ops o).guard with
      | none => awOp P (resOper P ops o) env KE
      | some (s, want) => ∃ t, env.s s = .lit t ∧ (t = .bool want → awOp P (resOper P ops o) env KE) ∧ (t ≠ .bool want → KE (env.putO o.dst (.lit undef))))
    {K : Act → World → Prop} {Q : Exit → Act → World → Prop} (hK : ∀ v E' env', KE env' → Inv R N env' (a.put o.dst v) E' → K (a.put o.dst v) E'.w) : wpOp P ops Q i K a E.w := by
  unfold wpOp
  simp only [ho]
  have hd' : ∀ k, o.dst = some k → k < N := fun k hk => hd i o k ho hk
  unfold resOper at h
  cases hg : o.guard with
  | none =>
    simp only [hg, resGuard] at h
    rw [if_pos (wanted_none hg)]
    exact .inl (wp_awOp hI hR hd' h hK)
  | some p =>
    obtain ⟨j, w⟩ := p
    simp only [hg, resGuard] at h
    cases hs : (ops[j]?).bind (·.dst) with
    | none =>
      simp only [hs] at h
      simp [awOp, step, aval] at h
    | some s =>
      simp only [hs] at h
      obtain ⟨t, ht, h1, h2⟩ := h
      obtain ⟨oj, hoj, hdj⟩ := Option.bind_eq_some_iff.1 hs
      have hy := yielded_slot hI hs ht (hd j oj s hoj hdj)
      by_cases htw : t = .bool w
      · subst htw
        rw [if_pos (by simp [Region.wanted, hg, hy])]
        exact .inl (wp_awOp hI hR hd' (h1 rfl) hK)
      · rw [if_neg (by
          simp only [Region.wanted, hg, hy]
          cases t with
          | bool b => simpa using htw
          | _ => simp)]
        exact hK undef E _ (h2 htw) (hI.putO hd' (by simp only [Rep]))

/-- The same, where cells may be lent. -/
theorem wpOp_awT (hI : Inv R N env a E) (hR : R.Start) {ops : Array Oper} {i : Nat} {o : Oper} (ho : ops[i]? = some o) (hd : ∀ (j : Nat) (o : Oper) (k : Nat), ops[j]? = some o → o.dst = some k → k < N)
    {KE : Env → Prop} (h : match (resOperT P ops o).guard with
      | none => awOp P (resOperT P ops o) env KE
      | some (s, want) => ∃ t, env.s s = .lit t ∧ (t = .bool want → awOp P (resOperT P ops o) env KE) ∧ (t ≠ .bool want → KE (env.putO o.dst (.lit undef))))
    {K : Act → World → Prop} {Q : Exit → Act → World → Prop} (hK : ∀ v E' env', KE env' → Inv R N env' (a.put o.dst v) E' → K (a.put o.dst v) E'.w) : wpOp P ops Q i K a E.w := by
  unfold wpOp
  simp only [ho]
  have hd' : ∀ k, o.dst = some k → k < N := fun k hk => hd i o k ho hk
  unfold resOperT resOper at h
  cases hg : o.guard with
  | none =>
    simp only [hg, resGuard] at h
    rw [if_pos (wanted_none hg)]
    exact .inl (wp_awOpT hI hR hd' h hK)
  | some p =>
    obtain ⟨j, w⟩ := p
    simp only [hg, resGuard] at h
    cases hs : (ops[j]?).bind (·.dst) with
    | none =>
      simp only [hs] at h
      simp [adjT, awOp, step, aval] at h
    | some s =>
      simp only [hs] at h
      obtain ⟨t, ht, h1, h2⟩ := h
      obtain ⟨oj, hoj, hdj⟩ := Option.bind_eq_some_iff.1 hs
      have hy := yielded_slot hI hs ht (hd j oj s hoj hdj)
      by_cases htw : t = .bool w
      · subst htw
        rw [if_pos (by simp [Region.wanted, hg, hy])]
        exact .inl (wp_awOpT hI hR hd' (h1 rfl) hK)
      · rw [if_neg (by
          simp only [Region.wanted, hg, hy]
          cases t with
          | bool b => simpa using htw
          | _ => simp)]
        exact hK undef E _ (h2 htw) (hI.putO hd' (by simp only [Rep]))

theorem chkTok_some {x : Option AV} {y : AV} (h : chkTok x = some y) : x = some y ∧ tokFree y = true := by
  unfold chkTok at h
  split at h
  · split at h
    · rename_i ht
      injection h with h
      subst h
      exact ⟨rfl, ht⟩
    · cases h
  · cases h

theorem okBs_app {a b : List Nat} {v : AV} (h : okBs (a ++ b) v = true) : okBs a v = true := by
  unfold okBs at h ⊢
  split at h
  · simp only [List.all_append, Bool.and_eq_true] at h
    exact h.1
  · simp only [List.all_append, Bool.and_eq_true] at h
    exact h.1
  · exact h

theorem loadc_load {agg : Bool} {size : Nat} {p : Operand} {x : AV} (h : aval env (.loadc agg size p) = some x) : aval env (.load agg size p) = some x := by
  simp only [aval] at h ⊢
  split at h
  · exact (chkTok_some h).1
  · exact (chkTok_some h).1
  · exact h
  · cases h

theorem awOp_adj {app : Bool} {bs : List Nat} {d : Option Nat} {op : AOp} {g : Option (Nat × Bool)} {K : Env → Prop} (hop : ∀ b e y z l c, op ≠ .mks b e y z l c) (h : awOp P ⟨d, adj app bs op, g⟩ env K) : awOp P ⟨d, op, g⟩ env K := by
  cases op with
  | mks b e y z l c => exact absurd rfl (hop b e y z l c)
  | load agg size p =>
    cases app with
    | false => exact h
    | true =>
      obtain ⟨E', hs0, hk⟩ := h
      have hs : step d (.loadc agg size p) env = some E' := hs0
      refine ⟨E', ?_, hk⟩
      show step d (.load agg size p) env = some E'
      cases hv : env.ev p with
      | gp g =>
        simp only [step, hv] at hs ⊢
        exact hs
      | _ =>
        simp only [step, hv] at hs ⊢
        cases hx : aval env (.loadc agg size p) with
        | none => rw [hx] at hs; cases hs
        | some x =>
          rw [hx] at hs
          rw [loadc_load hx]
          exact hs
  | app e b bs' x y =>
    simp only [adj] at h
    obtain ⟨E', hs, hk⟩ := h
    refine ⟨E', ?_, hk⟩
    simp only [step] at hs ⊢
    split at hs
    · split at hs
      · rename_i hb
        rw [if_pos (okBs_app hb)]
        exact hs
      · cases hs
    · cases hs
  | _ => exact h

theorem wp_awOpD (hI : Inv R N env a E) (hR : R.Start) {o : Oper} (hd : ∀ k, o.dst = some k → k < N) {app : Bool} {bs : List Nat} {g : Option (Nat × Bool)} {KE : Env → Prop} (h : awOp P ⟨o.dst, adj app bs (res P o.op), g⟩ env KE)
    {K : Act → World → Prop} {Q : Exit → Act → World → Prop} (hK : ∀ v E' env', KE env' → Inv R N env' (a.put o.dst v) E' → K (a.put o.dst v) E'.w) : o.wp P a E.w K Q := by
  by_cases hm : ∃ b e y z l c, res P o.op = .mks b e y z l c
  · obtain ⟨b, e, y, z, l, c, hres⟩ := hm
    obtain ⟨t, ty, i, v, ho, ht, hi, hv, hvs, hpos, rfl, rfl, rfl⟩ := res_mks hres
    rw [hres] at h
    simp only [adj, awOp, step] at h
    obtain ⟨E', hs, hk⟩ := h
    split at hs
    · rename_i d hdd
      refine wp_mkf hI ho hdd (hd d hdd) ht hi hv hvs hpos hs fun v E1 hI' => ?_
      have := hK v E1 _ hk (by rw [hdd]; exact hI')
      rw [hdd] at this
      exact this
    · cases hs
  · exact wp_awOp hI hR hd (awOp_adj (fun b e y z l c hres => hm ⟨b, e, y, z, l, c, hres⟩) h) hK

/-- The same, looked at with care. -/
theorem wpOp_awD (hI : Inv R N env a E) (hR : R.Start) {ops : Array Oper} {i : Nat} {o : Oper} (ho : ops[i]? = some o) (hd : ∀ (j : Nat) (o : Oper) (k : Nat), ops[j]? = some o → o.dst = some k → k < N)
    {KE : Env → Prop} (h : match (resOperD P ops o).guard with
      | none => awOp P (resOperD P ops o) env KE
      | some (s, want) => ∃ t, env.s s = .lit t ∧ (t = .bool want → awOp P (resOperD P ops o) env KE) ∧ (t ≠ .bool want → KE (env.putO o.dst (.lit undef))))
    {K : Act → World → Prop} {Q : Exit → Act → World → Prop} (hK : ∀ v E' env', KE env' → Inv R N env' (a.put o.dst v) E' → K (a.put o.dst v) E'.w) : wpOp P ops Q i K a E.w := by
  unfold wpOp
  simp only [ho]
  have hd' : ∀ k, o.dst = some k → k < N := fun k hk => hd i o k ho hk
  unfold resOperD resOper at h
  cases hg : o.guard with
  | none =>
    simp only [hg, resGuard] at h
    rw [if_pos (wanted_none hg)]
    exact .inl (wp_awOpD hI hR hd' h hK)
  | some p =>
    obtain ⟨j, w⟩ := p
    simp only [hg, resGuard] at h
    cases hs : (ops[j]?).bind (·.dst) with
    | none =>
      simp only [hs] at h
      simp [adj, awOp, step, aval] at h
    | some s =>
      simp only [hs] at h
      obtain ⟨t, ht, h1, h2⟩ := h
      obtain ⟨oj, hoj, hdj⟩ := Option.bind_eq_some_iff.1 hs
      have hy := yielded_slot hI hs ht (hd j oj s hoj hdj)
      by_cases htw : t = .bool w
      · subst htw
        rw [if_pos (by simp [Region.wanted, hg, hy])]
        exact .inl (wp_awOpD hI hR hd' (h1 rfl) hK)
      · rw [if_neg (by
          simp only [Region.wanted, hg, hy]
          cases t with
          | bool b => simpa using htw
          | _ => simp)]
        exact hK undef E _ (h2 htw) (hI.putO hd' (by simp only [Rep]))

theorem wpOps_aw (hR : R.Start) {ops : Array Oper} (hd : ∀ (j : Nat) (o : Oper) (k : Nat), ops[j]? = some o → o.dst = some k → k < N) {KE : Env → Prop} {Q : Exit → Act → World → Prop}
    (hQ : ∀ a' E' env', KE env' → Inv R N env' a' E' → Q .normal a' E'.w) :
    ∀ (l : List Nat) (env : Env) (a : Act) (E : RE), Inv R N env a E → (∀ i ∈ l, i < ops.size) → awOps P (l.filterMap fun i => (ops[i]?).map (resOperT P ops)) env KE → wpOps P ops Q l a E.w
  | [], env, a, E, hI, _, h => by
    simp only [List.filterMap_nil, awOps] at h
    exact hQ a E env h hI
  | i :: l, env, a, E, hI, hl, h => by
    have hi : i < ops.size := hl i (by simp)
    have ho : ops[i]? = some ops[i] := Array.getElem?_eq_getElem hi
    rw [wpOps_cons]
    rw [List.filterMap_cons, ho] at h
    simp only [Option.map_some] at h
    refine wpOp_awT hI hR ho hd (KE := fun env' => awOps P (l.filterMap fun i => (ops[i]?).map (resOperT P ops)) env' KE) ?_ fun v E' env' hk hI' => wpOps_aw hR hd hQ l env' _ E' hI' (fun j hj => hl j (by simp [hj])) hk
    have hdst : (resOperT P ops ops[i]).dst = ops[i].dst := by
      show (resOper P ops ops[i]).dst = _
      unfold resOper; split <;> rfl
    simp only [awOps, hdst] at h
    split <;> rename_i hg <;> rw [hg] at h <;> exact h

theorem filterMap_range' {α β : Type} (f : α → β) : ∀ (l pre : List α), (List.range' pre.length l.length).filterMap (fun i => ((pre ++ l)[i]?).map f) = l.map f
  | [], pre => by simp
  | x :: l, pre => by
    have ih := filterMap_range' f l (pre ++ [x])
    simp only [List.length_cons, List.range'_succ, List.filterMap_cons]
    simp only [List.length_append, List.length_cons, List.length_nil, Nat.zero_add, List.append_assoc, List.cons_append, List.nil_append] at ih
    simp [ih]

theorem filterMap_range {α β : Type} (xs : Array α) (f : α → β) : (List.range xs.size).filterMap (fun i => (xs[i]?).map f) = xs.toList.map f := by
  have h := filterMap_range' f xs.toList []
  simp only [List.length_nil, List.nil_append, Array.length_toList] at h
  rw [List.range_eq_range']
  simpa using h

/-- A region in the text's order. -/
theorem wp_region_aw (hI : Inv R N env a E) (hR : R.Start) {id : Nat} {ops : Array Oper} (hd : ∀ (j : Nat) (o : Oper) (k : Nat), ops[j]? = some o → o.dst = some k → k < N) {KE : Env → Prop} {Q : Exit → Act → World → Prop}
    (h : awOps P (ops.toList.map (resOperT P ops)) env KE) (hQ : ∀ a' E' env', KE env' → Inv R N env' a' E' → Q .normal a' E'.w) : (Code.region id ops false).wp P Q a E.w := by
  refine wp_region (wpOps_aw hR hd hQ _ env a E hI (fun i hi => List.mem_range.1 hi) ?_)
  rw [filterMap_range]
  exact h

end
end Go.Proofs.Ytmjmfollimaleaa.VL
