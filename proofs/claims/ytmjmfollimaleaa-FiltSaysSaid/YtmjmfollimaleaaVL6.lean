/- The value logic, part 6: addresses, parts, slices. -/
import Derived.Test.YtmjmfollimaleaaVL5
set_option linter.unusedVariables false
set_option linter.unusedSimpArgs false
namespace Go.Proofs.Ytmjmfollimaleaa.VL
open Go.RowKit

section
variable {P : Program} {R : RE} {N : Nat} {env : Env} {a : Act} {E : RE}

theorem At.shift {w : World} {S : Nat → Nat → Prop} {vs : List Value} {b o : Nat} (h : At w S vs b o) (n k : Nat) : At w S ((vs.drop n).take k) b (o + n) := by
  intro j u hj
  rw [List.getElem?_take] at hj
  split at hj
  · rw [List.getElem?_drop] at hj
    have := h (n + j) u hj
    rw [← Nat.add_assoc] at this
    exact this
  · cases hj

theorem val_faddr (hI : Inv R N env a E) {o : Oper} {t : TypeId} {f : Nat} {y : Operand} (ho : o.op = .fieldAddr t y f) {x : AV} (h : aval env (res P (.fieldAddr t y f)) = some x) : ValOK P E a o x := by
  simp only [res] at h
  split at h
  · rename_i fs hfs
    split at h
    · rename_i fd hf
      split at h
      · rename_i i hi
        split at h
        · simp [aval] at h
        rename_i hsz
        have hy := hI.ev y
        have run : ∀ ad : Addr, a.eval y = .pointer (some ad) → (execOp a.eval o).run P E.w = .ok (.value (.pointer (some (ad.add fd.offset)))) E.w := by
          intro ad he
          simp [execOp, ho, he, Instr.fieldAt, Instr.sureAddr, Sem.run_bind, run_underlying_eq hfs, hf, fieldPlace, run_sizeOf hi, hsz, Sem.run]
        simp only [aval] at h
        split at h
        · rename_i cs hc
          rw [hc] at hy
          simp only [Rep] at hy
          obtain ⟨bl, off, vs, he, hr, hat⟩ := hy
          split at h
          · injection h with h
            subst h
            refine ⟨_, run _ he, ?_⟩
            simp only [Rep, Addr.add_lit]
            exact ⟨bl, off + fd.offset, _, rfl, (hr.drop fd.offset).take i.size, hat.shift _ _⟩
          · cases h
        · rename_i cs hc
          rw [hc] at hy
          simp only [Rep] at hy
          obtain ⟨bl, off, vs, he, hr, hat⟩ := hy
          split at h
          · injection h with h
            subst h
            refine ⟨_, run _ he, ?_⟩
            simp only [Rep, Addr.add_lit]
            exact ⟨bl, off + fd.offset, _, rfl, (hr.drop fd.offset).take i.size, hat.shift _ _⟩
          · cases h
        · rename_i c off hc
          rw [hc] at hy
          simp only [Rep] at hy
          obtain ⟨bl, hl, he⟩ := hy
          injection h with h
          subst h
          refine ⟨_, run _ he, ?_⟩
          simp only [Rep, Addr.add_lit]
          exact ⟨bl, hl, rfl⟩
        · cases h
      · simp [aval] at h
    · simp [aval] at h
  · simp [aval] at h

theorem run_part {t : TypeId} {b : Bool} {i : TypeInfo} (hb : isAggB P t = some b) (hi : P.info? t = some i) {w : World} {vs : List Value} {off : Nat} {E : RE} {cs : List AV} (hr : RepL E cs vs) {x : AV}
    (hx : aval.ld b i.size (cs.drop off) = some x) : ∃ v, (part t vs.toArray off).run P w = .ok v w ∧ Rep E x v := by
  unfold part
  have hr' := hr.drop off
  cases b with
  | true =>
    simp only [aval.ld] at hx
    split at hx
    · rename_i hle
      injection hx with hx
      subst hx
      refine ⟨.agg ((vs.drop off).take i.size).toArray, ?_, ?_⟩
      · simp [Sem.run_bind, run_isAgg hb, run_sizeOf hi, Sem.run]
      · simp only [Rep]
        exact ⟨_, rfl, hr'.take _⟩
    · cases hx
  | false =>
    simp only [aval.ld] at hx
    obtain ⟨v, hv, hrep⟩ := hr'.get 0 hx
    refine ⟨v, ?_, hrep⟩
    rw [List.getElem?_drop] at hv
    simp only [Nat.add_zero] at hv
    simp [Sem.run_bind, run_isAgg hb, hv, Sem.run]

theorem val_fld (hI : Inv R N env a E) {o : Oper} {t : TypeId} {f : Nat} {y : Operand} (ho : o.op = .field t y f) {x : AV} (h : aval env (res P (.field t y f)) = some x) : ValOK P E a o x := by
  simp only [res] at h
  split at h
  · rename_i fs hfs
    split at h
    · rename_i fd hf
      split at h
      · rename_i i b hi hb
        have hy := hI.ev y
        simp only [aval] at h
        split at h
        · rename_i cs hc
          rw [hc] at hy
          simp only [Rep] at hy
          obtain ⟨vs, he, hr⟩ := hy
          obtain ⟨v, hv, hrep⟩ := run_part (P := P) (w := E.w) hb hi hr h
          refine ⟨v, ?_, hrep⟩
          simp [execOp, ho, he, Instr.field, asAgg, Sem.run_bind, run_underlying_eq hfs, hf, hv, Sem.run]
        · cases h
      · simp [aval] at h
    · simp [aval] at h
  · simp [aval] at h

theorem flat_length {vs : List Value} {e : Nat} (h : ∀ u ∈ vs, u.cells.size = e) : (flat vs).length = vs.length * e := by
  induction vs with
  | nil => simp [flat]
  | cons v vs ih =>
    have h1 := ih fun u hu => h u (by simp [hu])
    unfold flat at h1 ⊢
    rw [List.flatMap_cons, List.length_append, h1, List.length_cons, Nat.add_mul, Nat.one_mul]
    have := h v (by simp)
    simp [this]
    omega

theorem flat_row {vs : List Value} {e : Nat} (h : ∀ u ∈ vs, u.cells.size = e) (n : Nat) (v : Value) (hv : vs[n]? = some v) : ((flat vs).drop (n * e)).take e = v.cells.toList := by
  induction vs generalizing n with
  | nil => simp at hv
  | cons u vs ih =>
    have hu := h u (by simp)
    have hfl : flat (u :: vs) = u.cells.toList ++ flat vs := by simp [flat]
    rw [hfl]
    cases n with
    | zero =>
      simp at hv
      subst hv
      simp [← hu]
    | succ n =>
      have := ih (fun z hz => h z (by simp [hz])) n (by simpa using hv)
      rw [List.drop_append]
      have he : (n + 1) * e = e + n * e := by rw [Nat.add_mul]; omega
      rw [he, List.drop_of_length_le (by simp [hu]), List.nil_append]
      simp only [Array.length_toList, hu, Nat.add_sub_cancel_left]
      exact this

/-- What a row's slices say of one element. -/
theorem at_row {w : World} {S : Nat → Nat → Prop} {vs : List Value} {e b o : Nat} (hat : At w S (flat vs) b o) (he : ∀ u ∈ vs, u.cells.size = e) {n : Nat} {v : Value} (hv : vs[n]? = some v) :
    At w S v.cells.toList b (o + n * e) := by
  rw [← flat_row he n v hv]
  exact hat.shift _ _

theorem row_or {x : AV} (h : x.row = true) : x.one = true ∨ ∃ cs, x = .agg cs := by
  cases x <;> first | exact .inr ⟨_, rfl⟩ | exact .inl h

theorem val_iadra (hI : Inv R N env a E) {o : Oper} {t e : TypeId} {n : Nat} {i : TypeInfo} {y z : Operand} (ho : o.op = .indexAddr t y z) (ht : P.underlying t = some (.array n e)) (hi : P.info? e = some i) {x : AV} (h : aval env (.iadra n i.size y z) = some x) : ValOK P E a o x := by
  have hy := hI.ev y
  have hz := hI.ev z
  simp only [aval] at h
  split at h
  case h_2 => cases h
  rename_i kk k hzv
  rw [hzv] at hz
  simp only [Rep] at hz
  split at h
  case isFalse => cases h
  rename_i hk
  have run : ∀ ad : Addr, a.eval y = .pointer (some ad) → (execOp a.eval o).run P E.w = .ok (.value (.pointer (some (ad.add (k.toNat * i.size))))) E.w := by
    intro ad he
    simp [execOp, ho, he, hz, Instr.indexAt, Instr.sureAddr, asIntOf, Sem.run_bind, run_underlying_eq ht, hk.1, hk.2, run_sizeOf hi, Sem.run]
  split at h
  · rename_i cs hc
    rw [hc] at hy
    simp only [Rep] at hy
    obtain ⟨bl, off, vs, he, hr, hat⟩ := hy
    split at h
    · injection h with h
      subst h
      refine ⟨_, run _ he, ?_⟩
      simp only [Rep, Addr.add_lit]
      exact ⟨bl, off + k.toNat * i.size, _, rfl, (hr.drop _).take _, hat.shift _ _⟩
    · cases h
  · rename_i cs hc
    rw [hc] at hy
    simp only [Rep] at hy
    obtain ⟨bl, off, vs, he, hr, hat⟩ := hy
    split at h
    · injection h with h
      subst h
      refine ⟨_, run _ he, ?_⟩
      simp only [Rep, Addr.add_lit]
      exact ⟨bl, off + k.toNat * i.size, _, rfl, (hr.drop _).take _, hat.shift _ _⟩
    · cases h
  · rename_i c off hc
    rw [hc] at hy
    simp only [Rep] at hy
    obtain ⟨bl, hl, he⟩ := hy
    injection h with h
    subst h
    refine ⟨_, run _ he, ?_⟩
    simp only [Rep, Addr.add_lit]
    exact ⟨bl, hl, rfl⟩
  · cases h

theorem val_idxa (hI : Inv R N env a E) {o : Oper} {t e : TypeId} {n : Nat} {i : TypeInfo} {b : Bool} {y z : Operand} (ho : o.op = .index t y z) (ht : P.underlying t = some (.array n e)) (hi : P.info? e = some i) (hb : isAggB P e = some b) {x : AV} (h : aval env (.idxa b n i.size y z) = some x) : ValOK P E a o x := by
  have hy := hI.ev y
  have hz := hI.ev z
  simp only [aval] at h
  split at h
  case h_2 => cases h
  rename_i kk k hzv
  rw [hzv] at hz
  simp only [Rep] at hz
  split at h
  case isFalse => cases h
  rename_i hk
  split at h
  case h_2 => cases h
  rename_i cs hc
  rw [hc] at hy
  simp only [Rep] at hy
  obtain ⟨vs, he, hr⟩ := hy
  obtain ⟨v, hv, hrep⟩ := run_part (P := P) (w := E.w) hb hi hr h
  refine ⟨v, ?_, hrep⟩
  simp [execOp, ho, he, hz, Instr.index, asIntOf, Sem.run_bind, run_underlying_eq ht, hk.1, hk.2, run_sizeOf hi, hv, Sem.run]

theorem val_iaddr (hI : Inv R N env a E) {o : Oper} {t : TypeId} {y z : Operand} (ho : o.op = .indexAddr t y z) {x : AV} (h : aval env (res P (.indexAddr t y z)) = some x) : ValOK P E a o x := by
  simp only [res] at h
  split at h
  · rename_i e ht
    split at h
    · rename_i i hi
      have hy := hI.ev y
      have hz := hI.ev z
      simp only [aval] at h
      split at h
      · rename_i tk es rows k n h1 h2
        rw [h1] at hy
        rw [h2] at hz
        simp only [Rep] at hy hz
        obtain ⟨A, cap, vs, he, hcap, hr, hes, hone, htk⟩ := hy
        split at h
        · rename_i h0
          split at h
          · rename_i r hrow
            split at h
            case isFalse => cases h
            rename_i huq
            split at h
            · rename_i hrw
              split at h
              · rename_i hesz'
                injection h with h
                have hlt : n.toNat < rows.length := (List.getElem?_eq_some_iff.1 hrow).1
                have hne : rows ≠ [] := fun e => by rw [e] at hlt; simp at hlt
                obtain ⟨v, hv, hrep⟩ := hr.get n.toNat hrow
                have hsz : v.cells.size = es := hes v (List.mem_of_getElem? hv)
                have hcl : RepL E.closed (cellsOf r) v.cells.toList := rep_cells hrep (row_or hrw)
                have hesz : i.size = es := hesz'.symm
                have run : ∀ b o', A = some ⟨b, o', none⟩ → (execOp a.eval o).run P E.w = .ok (.value (.pointer (some ⟨b, o' + n.toNat * es, none⟩))) E.w := by
                  intro b o' hA
                  have hn : n < (rows.length : Int) := by omega
                  simp [execOp, ho, he, hz, hA, Instr.indexAt, asIntOf, Sem.run_bind, run_underlying_eq ht, h0, hn, run_sizeOf hi, hesz, Sem.run, Addr.add_lit]
                subst h
                cases tk with
                | none =>
                  obtain ⟨b, o', hA, hat⟩ := htk hne
                  refine ⟨_, run b o' hA, ?_⟩
                  simp only [Rep]
                  exact ⟨b, o' + n.toNat * es, _, rfl, hcl, at_row hat hes hv⟩
                | bor =>
                  obtain ⟨b, o', hA, hat⟩ := htk hne
                  refine ⟨_, run b o' hA, ?_⟩
                  simp only [Rep]
                  exact ⟨b, o' + n.toNat * es, _, rfl, hcl.mono (Ext.closed_bor E), at_row hat hes hv⟩
                | nil =>
                  obtain ⟨hA, hc0⟩ := htk
                  omega
                | own τ =>
                  rcases htk with ⟨hA, hc0⟩ | ⟨g, cur, ty, hA, hat, _⟩
                  · omega
                  refine ⟨_, run g 0 hA, ?_⟩
                  simp only [Rep]
                  exact ⟨g, 0 + n.toNat * es, _, rfl, hcl, at_row hat hes hv⟩
                | fr τ => simp [frB] at huq
                | gone => simp [frB] at huq
              · cases h
            · cases h
          · cases h
        · cases h
      · rename_i c off len cap g es k n h1 h2
        rw [h1] at hy
        rw [h2] at hz
        simp only [Rep] at hy hz
        obtain ⟨b, hb, he⟩ := hy
        split at h
        · rename_i hn
          split at h
          · rename_i hes
            injection h with h
            subst h
            refine ⟨.pointer (some ⟨b, off + n.toNat * es, none⟩), ?_, by simp only [Rep]; exact ⟨b, hb, rfl⟩⟩
            simp [execOp, ho, he, hz, Instr.indexAt, asIntOf, Sem.run_bind, run_underlying_eq ht, hn.1, hn.2, run_sizeOf hi, hes.symm, Sem.run, Addr.add_lit]
          · cases h
        · cases h
      · cases h
    · simp [aval] at h
  · rename_i n e ht
    split at h
    · rename_i i hi
      exact val_iadra hI ho ht hi h
    · simp [aval] at h
  · simp [aval] at h

theorem val_idxs (hI : Inv R N env a E) {o : Oper} {t : TypeId} {y z : Operand} (ho : o.op = .index t y z) (ht : P.underlying t = some .string) {x : AV} (h : aval env (.idxs y z) = some x) : ValOK P E a o x := by
  have hy := hI.ev y
  have hz := hI.ev z
  simp only [aval] at h
  split at h
  · rename_i s k n h1 h2
    rw [h1] at hy
    rw [h2] at hz
    simp only [Rep] at hy hz
    split at h
    · rename_i h0
      split at h
      · rename_i b hb
        injection h with h
        subst h
        refine ⟨.int .u8 b.toNat, ?_, by simp only [Rep]⟩
        simp [execOp, ho, hy, hz, Instr.index, asIntOf, Sem.run_bind, run_underlying_eq ht, h0, hb, Sem.run]
      · cases h
    · cases h
  · cases h

theorem litOf_rep : ∀ {xs : List AV} {vs ws : List Value}, xs.mapM aval.litOf = some ws → RepL E xs vs → vs = ws
  | [], vs, ws, h, hr => by
    simp at h
    simp only [RepL] at hr
    rw [hr, h]
  | x :: xs, vs, ws, h, hr => by
    rw [List.mapM_cons] at h
    simp only [RepL] at hr
    obtain ⟨v, us, rfl, h1, h2⟩ := hr
    cases hx : aval.litOf x with
    | none => simp [hx] at h
    | some u =>
      cases hxs : xs.mapM aval.litOf with
      | none => simp [hx, hxs] at h
      | some us' =>
        simp [hx, hxs] at h
        subst h
        cases x <;> simp only [aval.litOf] at hx <;> first | (cases hx; done) | skip
        injection hx with hx
        subst hx
        simp only [Rep] at h1
        subst h1
        rw [litOf_rep hxs h2]

theorem val_mnmx (hI : Inv R N env a E) {o : Oper} {c : Call} {mx : Bool} (ho : o.op = .call c) (hc : c.callee = .builtin (if mx then .max else .min)) {x : AV} (h : aval env (.mnmx mx c.args.toList) = some x) : ValOK P E a o x := by
  simp only [aval] at h
  split at h
  · rename_i vs hvs
    split at h
    · rename_i r hr
      injection h with h
      subst h
      have := litOf_rep hvs (hI.evs c.args.toList)
      have harr : c.args.map a.eval = vs.toArray := by rw [← this]; simp [← Array.toList_map]
      refine ⟨r, ?_, by simp only [Rep]⟩
      cases mx
      · simp only [Bool.false_eq_true, if_false] at hc hr
        have hr' : p0 (Builtin.min_ c.argTypes o.type vs.toArray) = some r := hr
        simp [execOp, ho, hc, harr, resolve, invoke, builtin, Sem.run_bind, p0_run hr', Sem.run]
      · simp only [if_true] at hc hr
        have hr' : p0 (Builtin.max_ c.argTypes o.type vs.toArray) = some r := hr
        simp [execOp, ho, hc, harr, resolve, invoke, builtin, Sem.run_bind, p0_run hr', Sem.run]
    · cases h
  · cases h

end
end Go.Proofs.Ytmjmfollimaleaa.VL
