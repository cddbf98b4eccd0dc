/- The value logic: what compares, what asks for a dynamic type, what makes a string of bytes. -/
import Derived.Test.YtmjmfollimaleaaVL12
import Derived.Laws.StructEq
import Derived.Laws.BytesString
import Derived.ChangeKeysEq
import Derived.LaidEql
set_option linter.unusedVariables false
set_option linter.unusedSimpArgs false
namespace Go.Proofs.Ytmjmfollimaleaa.VL
open Go.RowKit

section
variable {P : Program} {R : RE} {N : Nat} {env : Env} {a : Act} {E : RE}

def eqV1 : CK → Value → Value → Option Bool
  | .int, .int k a, .int k' b => if k = k' then some (a == b) else none
  | .bool, .bool a, .bool b => some (a == b)
  | .str, .string a, .string b => some (a == b)
  | _, _, _ => none
def eqVals : List CK → List Value → List Value → Option Bool
  | [], [], [] => some true
  | k :: ks, x :: xs, y :: ys => match eqV1 k x y with
    | some a => match eqVals ks xs ys with
      | some b => some (a && b)
      | none => none
    | none => none
  | _, _, _ => none

theorem eq1_vals {k : CK} {x y : AV} {u v : Value} {E : RE} {r : Bool} (h : eq1 k x y = some r) (hx : Rep E x u) (hy : Rep E y v) : eqV1 k u v = some r := by
  unfold eq1 at h
  split at h
  · split at h
    · rename_i hk
      simp only [Rep] at hx hy
      subst hx hy
      simpa only [eqV1, if_pos hk] using h
    · cases h
  · simp only [Rep] at hx hy
    subst hx hy
    simpa only [eqV1] using h
  · simp only [Rep] at hx hy
    subst hx hy
    simpa only [eqV1] using h
  · cases h

theorem eqCells_vals {E : RE} : ∀ {ks : List CK} {xs ys : List AV} {us vs : List Value} {r : Bool}, eqCells ks xs ys = some r → RepL E xs us → RepL E ys vs → eqVals ks us vs = some r
  | [], [], [], us, vs, r, h, hx, hy => by
    simp only [RepL] at hx hy
    subst hx hy
    simpa only [eqVals, eqCells] using h
  | k :: ks, x :: xs, y :: ys, us, vs, r, h, hx, hy => by
    simp only [RepL] at hx hy
    obtain ⟨u, us, rfl, hx1, hx2⟩ := hx
    obtain ⟨v, vs, rfl, hy1, hy2⟩ := hy
    simp only [eqCells] at h
    split at h
    · rename_i p hp
      split at h
      · rename_i q hq
        simp only [eqVals, eq1_vals hp hx1 hy1, eqCells_vals hq hx2 hy2]
        exact h
      · cases h
    · cases h
  | [], [], _ :: _, _, _, _, h, _, _ => by simp [eqCells] at h
  | [], _ :: _, _, _, _, _, h, _, _ => by simp [eqCells] at h
  | _ :: _, [], _, _, _, _, h, _, _ => by simp [eqCells] at h
  | _ :: _, _ :: _, [], _, _, _, h, _, _ => by simp [eqCells] at h

theorem ck_info {t : TypeId} {k : CK} (h : ckOf P t = some k) : ∃ i, P.info? t = some i ∧ i.size = 1 ∧ P.cellsOf t = 1 ∧ isAggB P t = some false ∧
    match k with
    | .int => ∃ q, P.underlying t = some (.int q)
    | .bool => P.underlying t = some .bool
    | .str => P.underlying t = some .string := by
  unfold ckOf at h
  split at h
  · rename_i i hi
    split at h
    · rename_i hs
      have hc : P.cellsOf t = 1 := by simp [Program.cellsOf, hi, hs]
      split at h
      · rename_i q hq
        injection h with h
        subst h
        exact ⟨i, hi, hs, hc, by simp [isAggB, hq], q, hq⟩
      · rename_i hq
        injection h with h
        subst h
        exact ⟨i, hi, hs, hc, by simp [isAggB, hq], hq⟩
      · rename_i hq
        injection h with h
        subst h
        exact ⟨i, hi, hs, hc, by simp [isAggB, hq], hq⟩
      · cases h
    · cases h
  · cases h

theorem run_part1 {t : TypeId} {k : CK} (h : ckOf P t = some k) (w : World) (us : List Value) (off : Nat) {u : Value} (hu : us[off]? = some u) : (part t us.toArray off).run P w = .ok u w := by
  obtain ⟨i, hi, hs, _, hb, _⟩ := ck_info h
  simp [part, Sem.run_bind, run_isAgg hb, hu, Sem.run]

theorem run_eq1 {t : TypeId} {k : CK} (h : ckOf P t = some k) (w : World) (d : Nat) {u v : Value} {r : Bool} (he : eqV1 k u v = some r) : (Op.equalIn (d + 1) t u v).run P w = .ok r w := by
  obtain ⟨i, hi, hs, _, hb, hk⟩ := ck_info h
  unfold eqV1 at he
  split at he
  · obtain ⟨q, hq⟩ := hk
    split at he
    · rename_i a k' b e
      injection he with he
      subst e he
      exact run_equalIn_int w d t _ q _ _ hq
    · cases he
  · injection he with he
    subst he
    exact run_equalIn_bool w d t _ _ hk
  · injection he with he
    subst he
    rw [run_equalIn_string w d t _ _ hk, beq_toListBytes]
  · cases he

theorem run_eqFields_plan (w : World) (d : Nat) (us vs : List Value) : ∀ (fs : List Field) (ks : List CK) (k : Nat) {r : Bool}, fs.map (·.offset) = List.range' k fs.length → (fs.all fun f => f.name ≠ "_") = true →
    eqPlan.mapCK P (fs.map (·.type)) = some ks → eqVals ks (us.drop k) (vs.drop k) = some r → (Op.eqFields (d + 1) us.toArray vs.toArray fs).run P w = .ok r w
  | [], ks, k, r, _, _, hks, hr => by
    simp only [List.map_nil, eqPlan.mapCK] at hks
    injection hks with hks
    subst hks
    unfold eqVals at hr
    split at hr
    · injection hr with hr
      subst hr
      simp [Op.eqFields]
    · rename_i h1 h2 h3; cases h1
    · cases hr
  | f :: fs, ks, k, r, ho, hn, hks, hr => by
    simp only [List.map_cons, List.length_cons, List.range'_succ, List.cons.injEq] at ho
    simp only [List.all_cons, Bool.and_eq_true] at hn
    simp only [List.map_cons, eqPlan.mapCK] at hks
    split at hks
    · rename_i c hc
      split at hks
      · rename_i cs hcs
        injection hks with hks
        subst hks
        cases hud : us.drop k with
        | nil => rw [hud] at hr; simp [eqVals] at hr
        | cons u us' =>
          cases hvd : vs.drop k with
          | nil => rw [hud, hvd] at hr; simp [eqVals] at hr
          | cons v vs' =>
            rw [hud, hvd] at hr
            simp only [eqVals] at hr
            have hu : us[k]? = some u := by
              have := List.getElem?_drop (xs := us) (i := k) (j := 0)
              rw [hud] at this
              simpa using this.symm
            have hv : vs[k]? = some v := by
              have := List.getElem?_drop (xs := vs) (i := k) (j := 0)
              rw [hvd] at this
              simpa using this.symm
            have hus : us.drop (k + 1) = us' := by rw [← List.tail_drop, hud]; rfl
            have hvs : vs.drop (k + 1) = vs' := by rw [← List.tail_drop, hvd]; rfl
            split at hr
            · rename_i p hp
              split at hr
              · rename_i q hq
                injection hr with hr
                have ih := run_eqFields_plan w d us vs fs cs (k + 1) ho.2 hn.2 hcs (by rw [hus, hvs]; exact hq)
                have hne : f.name ≠ "_" := by simpa using hn.1
                simp only [Op.eqFields, hne, ne_eq, not_false_eq_true, if_true, Sem.run_bind, ho.1, run_part1 hc w us k hu, run_part1 hc w vs k hv, Result.andThen_ok, run_eq1 hc w d hp]
                subst hr
                cases p
                · simp
                · simpa using ih
              · cases hr
            · cases hr
      · cases hks
    · cases hks

theorem run_eqItems_plan {e : TypeId} {c : CK} (hc : ckOf P e = some c) (w : World) (d : Nat) (us vs : List Value) : ∀ (n k : Nat) {r : Bool}, eqVals (List.replicate n c) (us.drop k) (vs.drop k) = some r →
    (Op.eqItems (d + 1) e (P.cellsOf e) us.toArray vs.toArray (List.range' k n)).run P w = .ok r w
  | 0, k, r, hr => by
    simp only [List.replicate_zero] at hr
    unfold eqVals at hr
    split at hr
    · injection hr with hr
      subst hr
      simp [Op.eqItems]
    · rename_i h1 h2 h3; cases h1
    · cases hr
  | n + 1, k, r, hr => by
    simp only [List.replicate_succ] at hr
    cases hud : us.drop k with
    | nil => rw [hud] at hr; simp [eqVals] at hr
    | cons u us' =>
      cases hvd : vs.drop k with
      | nil => rw [hud, hvd] at hr; simp [eqVals] at hr
      | cons v vs' =>
        rw [hud, hvd] at hr
        simp only [eqVals] at hr
        have hu : us[k]? = some u := by
          have := List.getElem?_drop (xs := us) (i := k) (j := 0)
          rw [hud] at this
          simpa using this.symm
        have hv : vs[k]? = some v := by
          have := List.getElem?_drop (xs := vs) (i := k) (j := 0)
          rw [hvd] at this
          simpa using this.symm
        have hus : us.drop (k + 1) = us' := by rw [← List.tail_drop, hud]; rfl
        have hvs : vs.drop (k + 1) = vs' := by rw [← List.tail_drop, hvd]; rfl
        obtain ⟨_, _, _, h1, _⟩ := ck_info hc
        split at hr
        · rename_i p hp
          split at hr
          · rename_i q hq
            injection hr with hr
            have ih := run_eqItems_plan hc w d us vs n (k + 1) (by rw [hus, hvs]; exact hq)
            rw [h1] at ih ⊢
            simp only [List.range'_succ, Op.eqItems, Sem.run_bind, Nat.mul_one, run_part1 hc w us k hu, run_part1 hc w vs k hv, Result.andThen_ok, run_eq1 hc w d hp]
            subst hr
            cases p
            · simp
            · simpa using ih
          · cases hr
        · cases hr

theorem val_eqa (hI : Inv R N env a E) {o : Oper} {op : BinOp} {neg : Bool} {t t' : TypeId} {y z : Operand} (ho : o.op = .binOp op t y z t') (hop : op = if neg then .neq else .eql)
    {x : AV} (h : aval env (eqaRes P neg t y z) = some x) : ValOK P E a o x := by
  unfold eqaRes at h
  split at h
  case isFalse => simp [aval] at h
  rename_i hg
  split at h
  case h_2 => simp [aval] at h
  rename_i ks hks
  simp only [aval] at h
  have hy := hI.ev y
  have hz := hI.ev z
  split at h
  case h_2 => cases h
  rename_i cs ds h1 h2
  rw [h1] at hy
  rw [h2] at hz
  simp only [Rep] at hy hz
  obtain ⟨us, hu, hur⟩ := hy
  obtain ⟨vs, hv, hvr⟩ := hz
  split at h
  case h_2 => cases h
  rename_i r hr
  injection h with h
  subst h
  have hev := eqCells_vals hr hur hvr
  have key : (Op.equalIn 10000 t (.agg us.toArray) (.agg vs.toArray)).run P E.w = .ok r E.w := by
    unfold eqPlan at hks
    split at hks
    · rename_i fs ht
      split at hks
      case isFalse => cases hks
      rename_i hst
      split at hks
      case isFalse => cases hks
      rename_i hof
      split at hks
      case isFalse => cases hks
      rename_i hnm
      have hf : P.fieldsOf t = fs := by simp [Program.fieldsOf, ht]
      rw [run_equalIn_agg E.w 9999 t us.toArray vs.toArray (by rw [hf]; exact ht) hst, hf]
      refine run_eqFields_plan E.w 9998 us vs fs.toList ks 0 ?_ hnm hks (by simpa using hev)
      rw [hof, List.range_eq_range']
      simp
    · rename_i n e ht
      split at hks
      case h_2 => cases hks
      rename_i c hc
      injection hks with hks
      subst hks
      obtain ⟨i, hi, _⟩ := ck_info hc
      rw [run_equalIn_array (w := E.w) 9999 us.toArray vs.toArray ht hi, List.range_eq_range']
      exact run_eqItems_plan hc E.w 9998 us vs n 0 (by simpa using hev)
    · cases hks
  subst hop
  refine ⟨.bool (if neg = true then !r else r), ?_, by simp only [Rep]⟩
  cases neg
  · simp [execOp, ho, hu, hv, Sem.run_bind, run_eqGuard_agg E.w _ t _ _ _ _ hg, run_eql_struct, key, Result.andThen, Sem.run]
  · simp [execOp, ho, hu, hv, Sem.run_bind, run_eqGuard_agg E.w _ t _ _ _ _ hg, run_neq_struct, key, Result.andThen, Sem.run]

theorem val_eqi (hI : Inv R N env a E) (hR : R.Start) {o : Oper} {op : BinOp} {neg : Bool} {t t' : TypeId} {ms : Array (String × TypeId)} {y z : Operand} (ho : o.op = .binOp op t y z t') (hop : op = if neg then .neq else .eql) (ht : P.underlying t = some (.interface ms))
    (hs : sentOK P = true) {x : AV} (h : aval env (.eqi neg y z) = some x) : ValOK P E a o x := by
  simp only [aval] at h
  have hy := hI.ev y
  have hz := hI.ev z
  split at h
  case h_2 => cases h
  rename_i i j h1 h2
  rw [h1] at hy
  rw [h2] at hz
  simp only [Rep] at hy hz
  injection h with h
  subst h hop
  obtain ⟨gi, hy⟩ := hy
  obtain ⟨gj, hz⟩ := hz
  obtain ⟨e1, ⟨c1, t1, b1⟩⟩ := hI.sent hR i gi
  obtain ⟨e2, ⟨c2, t2, b2⟩⟩ := hI.sent hR j gj
  rw [e1] at hy
  rw [e2] at hz
  unfold sentOK at hs
  split at hs
  case h_2 => cases hs
  rename_i te inf hte hinf
  simp only [Bool.and_eq_true] at hs
  obtain ⟨hcomp, hsz⟩ := hs
  split at hsz
  case h_2 => cases hsz
  rename_i jn hj
  have hsz' : jn.size ≠ 0 := by simpa using hsz
  have key : (Op.equal t (.iface GT (.pointer (some (E.G i).2))) (.iface GT (.pointer (some (E.G j).2)))).run P E.w = .ok (i == j) E.w := by
    simp only [Op.equal, Op.maxDepth]
    by_cases hij : i = j
    · subst hij
      rw [run_equalIn_iface_ptr_same E.w 9998 _ ht hte hinf hcomp hj]
      simp
    · rw [run_equalIn_iface_ptr_other E.w 9998 ht hte hinf hcomp hj hsz' (fun e => hij (hR.gdist i gi j gj (by rw [← hI.G]; exact e))) b1 b2]
      simp [hij]
  refine ⟨.bool (if neg = true then !(i == j) else i == j), ?_, by simp only [Rep]⟩
  cases neg <;> simp [execOp, ho, hy, hz, eqGuard, Sem.run_bind, binOp, key, Sem.run]

theorem val_tas (hI : Inv R N env a E) (hR : R.Start) {o : Oper} {xt t e : TypeId} {z : Value} {y : Operand} (ho : o.op = .typeAssert y xt t true) (ht : P.underlying t = some (.pointer e)) (hz : (P.info? t).bind (·.zero) = some z)
    {x : AV} (h : aval env (.tas t (ofVal z) y) = some x) : ValOK P E a o x := by
  obtain ⟨inf, hinf, hzz⟩ := Option.bind_eq_some_iff.1 hz
  simp only [aval] at h
  have hy := hI.ev y
  have hzero : ∀ w, (zeroValue t).run P w = .ok z w := fun w => by simp [zeroValue, typeInfo, program, Sem.run, hinf, hzz, Bind.bind, Sem.bind, Pure.pure]
  have fin : Rep E (.tup [ofVal z, .lit (.bool false)]) (.tuple #[z, .bool false]) := by
    simp only [Rep]
    refine ⟨[z, .bool false], rfl, ?_⟩
    simp only [RepL]
    exact ⟨z, [.bool false], rfl, rep_ofVal E z, .bool false, [], rfl, by simp only [Rep], rfl⟩
  split at h
  · rename_i h1
    rw [h1] at hy
    simp only [Rep] at hy
    injection h with h
    subst h
    refine ⟨.tuple #[z, .bool false], ?_, fin⟩
    simp [execOp, ho, hy, Instr.typeAssert, Sem.run_bind, run_underlying_eq ht, hzero, Sem.run]
  · rename_i i h1
    rw [h1] at hy
    simp only [Rep] at hy
    split at h
    · cases h
    rename_i hne
    injection h with h
    subst h
    refine ⟨.tuple #[z, .bool false], ?_, fin⟩
    obtain ⟨e1, _⟩ := hI.sent hR i hy.1
    have hne' : ¬ GT = t := fun e => hne e.symm
    simp [execOp, ho, hy.2, e1, hne', Instr.typeAssert, Sem.run_bind, run_underlying_eq ht, hzero, Sem.run]
  · rename_i u v h1
    rw [h1] at hy
    simp only [Rep] at hy
    obtain ⟨uv, hy, hr⟩ := hy
    split at h
    · rename_i hut
      injection h with h
      subst h hut
      refine ⟨.tuple #[uv, .bool true], ?_, ?_⟩
      · simp [execOp, ho, hy, Instr.typeAssert, Sem.run_bind, run_underlying_eq ht, Sem.run]
      · simp only [Rep]
        refine ⟨[uv, .bool true], rfl, ?_⟩
        simp only [RepL]
        exact ⟨uv, [.bool true], rfl, hr, .bool true, [], rfl, by simp only [Rep], rfl⟩
    · rename_i hut
      injection h with h
      subst h
      refine ⟨.tuple #[z, .bool false], ?_, fin⟩
      simp [execOp, ho, hy, hut, Instr.typeAssert, Sem.run_bind, run_underlying_eq ht, hzero, Sem.run]
  · cases h

theorem bytesA_vals {E : RE} : ∀ {xs : List AV} {vs : List Value} {l : List UInt8}, bytesA xs = some l → RepL E xs vs → ∃ ns : List Int, vs = ns.map (Value.int .u8) ∧ l = ns.map fun n => UInt8.ofNat n.toNat
  | [], vs, l, h, hr => by
    simp only [bytesA] at h
    injection h with h
    simp only [RepL] at hr
    subst h hr
    exact ⟨[], rfl, rfl⟩
  | x :: xs, vs, l, h, hr => by
    unfold bytesA at h
    split at h
    · rename_i e; cases e
    · rename_i n r e
      injection e with e1 e2
      subst e1 e2
      simp only [RepL] at hr
      obtain ⟨v, ws, rfl, h1, h2⟩ := hr
      simp only [Rep] at h1
      subst h1
      split at h
      · rename_i l' hl'
        injection h with h
        subst h
        obtain ⟨ns, rfl, rfl⟩ := bytesA_vals hl' h2
        exact ⟨n :: ns, rfl, rfl⟩
      · cases h
    · cases h

theorem foldl_push (ns : List Int) : ∀ s : ByteArray, ns.foldl (fun r n => r.push (UInt8.ofNat n.toNat)) s = ⟨s.data ++ (ns.map fun n => UInt8.ofNat n.toNat).toArray⟩ := by
  induction ns with
  | nil => intro s; simp
  | cons n ns ih =>
    intro s
    rw [List.foldl_cons, ih]
    simp [ByteArray.push, List.map_cons, ← Array.push_eq_append]

theorem val_b2s (hI : Inv R N env a E) {o : Oper} {s d e : TypeId} {y : Operand} (ho : o.op = .convert s d y) (hs : P.underlying s = some (.slice e)) (he : P.underlying e = some (.int .u8)) (hd : P.underlying d = some .string)
    {x : AV} (h : aval env (.b2s y) = some x) : ValOK P E a o x := by
  simp only [aval] at h
  have hy := hI.ev y
  have fin : ∀ {A : Addr} {len cap : Nat} {ns : List Int}, (loadCells A len).run P E.w = .ok (ns.map (Value.int .u8)).toArray E.w → a.eval y = .slice (some A) len cap → ValOK P E a o (.lit (.string ⟨(ns.map fun n => UInt8.ofNat n.toNat).toArray⟩)) := by
    intro A len cap ns hl ha
    refine ⟨.string ⟨(ns.map fun n => UInt8.ofNat n.toNat).toArray⟩, ?_, by simp only [Rep]⟩
    simp [execOp, ho, ha, Sem.run_bind, run_convert_bytes_string E.w s d e (some A) len cap hs he hd, run_bytesToString E.w A len cap ns hl, foldl_push, Sem.run]
  split at h
  · rename_i tk es rows h1
    rw [h1] at hy
    simp only [Rep] at hy
    obtain ⟨A, cap, vs, hev, hcap, hr, hes, hone, htk⟩ := hy
    split at h
    case isFalse => cases h
    rename_i he1
    obtain ⟨hgn, he1⟩ := he1
    split at h
    case h_2 => cases h
    rename_i l hl
    injection h with h
    subst h
    obtain ⟨ns, rfl, rfl⟩ := bytesA_vals hl hr
    have hlen : ns.length = rows.length := by simpa using hr.length
    have hflat : flat (ns.map (Value.int .u8)) = ns.map (Value.int .u8) := by
      clear hr hl hes hone htk hlen
      induction ns with
      | nil => rfl
      | cons n ns ih => simp only [List.map_cons, flat, List.flatMap_cons]; rw [show (ns.map (Value.int .u8)).flatMap (fun v => v.cells.toList) = ns.map (Value.int .u8) from ih]; simp [Value.cells]
    rw [hflat] at htk hone
    have load : ∀ {S : Nat → Nat → Prop} {b off : Nat}, At E.w S (ns.map (Value.int .u8)) b off → (loadCells ⟨b, off, none⟩ rows.length).run P E.w = .ok (ns.map (Value.int .u8)).toArray E.w := fun hat => by
      have := run_loadCells_at (P := P) hat rows.length (by simp [hlen])
      rwa [List.take_of_length_le (by simp [hlen])] at this
    have nilc : A = none → ns = [] → ValOK P E a o (.lit (.string ⟨(ns.map fun n => UInt8.ofNat n.toNat).toArray⟩)) := fun hA hn => by
      subst hA hn
      refine ⟨.string ByteArray.empty, ?_, by simp only [Rep]; rfl⟩
      simp [execOp, ho, hev, Sem.run_bind, run_convert_bytes_string E.w s d e none rows.length cap hs he hd, Conv.bytesToString, Sem.run]
    have emp : rows = [] → ValOK P E a o (.lit (.string ⟨(ns.map fun n => UInt8.ofNat n.toNat).toArray⟩)) := fun hn => by
      have hns : ns = [] := by simpa [hn] using hlen
      cases A with
      | none => exact nilc rfl hns
      | some A =>
        refine fin (A := A) ?_ hev
        subst hn hns
        simp only [List.length_nil, List.map_nil]
        exact run_loadCells_list (P := P) (w := E.w) A [] (fun j v hj => by simp at hj)
    by_cases hne : rows = []
    · exact emp hne
    cases tk with
    | none =>
      obtain ⟨b, off, hA, hat⟩ := htk hne
      subst hA
      exact fin (load hat) hev
    | bor =>
      obtain ⟨b, off, hA, hat⟩ := htk hne
      subst hA
      exact fin (load hat) hev
    | nil =>
      exact absurd (by simpa [htk.2] using hcap) hne
    | own τ =>
      rcases htk with ⟨_, h0⟩ | ⟨g, cur, ty, hA, hat, _⟩
      · exact absurd (by simpa [h0] using hcap) hne
      subst hA
      exact fin (load hat) hev
    | fr τ =>
      rcases htk with ⟨h0, _⟩ | ⟨g, cur, ty, hA, hat, _⟩
      · exact absurd h0 hne
      subst hA
      exact fin (load hat) hev
    | gone => simp [goneB] at hgn
  · rename_i c off n cap g es h1
    rw [h1] at hy
    simp only [Rep] at hy
    obtain ⟨b, hb, hev⟩ := hy
    split at h
    case isFalse => cases h
    split at h
    case h_2 => cases h
    rename_i cs hcs
    split at h
    case isFalse => cases h
    rename_i hle
    split at h
    case h_2 => cases h
    rename_i l hl
    injection h with h
    subst h
    obtain ⟨_, _, _, cs', vals, ty, hcs', hh, hrep, _⟩ := hI.locc c b hb
    obtain rfl : cs = cs' := Option.some.inj (hcs.symm.trans hcs')
    have hl2 := (hrep.drop off).take n
    obtain ⟨ns, hns, rfl⟩ := bytesA_vals hl hl2
    have hvl := hrep.length
    refine fin (A := ⟨b, off, none⟩) ?_ hev
    have hnl : ns.length = n := by
      have := congrArg List.length hns
      simp only [List.length_take, List.length_drop, List.length_map] at this
      omega
    have := run_loadCells_list (P := P) (w := E.w) ⟨b, off, none⟩ (ns.map (Value.int .u8)) (fun j v hj => by
      rw [← hns, List.getElem?_take] at hj
      split at hj
      · rw [List.getElem?_drop] at hj
        rw [Addr.add_lit]
        simp only [World.cell?, hh]
        simpa using hj
      · cases hj)
    simpa [hnl] using this
  · cases h

end
end Go.Proofs.Ytmjmfollimaleaa.VL
