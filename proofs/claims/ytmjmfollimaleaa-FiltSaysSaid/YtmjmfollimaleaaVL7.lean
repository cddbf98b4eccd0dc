/- The value logic, part 7: slicing, structs made of parts, nil asked. -/
import Derived.Test.YtmjmfollimaleaaVL6
set_option linter.unusedVariables false
set_option linter.unusedSimpArgs false
namespace Go.Proofs.Ytmjmfollimaleaa.VL
open Go.RowKit

section
variable {P : Program} {R : RE} {N : Nat} {env : Env} {a : Act} {E : RE}

theorem bnd_val (hI : Inv R N env a E) {d : Nat} {x : Option Operand} {l : Int} (h : aval.bnd env d x = some l) :
    (x = none ∧ l = d) ∨ ∃ y k, x = some y ∧ a.eval y = .int k l := by
  cases x with
  | none => left; simp [aval.bnd] at h; exact ⟨rfl, h.symm⟩
  | some y =>
    right
    have hy := hI.ev y
    simp only [aval.bnd, intOfA] at h
    split at h
    · rename_i k n h1
      rw [h1] at hy
      simp only [Rep] at hy
      injection h with h
      subst h
      exact ⟨y, k, rfl, hy⟩
    · cases h

theorem run_sliceBounds {isS : Bool} {len cap : Nat} {lo hi : Option Value} {l h : Int} (hl : (lo = none ∧ l = 0) ∨ ∃ k, lo = some (.int k l)) (hh : (hi = none ∧ h = len) ∨ ∃ k, hi = some (.int k h))
    (h0 : 0 ≤ l) (h1 : l ≤ h) (h2 : h ≤ len) (h3 : len ≤ cap) (w : World) : (Instr.sliceBounds isS len cap lo hi none).run P w = .ok (l.toNat, h.toNat, cap) w := by
  have hc : h ≤ (cap : Int) := by omega
  have hb1 : 0 ≤ h := by omega
  have hb2 : l ≤ (h.toNat : Int) := by omega
  rcases hl with ⟨rfl, rfl⟩ | ⟨k, rfl⟩ <;> rcases hh with ⟨rfl, rfl⟩ | ⟨k', rfl⟩ <;>
    simp [Instr.sliceBounds, Instr.sliceBound, asIntOf, Sem.run_bind, Sem.run, hc, hb1, h0, hb2, h1] <;> omega

theorem val_slc_str (hI : Inv R N env a E) {o : Oper} {t : TypeId} {y : Operand} {lo hi : Option Operand} (ho : o.op = .slice t y lo hi none) (ht : P.underlying t = some .string) {s : ByteArray} (hs : env.ev y = .lit (.string s))
    {x : AV} (h : aval env (.slcs y lo hi) = some x) : ValOK P E a o x := by
  have hy := hI.ev y
  simp only [aval, hs] at h
  rw [hs] at hy
  simp only [Rep] at hy
  split at h
  · rename_i l hh hl hhh
    split at h
    · rename_i hcond
      obtain ⟨c0, c1, c2⟩ := hcond
      injection h with h
      subst h
      refine ⟨.string (s.extract l.toNat hh.toNat), ?_, by simp only [Rep]⟩
      have b1 : (lo.map a.eval = none ∧ l = 0) ∨ ∃ k, lo.map a.eval = some (.int k l) := by
        rcases bnd_val hI hl with ⟨rfl, h⟩ | ⟨y, k, rfl, h⟩
        · exact .inl ⟨rfl, by simpa using h⟩
        · exact .inr ⟨k, by simp [h]⟩
      have b2 : (hi.map a.eval = none ∧ hh = (s.size : Int)) ∨ ∃ k, hi.map a.eval = some (.int k hh) := by
        rcases bnd_val hI hhh with ⟨rfl, h⟩ | ⟨y, k, rfl, h⟩
        · exact .inl ⟨rfl, by simpa using h⟩
        · exact .inr ⟨k, by simp [h]⟩
      simp [execOp, ho, hy, Instr.sliceAt, Instr.slice, Sem.run_bind, run_underlying_eq ht, run_sliceBounds b1 b2 c0 c1 c2 (Nat.le_refl _), Sem.run]
    · cases h
  · cases h

theorem At.sub {w : World} {S : Nat → Nat → Prop} {vs : List Value} {b o : Nat} (h : At w S vs b o) {us : List Value} {n k : Nat} (hu : us = (vs.drop n).take k) : At w S us b (o + n) := by
  rw [hu]; exact h.shift n k

theorem flat_take {vs : List Value} {e : Nat} (h : ∀ u ∈ vs, u.cells.size = e) (n : Nat) : flat (vs.take n) = (flat vs).take (n * e) := by
  induction vs generalizing n with
  | nil => simp [flat]
  | cons u vs ih =>
    cases n with
    | zero => simp [flat]
    | succ n =>
      have hfl : flat (u :: vs) = u.cells.toList ++ flat vs := by simp [flat]
      have hfl' : flat (u :: vs.take n) = u.cells.toList ++ flat (vs.take n) := by simp [flat]
      rw [List.take_succ_cons, hfl, hfl', ih (fun z hz => h z (by simp [hz]))]
      have he : (n + 1) * e = e + n * e := by rw [Nat.add_mul]; omega
      have hu : u.cells.toList.length = e := by simp [h u (by simp)]
      rw [he, ← hu, List.take_length_add_append]

theorem flat_drop {vs : List Value} {e : Nat} (h : ∀ u ∈ vs, u.cells.size = e) (n : Nat) : flat (vs.drop n) = (flat vs).drop (n * e) := by
  induction vs generalizing n with
  | nil => simp [flat]
  | cons u vs ih =>
    cases n with
    | zero => simp
    | succ n =>
      have hfl : flat (u :: vs) = u.cells.toList ++ flat vs := by simp [flat]
      rw [List.drop_succ_cons, hfl, ih (fun z hz => h z (by simp [hz]))]
      have he : (n + 1) * e = e + n * e := by rw [Nat.add_mul]; omega
      have hu : u.cells.toList.length = e := by simp [h u (by simp)]
      rw [he, ← hu, List.drop_length_add_append]

theorem val_slc (hI : Inv R N env a E) {o : Oper} {t e : TypeId} {i : TypeInfo} {y : Operand} {lo hi : Option Operand} (ho : o.op = .slice t y lo hi none) (ht : P.underlying t = some (.slice e)) (hi' : P.info? e = some i)
    {tk : Tok} {es : Nat} {rows : List AV} (hs : env.ev y = .sl tk es rows) {x : AV} (h : aval env (.slc i.size y lo hi) = some x) : ValOK P E a o x := by
  have hy := hI.ev y
  simp only [aval, hs] at h
  rw [hs] at hy
  simp only [Rep] at hy
  obtain ⟨A, cap, vs, he, hcap, hr, hes, hone, htk⟩ := hy
  split at h
  · rename_i l hh hl hhh
    split at h
    case isFalse => cases h
    rename_i huq
    split at h
    case isFalse => cases h
    rename_i hesz
    subst hesz
    split at h
    · rename_i hcond
      obtain ⟨c0, c1, c2⟩ := hcond
      injection h with h
      subst h
      have b1 : (lo.map a.eval = none ∧ l = 0) ∨ ∃ k, lo.map a.eval = some (.int k l) := by
        rcases bnd_val hI hl with ⟨rfl, h⟩ | ⟨y, k, rfl, h⟩
        · exact .inl ⟨rfl, by simpa using h⟩
        · exact .inr ⟨k, by simp [h]⟩
      have b2 : (hi.map a.eval = none ∧ hh = (rows.length : Int)) ∨ ∃ k, hi.map a.eval = some (.int k hh) := by
        rcases bnd_val hI hhh with ⟨rfl, h⟩ | ⟨y, k, rfl, h⟩
        · exact .inl ⟨rfl, by simpa using h⟩
        · exact .inr ⟨k, by simp [h]⟩
      have run : (execOp a.eval o).run P E.w = .ok (.value (.slice (if cap = l.toNat then A else A.map (·.add (l.toNat * i.size))) (hh.toNat - l.toNat) (cap - l.toNat))) E.w := by
        simp [execOp, ho, he, Instr.sliceAt, Instr.slice, Sem.run_bind, run_underlying_eq ht, run_sliceBounds b1 b2 c0 c1 c2 hcap, run_sizeOf hi', Sem.run]
      have hvl := hr.length
      have hlen : ((rows.take hh.toNat).drop l.toNat).length = hh.toNat - l.toNat := by simp; omega
      refine ⟨_, run, ?_⟩
      simp only [Rep]
      refine ⟨_, cap - l.toNat, (vs.take hh.toNat).drop l.toNat, by rw [hlen], by omega, (hr.take _).drop _, fun u hu => hes u (List.mem_of_mem_take (List.mem_of_mem_drop hu)),
        fun u hu => hone u ?_, ?_⟩
      · unfold flat at hu ⊢
        obtain ⟨v, hv, hv'⟩ := List.mem_flatMap.1 hu
        exact List.mem_flatMap.2 ⟨v, List.mem_of_mem_take (List.mem_of_mem_drop hv), hv'⟩
      · have hfl : flat ((vs.take hh.toNat).drop l.toNat) = ((flat vs).drop (l.toNat * i.size)).take ((hh.toNat - l.toNat) * i.size) := by
          rw [flat_drop (fun u hu => hes u (List.mem_of_mem_take hu)), flat_take hes, List.drop_take, Nat.sub_mul]
        have hcl : (rows.take hh.toNat).drop l.toNat ≠ [] → cap ≠ l.toNat := by
          intro hne hc
          apply hne
          apply List.eq_nil_of_length_eq_zero
          omega
        cases tk with
        | none =>
          intro hne
          obtain ⟨b, o', hA, hat⟩ := htk (fun e => hne (by rw [e]; simp))
          rw [if_neg (hcl hne), hA]
          refine ⟨b, o' + l.toNat * i.size, by simp [Addr.add_lit], ?_⟩
          rw [hfl]
          exact hat.shift _ _
        | bor =>
          intro hne
          obtain ⟨b, o', hA, hat⟩ := htk (fun e => hne (by rw [e]; simp))
          rw [if_neg (hcl hne), hA]
          refine ⟨b, o' + l.toNat * i.size, by simp [Addr.add_lit], ?_⟩
          rw [hfl]
          exact hat.shift _ _
        | nil =>
          intro hne
          obtain ⟨hA, hc0⟩ := htk
          exact absurd (hcl hne) (by omega)
        | own τ =>
          intro hne
          rcases htk with ⟨hA, hc0⟩ | ⟨g, cur, ty, hA, hat, _⟩
          · exact absurd (hcl hne) (by omega)
          rw [if_neg (hcl hne), hA]
          refine ⟨g, 0 + l.toNat * i.size, by simp [Addr.add_lit], ?_⟩
          rw [hfl]
          exact hat.shift _ _
        | fr τ => simp [frB] at huq
        | gone => simp [frB] at huq
    · cases h
  · cases h

theorem val_slc_ml (hI : Inv R N env a E) {o : Oper} {t e : TypeId} {i : TypeInfo} {y : Operand} {lo hi : Option Operand} (ho : o.op = .slice t y lo hi none) (ht : P.underlying t = some (.slice e)) (hi' : P.info? e = some i)
    {c off n cap es : Nat} {g : Bool} (hs : env.ev y = .ml c off n cap g es) {x : AV} (h : aval env (.slc i.size y lo hi) = some x) : ValOK P E a o x := by
  have hy := hI.ev y
  simp only [aval, hs] at h
  rw [hs] at hy
  simp only [Rep] at hy
  obtain ⟨b, hb, he⟩ := hy
  split at h
  · rename_i l hh hl hhh
    split at h
    case isFalse => cases h
    rename_i hesz
    subst hesz
    split at h
    · rename_i hcond
      obtain ⟨c0, c1, c2, c3, hnc⟩ := hcond
      injection h with h
      subst h
      have b1 : (lo.map a.eval = none ∧ l = 0) ∨ ∃ k, lo.map a.eval = some (.int k l) := by
        rcases bnd_val hI hl with ⟨rfl, h⟩ | ⟨y, k, rfl, h⟩
        · exact .inl ⟨rfl, by simpa using h⟩
        · exact .inr ⟨k, by simp [h]⟩
      have b2 : (hi.map a.eval = none ∧ hh = (n : Int)) ∨ ∃ k, hi.map a.eval = some (.int k hh) := by
        rcases bnd_val hI hhh with ⟨rfl, h⟩ | ⟨y, k, rfl, h⟩
        · exact .inl ⟨rfl, by simpa using h⟩
        · exact .inr ⟨k, by simp [h]⟩
      have run : (execOp a.eval o).run P E.w = .ok (.value (.slice (if cap = l.toNat then some ⟨b, off, none⟩ else (some (⟨b, off, none⟩ : Addr)).map (·.add (l.toNat * i.size))) (hh.toNat - l.toNat) (cap - l.toNat))) E.w := by
        simp [execOp, ho, he, Instr.sliceAt, Instr.slice, Sem.run_bind, run_underlying_eq ht, run_sliceBounds b1 b2 c0 c1 c2 hnc, run_sizeOf hi', Sem.run]
      refine ⟨_, run, ?_⟩
      simp only [Rep]
      refine ⟨b, hb, ?_⟩
      by_cases hcl : cap = l.toNat
      · have hl0 : l = 0 := by rcases c3 with h | h <;> omega
        subst hl0
        simp [hcl]
      · rw [if_neg hcl]
        simp [Addr.add_lit]
    · cases h
  · cases h

theorem setZip_eq (cs : Array Value) (off : Nat) : ∀ (us : List Value) (k : Nat) (cells : Array Value), off + k + us.length ≤ cells.size →
    ((us.zipIdx k).foldl (fun cs (x : Value × Nat) => cs.setIfInBounds (off + x.2) x.1) cells).toList = cells.toList.take (off + k) ++ us ++ cells.toList.drop (off + k + us.length)
  | [], k, cells, h => by simp
  | u :: us, k, cells, h => by
    simp only [List.zipIdx_cons, List.foldl_cons]
    simp only [List.length_cons] at h
    rw [setZip_eq cs off us (k + 1) _ (by simp; omega)]
    simp only [Array.toList_setIfInBounds, List.length_cons]
    have e1 : off + (k + 1) = off + k + 1 := by omega
    have e2 : off + (k + 1) + us.length = off + k + (us.length + 1) := by omega
    rw [e2, e1]
    have hlt : off + k < cells.toList.length := by simp; omega
    rw [List.take_succ_eq_append_getElem (by simpa using hlt), List.take_set_of_le (by omega), List.getElem_set_self, List.drop_set_of_lt (by omega)]
    simp

theorem fill_rep {E : RE} (place : Nat → Option (Nat × Nat)) : ∀ (ps : List (Nat × Value)) (ls : List (Nat × Nat × AV)) (cells : List AV) (vals : Array Value) (out : List AV),
    ps.length = ls.length → (∀ (j : Nat) (p : Nat × Value) (l : Nat × Nat × AV), ps[j]? = some p → ls[j]? = some l → place p.1 = some (l.1, l.2.1) ∧ Rep E l.2.2 p.2) →
    RepL E cells vals.toList → fillA cells ls = some out → ∃ vs : Array Value, Instr.fill place vals ps = some vs ∧ RepL E out vs.toList
  | [], [], cells, vals, out, _, _, hr, h => by
    simp only [fillA] at h
    injection h with h
    subst h
    exact ⟨vals, rfl, hr⟩
  | [], _ :: _, _, _, _, hl, _, _, _ => by simp at hl
  | _ :: _, [], _, _, _, hl, _, _, _ => by simp at hl
  | (i, v) :: ps, (off, size, x) :: ls, cells, vals, out, hl, hp, hr, h => by
    obtain ⟨hpl, hx⟩ := hp 0 _ _ rfl rfl
    simp only at hpl hx
    simp only [fillA] at h
    split at h
    case isFalse => cases h
    rename_i hrow
    split at h
    · rename_i hsz
      split at h
      · rename_i hle
        have hc := rep_cells hx (row_or hrow)
        have hcl := hc.length
        rw [Array.length_toList] at hcl
        have hrl := hr.length
        rw [Array.length_toList] at hrl
        have hv : v.cells.size = size := by omega
        simp only [Instr.fill, hpl]
        rw [if_neg (by simp; omega)]
        refine fill_rep place ps ls _ _ out (by simpa using hl) (fun j p l h1 h2 => hp (j + 1) p l h1 h2) ?_ h
        have := setZip_eq vals off v.cells.toList 0 vals (by simp; omega)
        simp only [Nat.add_zero, Array.length_toList] at this
        rw [← Array.foldl_toList, Array.toList_zipIdx, this, hv]
        exact ((hr.take off).append hc).append (hr.drop (off + size))
      · cases h
    · cases h

theorem mapM_get {α β : Type} {f : α → Option β} : ∀ {l : List α} {r : List β}, l.mapM f = some r → r.length = l.length ∧ ∀ (j : Nat) x y, l[j]? = some x → r[j]? = some y → f x = some y
  | [], r, h => by
    simp at h
    subst h
    simp
  | x :: l, r, h => by
    rw [List.mapM_cons] at h
    cases hx : f x with
    | none => simp [hx] at h
    | some u =>
      cases hl : l.mapM f with
      | none => simp [hx, hl] at h
      | some us =>
        simp [hx, hl] at h
        subst h
        obtain ⟨h1, h2⟩ := mapM_get hl
        refine ⟨by simp [h1], fun j y z hy hz => ?_⟩
        cases j with
        | zero => simp at hy hz; subst hy hz; exact hx
        | succ j => exact h2 j y z (by simpa using hy) (by simpa using hz)

theorem run_mapM_places {fs : List Field} (h : ∀ f ∈ fs, (P.info? f.type).isSome = true) (w : World) :
    (fs.mapM fun f => Prod.mk f.offset <$> sizeOf f.type).run P w = .ok (fs.map fun f => (f.offset, P.cellsOf f.type)) w := by
  induction fs with
  | nil => simp [Sem.run]
  | cons f fs ih =>
    obtain ⟨i, hi⟩ := Option.isSome_iff_exists.1 (h f (by simp))
    rw [List.mapM_cons]
    have ih' := ih fun g hg => h g (by simp [hg])
    simp [Sem.run_bind, run_sizeOf hi, ih', Program.cellsOf, hi, Sem.run]

theorem val_build (hI : Inv R N env a E) {o : Oper} {t : TypeId} {parts : Array (Nat × Operand)} (ho : o.op = .build t parts) {x : AV} (h : aval env (res P (.build t parts)) = some x) : ValOK P E a o x := by
  simp only [res] at h
  split at h
  · rename_i fs z hfs hz
    split at h
    · rename_i l hl
      split at h
      case isFalse => simp [aval] at h
      rename_i hall
      obtain ⟨inf, hinf, hz'⟩ := Option.bind_eq_some_iff.1 hz
      simp only [aval] at h
      split at h
      case h_2 => cases h
      rename_i cs hcs
      injection h with h
      subst h
      obtain ⟨hlen, hget⟩ := mapM_get hl
      have hplaces : (fs.mapM fun f => Prod.mk f.offset <$> sizeOf f.type).run P E.w = .ok (fs.map fun f => (f.offset, P.cellsOf f.type)) E.w := by
        rw [Array.mapM_eq_mapM_toList]
        simp [Sem.run_bind, run_mapM_places (P := P) (fs := fs.toList) (fun f hf => by simpa using (List.all_eq_true.1 hall) f hf) E.w, Sem.run, ← Array.toList_map]
      obtain ⟨vs, hf, hr⟩ := fill_rep (E := E) (fun x => Option.map (fun f => (f.offset, P.cellsOf f.type)) fs[x]?) (parts.toList.map fun p => (p.1, a.eval p.2)) (l.map fun p => (p.1, p.2.1, env.ev p.2.2)) _ z.cells cs (by simp [hlen]) (fun j p q hp hq => by
        simp only [List.getElem?_map, Option.map_eq_some_iff] at hp hq
        obtain ⟨p', hp', rfl⟩ := hp
        obtain ⟨q', hq', rfl⟩ := hq
        have := hget j p' q' hp' hq'
        obtain ⟨f, hf, hq2⟩ := Option.bind_eq_some_iff.1 this
        obtain ⟨i, hi, rfl⟩ := Option.map_eq_some_iff.1 hq2
        exact ⟨by simp [hf, Program.cellsOf, hi], hI.ev _⟩) (repL_ofVal1 E z.cells.toList) hcs
      refine ⟨.agg vs, ?_, ?_⟩
      · have hzero : (zeroValue t).run P E.w = .ok z E.w := by simp [zeroValue, typeInfo, program, Sem.run, hinf, hz', Bind.bind, Sem.bind, Pure.pure]
        have hparts : (parts.map fun (i, x) => (i, a.eval x)).toList = parts.toList.map fun p => (p.1, a.eval p.2) := by simp
        simp [execOp, ho, Instr.build, Sem.run_bind, hzero, run_underlying_eq hfs, hplaces, hf, Sem.run]
      · simp only [Rep]
        exact ⟨vs.toList, by simp, hr⟩
    · simp [aval] at h
  · simp [aval] at h

theorem run_equal_nil_iface {t : TypeId} {ms : Array (String × TypeId)} (h : P.underlying t = some (.interface ms)) (v : Value) (hv : v = .nilIface ∨ ∃ t u, v = .iface t u) (w : World) :
    (Op.equal t v .nilIface).run P w = .ok (match v with | .nilIface => true | _ => false) w := by
  unfold Op.equal Op.maxDepth Op.equalIn
  rcases hv with rfl | ⟨t', u, rfl⟩ <;> simp [underlying, program, Sem.run, h, Bind.bind, Sem.bind, Pure.pure]

theorem val_eqn (hI : Inv R N env a E) {o : Oper} {op : BinOp} {neg : Bool} {t t' : TypeId} {ms : Array (String × TypeId)} {y : Operand} (ho : o.op = .binOp op t y (.const .nilIface) t') (hop : op = if neg then .neq else .eql)
    (ht : P.underlying t = some (.interface ms)) {x : AV} (h : aval env (.eqn neg y) = some x) : ValOK P E a o x := by
  simp only [aval] at h
  have hy := hI.ev y
  have hev : a.eval (.const .nilIface) = .nilIface := rfl
  subst hop
  have fin : ∀ b : Bool, (a.eval y = .nilIface ∧ b = true) ∨ (∃ t u, a.eval y = .iface t u) ∧ b = false → x = .lit (.bool (if neg then !b else b)) → ValOK P E a o x := by
    rintro b hb rfl
    refine ⟨.bool (if neg then !b else b), ?_, by simp only [Rep]⟩
    rcases hb with ⟨he, rfl⟩ | ⟨⟨t1, u, he⟩, rfl⟩
    · have hq := run_equal_nil_iface ht .nilIface (.inl rfl) E.w
      cases neg <;> simp [execOp, ho, hev, he, eqGuard_nil_constR, Sem.run_bind, binOp, hq, Sem.run]
    · have hq := run_equal_nil_iface ht (.iface t1 u) (.inr ⟨_, _, rfl⟩) E.w
      cases neg <;> simp [execOp, ho, hev, he, eqGuard_at_iface, Sem.run_bind, binOp, hq, Sem.run]
  split at h
  · rename_i h1
    rw [h1] at hy
    simp only [Rep] at hy
    injection h with h
    exact fin true (.inl ⟨hy, rfl⟩) (by rw [← h]; cases neg <;> rfl)
  · rename_i h1
    rw [h1] at hy
    simp only [Rep] at hy
    obtain ⟨u, hy, _⟩ := hy
    injection h with h
    exact fin false (.inr ⟨⟨_, _, hy⟩, rfl⟩) (by rw [← h]; cases neg <;> rfl)
  · rename_i h1
    rw [h1] at hy
    simp only [Rep] at hy
    injection h with h
    exact fin false (.inr ⟨⟨_, _, hy.2⟩, rfl⟩) (by rw [← h]; cases neg <;> rfl)
  · cases h

theorem run_equal_nil_ptr {t e : TypeId} (h : P.underlying t = some (.pointer e)) (p : Option Addr) (w : World) :
    (Op.equal t (.pointer p) (.pointer none)).run P w = .ok p.isNone w := by
  unfold Op.equal Op.maxDepth Op.equalIn
  cases p <;> simp [underlying, program, Sem.run, h, Bind.bind, Sem.bind, Pure.pure]

theorem val_eqp (hI : Inv R N env a E) {o : Oper} {op : BinOp} {neg : Bool} {t t' e : TypeId} {y : Operand} (ho : o.op = .binOp op t y (.const (.pointer none)) t') (hop : op = if neg then .neq else .eql)
    (ht : P.underlying t = some (.pointer e)) {x : AV} (h : aval env (.eqp neg y) = some x) : ValOK P E a o x := by
  simp only [aval] at h
  have hy := hI.ev y
  have hev : a.eval (.const (.pointer none)) = .pointer none := rfl
  subst hop
  have fin : ∀ p, a.eval y = .pointer p → x = .lit (.bool (if neg then !p.isNone else p.isNone)) → ValOK P E a o x := by
    rintro p he rfl
    refine ⟨.bool (if neg then !p.isNone else p.isNone), ?_, by simp only [Rep]⟩
    have hq := run_equal_nil_ptr ht p E.w
    cases neg <;> simp [execOp, ho, hev, he, eqGuard_at_pointer, Sem.run_bind, binOp, hq, Sem.run]
  split at h
  · rename_i h1
    rw [h1] at hy
    simp only [Rep] at hy
    injection h with h
    exact fin none hy (by rw [← h]; cases neg <;> rfl)
  · rename_i h1
    rw [h1] at hy
    simp only [Rep] at hy
    obtain ⟨b, o', vs, hy, _⟩ := hy
    injection h with h
    exact fin _ hy (by rw [← h]; cases neg <;> rfl)
  · rename_i h1
    rw [h1] at hy
    simp only [Rep] at hy
    obtain ⟨b, o', vs, hy, _⟩ := hy
    injection h with h
    exact fin _ hy (by rw [← h]; cases neg <;> rfl)
  · rename_i h1
    rw [h1] at hy
    simp only [Rep] at hy
    obtain ⟨b, _, hy⟩ := hy
    injection h with h
    exact fin _ hy (by rw [← h]; cases neg <;> rfl)
  · cases h

end
end Go.Proofs.Ytmjmfollimaleaa.VL
