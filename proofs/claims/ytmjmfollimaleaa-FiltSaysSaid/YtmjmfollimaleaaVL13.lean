/- The value logic, part 13: every operation's step, and the operations of a region in the text's order. -/
import Derived.Test.YtmjmfollimaleaaVLU
set_option linter.unusedVariables false
set_option linter.unusedSimpArgs false
namespace Go.Proofs.Ytmjmfollimaleaa.VL
open Go.RowKit

def Env.putO (E : Env) (d : Option Nat) (x : AV) : Env := match d with | some d => E.put d x | none => E

/-- The owner that is appended to is none of these. -/
def okBs (bs : List Nat) : AV → Bool
  | .sl (.own τ) _ _ => bs.all fun k => τ != [k]
  | .sl (.fr τ) _ _ => bs.all fun k => τ != [k]
  | _ => true

theorem okBs_nil (v : AV) : okBs [] v = true := by
  unfold okBs
  split <;> rfl

/-- One operation that is no call. -/
def step (d : Option Nat) (op : AOp) (E : Env) : Option Env :=
  match op with
  | .alloc z => match d with | some d => stepAlloc d z E | none => none
  | .box x => match d with | some d => stepBox d x E | none => none
  | .bslice _ esz parts => match d with | some d => stepBslice esz d (parts.map E.ev) E | none => none
  | .mks b esz bytes z l c => match d with | some d => stepMks b esz bytes d z (E.ev l) (E.ev c) E | none => none
  | .mko esz bytes c => match d with | some d => stepMko esz bytes d (E.ev c) E | none => none
  | .mkf b esz bytes z l c => match d with | some d => stepMkf b esz bytes d z (E.ev l) (E.ev c) E | none => none
  | .mkm => match d with | some d => some (E.put d (.mf [d] true)) | none => none
  | .mup str m k x => match d with | none => stepMup str (E.ev m) (E.ev k) (E.ev x) E | some _ => none
  | .clr z x => match d with | none => stepClr z (E.ev x) E | some _ => none
  | .bsl0 _ => none
  | .store size p x => match d with | none => stepStore size (E.ev p) (E.ev x) E | some _ => none
  | .app esz bytes bs x y => match d with | some d => if okBs bs (E.ev x) then stepApp esz bytes d (E.ev x) (E.ev y) E else none | none => none
  | .load agg size p => match E.ev p with
    | .gp g => if agg = false then if g ∈ GS then some (E.putO d (.gl g)) else none else none
    | _ => match aval E (.load agg size p) with
      | some x => some (E.putO d x)
      | none => none
  | .loadc agg size p => match E.ev p with
    | .gp g => if agg = false then if g ∈ GS then some (E.putO d (.gl g)) else none else none
    | _ => match aval E (.loadc agg size p) with
      | some x => some (E.putO d x)
      | none => none
  | op => match aval E op with
    | some x => some (E.putO d x)
    | none => none

structure AOper where
  dst : Option Nat
  op : AOp
  guard : Option (Nat × Bool)
  deriving Inhabited

def awOp (P : Program) (o : AOper) (E : Env) (K : Env → Prop) : Prop :=
  match o.op with
  | .call f args => ∃ as r, mapO (lower E.c 8) (args.map E.ev) = some as ∧ AC P f as r ∧ K (E.putO o.dst (retag (o.dst.getD 0) r))
  | .callv x args => ∃ f fst caps, E.ev x = .clo (.func f) fst caps ∧ ∃ as r, mapO (lower E.c 8) (fst ++ args.map E.ev ++ caps) = some as ∧ AC P f as r ∧ K (E.putO o.dst (retag (o.dst.getD 0) r))
  | .callm f args => (∃ as r, mapO (lower E.c 8) (args.map E.ev) = some as ∧ AC P f as r ∧ K (E.putO o.dst (retag (o.dst.getD 0) r))) ∨
      ∃ m as c0 r c1, mOK m = true ∧ mapO (lowerM m E.c 8) (args.map E.ev) = some as ∧ lentC m E.c = some c0 ∧ AM P f as c0 r c1 ∧ K ((backC m c1 E).putO o.dst (retag (o.dst.getD 0) (unlend m r)))
  | .callvm x args => ∃ f fst caps, E.ev x = .clo (.func f) fst caps ∧ ((∃ as r, mapO (lower E.c 8) (fst ++ args.map E.ev ++ caps) = some as ∧ AC P f as r ∧ K (E.putO o.dst (retag (o.dst.getD 0) r))) ∨
      ∃ m as c0 r c1, mOK m = true ∧ mapO (lowerM m E.c 8) (fst ++ args.map E.ev ++ caps) = some as ∧ lentC m E.c = some c0 ∧ AM P f as c0 r c1 ∧ K ((backC m c1 E).putO o.dst (retag (o.dst.getD 0) (unlend m r))))
  | .bsl0 esz => ∃ d, o.dst = some d ∧ (K (E.put d (.sl (.own [d]) esz [])) ∨ K (E.put d (.sl (.fr [d]) esz [])))
  | op => ∃ E', step o.dst op E = some E' ∧ K E'

def awOps (P : Program) : List AOper → Env → (Env → Prop) → Prop
  | [], E, K => K E
  | o :: os, E, K => match o.guard with
    | none => awOp P o E fun E' => awOps P os E' K
    | some (s, want) => ∃ t, E.s s = .lit t ∧ (t = .bool want → awOp P o E fun E' => awOps P os E' K) ∧ (t ≠ .bool want → awOps P os (E.putO o.dst (.lit undef)) K)

section
variable {P : Program} {R : RE} {N : Nat} {env : Env} {a : Act} {E : RE}

theorem Inv.putO (h : Inv R N env a E) {d : Option Nat} (hd : ∀ k, d = some k → k < N) {x : AV} {v : Value} (hx : Rep E x v) : Inv R N (env.putO d x) (a.put d v) E := by
  cases d with
  | none => exact h
  | some k => exact h.put (hd k rfl) hx

theorem wp_val (hI : Inv R N env a E) {o : Oper} (hd : ∀ k, o.dst = some k → k < N) {x : AV} (h : ValOK P E a o x) {K : Act → World → Prop} {Q : Exit → Act → World → Prop}
    (hK : ∀ v E', Inv R N (env.putO o.dst x) (a.put o.dst v) E' → K (a.put o.dst v) E'.w) : o.wp P a E.w K Q := by
  obtain ⟨v, hr, hx⟩ := h
  unfold Oper.wp
  rw [hr, Oper.upon_value]
  exact hK v E (hI.putO hd hx)

theorem val_load_glob (hI : Inv R N env a E) (hR : R.Start) {o : Oper} {t : TypeId} {y : Operand} (ho : o.op = .load t y) (hb : isAggB P t = some false) {g : Nat} (hy : env.ev y = .gp g) (hg : g ∈ GS) :
    ValOK P E a o (.gl g) := by
  have h := hI.ev y
  rw [hy] at h
  simp only [Rep] at h
  have hc := hI.glob hR g hg
  refine ⟨.iface (E.G g).1 (.pointer (some (E.G g).2)), ?_, by simp only [Rep]; exact ⟨hg, trivial⟩⟩
  simp [execOp, ho, h, Instr.loadAt, Instr.sureAddr, Sem.run_bind, loadVar, run_isAgg hb, load, Sem.run, hc]

/-- Operations that only yield a value. -/
def plain : AOp → Bool
  | .alloc _ | .box _ | .bslice .. | .mks .. | .mko .. | .store .. | .app .. | .load .. | .loadc .. | .mkf .. | .mkm | .mup .. | .clr .. | .bsl0 _ => false
  | _ => true

theorem step_plain {d : Option Nat} {op : AOp} {env : Env} (h : plain op = true) : step d op env = match aval env op with | some x => some (env.putO d x) | none => none := by
  cases op <;> first | rfl | cases h

theorem eqaRes_plain (neg : Bool) (t : TypeId) (x y : Operand) : plain (eqaRes P neg t x y) = true := by
  unfold eqaRes
  repeat' split
  all_goals rfl

theorem wp_step (hI : Inv R N env a E) (hR : R.Start) {o : Oper} (hd : ∀ k, o.dst = some k → k < N) {env' : Env} (h : step o.dst (res P o.op) env = some env')
    {K : Act → World → Prop} {Q : Exit → Act → World → Prop} (hK : ∀ v E', Inv R N env' (a.put o.dst v) E' → K (a.put o.dst v) E'.w) : o.wp P a E.w K Q := by
  have val : ∀ ao, plain ao = true → step o.dst ao env = some env' → (∀ x, aval env ao = some x → ValOK P E a o x) → o.wp P a E.w K Q := by
    intro ao hp hs hv
    rw [step_plain hp] at hs
    split at hs
    · rename_i x hx
      injection hs with hs
      subst hs
      exact wp_val hI hd (hv x hx) hK
    · cases hs
  cases ho : o.op with
  | move x => rw [ho] at h; exact val (.mov x) rfl h (fun v hv => val_move hI (.inl ho) hv)
  | assign x => rw [ho] at h; exact val (.mov x) rfl h (fun v hv => val_move hI (.inr ho) hv)
  | pick c x y => rw [ho] at h; exact val (.pick c x y) rfl h (fun v hv => val_pick hI ho hv)
  | nilCheck x => rw [ho] at h; exact val (.nilchk x) rfl h (fun v hv => val_nilchk hI ho hv)
  | extract x i => rw [ho] at h; exact val (.ext x i) rfl h (fun v hv => val_ext hI ho hv)
  | unOp op t x => rw [ho] at h; exact val (.un op x) rfl h (fun v hv => val_un hI ho hv)
  | makeFunc fn p q => rw [ho] at h; exact val (.mkfn fn p.toList q.toList) rfl h (fun v hv => val_mkfn hI ho hv)
  | alloc t =>
    rw [ho] at h
    simp only [res] at h
    split at h
    · rename_i z hz
      simp only [step] at h
      split at h
      · rename_i d hdd
        rw [hdd] at hK
        exact wp_alloc hI ho hdd (hd d hdd) hz h hK
      · cases h
    · simp [step, aval] at h
  | box t x =>
    rw [ho] at h
    simp only [res, step] at h
    split at h
    · rename_i d hdd
      rw [hdd] at hK
      exact wp_box hI ho hdd (hd d hdd) h hK
    · cases h
  | buildSlice t n parts =>
    rw [ho] at h
    simp only [res] at h
    split at h
    · rename_i e ht
      split at h
      · rename_i i hi
        split at h
        · rename_i z hz
          split at h
          case isFalse => simp [step, aval] at h
          rename_i hidx
          split at h
          case isFalse => simp [step, aval] at h
          rename_i hlim
          split at h
          case isFalse => simp [step, aval] at h
          rename_i hzs
          simp only [step] at h
          split at h
          · rename_i d hdd
            rw [hdd] at hK
            exact wp_bslice hI ho hdd (hd d hdd) ht hi hz hzs hidx hlim.1 hlim.2 h hK
          · cases h
        · simp [step, aval] at h
      · simp [step, aval] at h
    · simp [step, aval] at h
  | makeSlice t l c =>
    rw [ho] at h
    simp only [res] at h
    split at h
    · rename_i e ht
      split at h
      · rename_i i b hi hbq
        split at h
        · rename_i z hz
          split at h
          case isFalse => simp [step, aval] at h
          rename_i hzs
          split at h
          case isFalse => simp [step, aval] at h
          split at h
          · rename_i hz0
            simp only [step] at h
            split at h
            · rename_i d hdd
              rw [hdd] at hK
              unfold isZeroOp at hz0
              split at hz0
              · exact wp_mko hI ho hdd (hd d hdd) ht hi hz hzs h hK
              · cases hz0
            · cases h
          · simp only [step] at h
            split at h
            · rename_i d hdd
              rw [hdd] at hK
              exact wp_mks hI ho hdd (hd d hdd) ht hi hz hzs h hK
            · cases h
        · simp [step, aval] at h
      · simp [step, aval] at h
    · simp [step, aval] at h
  | makeMap t r =>
    rw [ho] at h
    cases r with
    | some r => simp [res, step, aval] at h
    | none =>
      simp only [res] at h
      split at h
      · simp only [step] at h
        split at h
        · rename_i d hdd
          rw [hdd] at hK
          injection h with h
          subst h
          exact wp_mkm hI ho hdd (hd d hdd) hK
        · cases h
      · simp [step, aval] at h
  | mapUpdate t m k x =>
    rw [ho] at h
    simp only [res] at h
    split at h
    · rename_i kt e ht
      split at h
      · rename_i b hk
        simp only [step] at h
        split at h
        · rename_i hdd
          refine wp_mup hI (.inl ho) ht hk h fun E' hI' => ?_
          rw [hdd] at hK ⊢
          exact hK undef E' hI'
        · cases h
      · simp [step, aval] at h
    · simp [step, aval] at h
  | insert t m k x =>
    rw [ho] at h
    simp only [res] at h
    split at h
    · rename_i kt e ht
      split at h
      · rename_i b hk
        simp only [step] at h
        split at h
        · rename_i hdd
          refine wp_mup hI (.inr ho) ht hk h fun E' hI' => ?_
          rw [hdd] at hK ⊢
          exact hK undef E' hI'
        · cases h
      · simp [step, aval] at h
    · simp [step, aval] at h
  | lookup t m k ok =>
    rw [ho] at h
    simp only [res] at h
    split at h
    · rename_i kt e ht
      split at h
      · rename_i b z hk hz
        exact val (.lkp b (ofVal z) ok m k) rfl h (fun v hv => val_lkp hI ho ht hk hz hv)
      · simp [step, aval] at h
    · simp [step, aval] at h
  | store t x y =>
    rw [ho] at h
    simp only [res] at h
    split at h
    · rename_i i hi
      simp only [step] at h
      split at h
      · rename_i hdd
        refine wp_store hI ho hi h fun E' hI' => ?_
        rw [hdd] at hK ⊢
        exact hK undef E' hI'
      · cases h
    · simp [step, aval] at h
  | build t parts =>
    refine val (res P (.build t parts)) ?_ (by rw [← ho]; exact h) (fun v hv => val_build hI ho hv)
    simp only [res]
    repeat' split
    all_goals rfl
  | load t y =>
    rw [ho] at h
    simp only [res] at h
    split at h
    · rename_i b i hb hi
      simp only [step] at h
      split at h
      · rename_i g hg
        split at h
        · rename_i hbf
          split at h
          · rename_i hgs
            injection h with h
            subst h hbf
            exact wp_val hI hd (val_load_glob hI hR ho hb hg hgs) hK
          · cases h
        · cases h
      · split at h
        · rename_i x hx
          injection h with h
          subst h
          exact wp_val hI hd (val_load hI ho (by simp only [res, hb, hi]; exact hx)) hK
        · cases h
    · simp [step, aval] at h
  | fieldAddr t x f =>
    refine val (res P (.fieldAddr t x f)) ?_ (by rw [← ho]; exact h) (fun v hv => val_faddr hI ho hv)
    simp only [res]
    repeat' split
    all_goals rfl
  | field t x f =>
    refine val (res P (.field t x f)) ?_ (by rw [← ho]; exact h) (fun v hv => val_fld hI ho hv)
    simp only [res]
    repeat' split
    all_goals rfl
  | indexAddr t x i =>
    refine val (res P (.indexAddr t x i)) ?_ (by rw [← ho]; exact h) (fun v hv => val_iaddr hI ho hv)
    simp only [res]
    repeat' split
    all_goals rfl
  | index t x i =>
    rw [ho] at h
    simp only [res] at h
    split at h
    · rename_i ht
      exact val (.idxs x i) rfl h (fun v hv => val_idxs hI ho ht hv)
    · rename_i n e ht
      split at h
      · rename_i inf b hi hb
        exact val (.idxa b n inf.size x i) rfl h (fun v hv => val_idxa hI ho ht hi hb hv)
      · simp [step, aval] at h
    · simp [step, aval] at h
  | makeInterface t x =>
    rw [ho] at h
    cases ht : P.underlying t with
    | none => simp [res, ht, step, aval] at h
    | some d =>
      cases d with
      | interface ms => simp [res, ht, step, aval] at h
      | _ => exact val (.mkif t x) rfl (by simp only [res, ht] at h; exact h) (fun v hv => val_mkif hI ho ht (by simp) hv)
  | convert s d x =>
    rw [ho] at h
    simp only [res] at h
    split at h
    · rename_i q k hs hdd
      exact val (.cint k x) rfl h (fun v hv => val_cint hI ho hs hdd hv)
    · rename_i hs hdd
      exact val (.cid x) rfl h (fun v hv => val_cid hI ho hs hdd hv)
    · rename_i q hs hdd
      exact val (.i2s x) rfl h (fun v hv => val_i2s hI ho hs hdd hv)
    · rename_i e hs hdd
      split at h
      · rename_i he _
        exact val (.b2s x) rfl h (fun v hv => val_b2s hI ho hs he hdd hv)
      · simp [step, aval] at h
    · simp [step, aval] at h
  | typeAssert x xt t c =>
    rw [ho] at h
    cases c with
    | false => simp [res, step, aval] at h
    | true =>
      simp only [res] at h
      split at h
      · simp [step, aval] at h
      · rename_i e z ht hz
        exact val (.tas t (ofVal z) x) rfl h (fun v hv => val_tas hI hR ho ht hz hv)
      · simp [step, aval] at h
  | slice t x lo hi mx =>
    rw [ho] at h
    simp only [res] at h
    split at h
    · rename_i ht
      refine val (.slcs x lo hi) rfl h (fun v hv => ?_)
      cases hx : env.ev x with
      | lit u =>
        cases u with
        | string s => exact val_slc_str hI ho ht hx hv
        | _ => simp [aval, hx] at hv
      | _ => simp [aval, hx] at hv
    · rename_i e ht
      split at h
      · rename_i i hi'
        refine val (.slc i.size x lo hi) rfl h (fun v hv => ?_)
        cases hx : env.ev x with
        | sl tk e rows => exact val_slc hI ho ht hi' hx hv
        | ml c' off n cap g e => exact val_slc_ml hI ho ht hi' hx hv
        | _ => simp [aval, hx] at hv
      · simp [step, aval] at h
    · simp [step, aval] at h
  | binOp op t x y t' =>
    rw [ho] at h
    simp only [res] at h
    split at h
    · rename_i ht
      exact val _ rfl h (fun v hv => val_eqb (neg := false) hI ho rfl ht hv)
    · rename_i ht
      exact val _ rfl h (fun v hv => val_eqb (neg := true) hI ho rfl ht hv)
    · rename_i ms ht
      exact val (.eqn false x) rfl h (fun v hv => val_eqn hI ho rfl ht hv)
    · rename_i ms ht
      exact val (.eqn true x) rfl h (fun v hv => val_eqn hI ho rfl ht hv)
    · rename_i e ht
      exact val (.eqp false x) rfl h (fun v hv => val_eqp hI ho rfl ht hv)
    · rename_i e ht
      exact val (.eqp true x) rfl h (fun v hv => val_eqp hI ho rfl ht hv)
    · rename_i e ht
      exact val (.eqs false x) rfl h (fun v hv => val_eqs hI ho rfl ht hv)
    · rename_i e ht
      exact val (.eqs true x) rfl h (fun v hv => val_eqs hI ho rfl ht hv)
    · exact val _ (eqaRes_plain ..) h (fun v hv => val_eqa (neg := false) hI ho rfl hv)
    · exact val _ (eqaRes_plain ..) h (fun v hv => val_eqa (neg := true) hI ho rfl hv)
    · exact val _ (eqaRes_plain ..) h (fun v hv => val_eqa (neg := false) hI ho rfl hv)
    · exact val _ (eqaRes_plain ..) h (fun v hv => val_eqa (neg := true) hI ho rfl hv)
    · rename_i y' ms ht _
      split at h
      · rename_i hs
        exact val (.eqi false x _) rfl h (fun v hv => val_eqi (neg := false) hI hR ho rfl ht hs hv)
      · simp [step, aval] at h
    · rename_i y' ms ht _
      split at h
      · rename_i hs
        exact val (.eqi true x _) rfl h (fun v hv => val_eqi (neg := true) hI hR ho rfl ht hs hv)
      · simp [step, aval] at h
    · exact val _ rfl h (fun v hv => val_bin hI ho hv)
  | call c =>
    rw [ho] at h
    simp only [res] at h
    split at h
    · simp [step, aval] at h
    · simp [step, aval] at h
    · rename_i hc
      split at h
      · rename_i t y hat har
        split at h
        · rename_i ht
          exact val (.lens y) rfl h (fun v hv => val_lens hI ho hc hat har ht hv)
        · rename_i e ht
          exact val (.lenl y) rfl h (fun v hv => val_lenl hI ho hc hat har ht hv)
        · simp [step, aval] at h
      · simp [step, aval] at h
    · rename_i hc
      split at h
      · rename_i t x hat har
        split at h
        · rename_i e ht
          split at h
          · rename_i i hi
            split at h
            · rename_i z hz
              split at h
              · rename_i hzs
                simp only [step] at h
                split at h
                · rename_i hdd
                  exact wp_clr hI ho hc hat har ht hi hz hzs h hdd hK
                · cases h
              · simp [step, aval] at h
            · simp [step, aval] at h
          · simp [step, aval] at h
        · simp [step, aval] at h
      · simp [step, aval] at h
    · rename_i hc
      exact val (.mnmx false c.args.toList) rfl h (fun v hv => val_mnmx (mx := false) hI ho (by simpa using hc) hv)
    · rename_i hc
      exact val (.mnmx true c.args.toList) rfl h (fun v hv => val_mnmx (mx := true) hI ho (by simpa using hc) hv)
    · rename_i hc
      split at h
      · rename_i t u x y hat har
        split at h
        case isFalse => simp [step, aval] at h
        rename_i htu
        subst htu
        split at h
        · rename_i e ht
          split at h
          · rename_i i hi
            split at h
            · rename_i z hz
              split at h
              case isFalse => simp [step, aval] at h
              rename_i hzs
              split at h
              case isFalse => simp [step, aval] at h
              rename_i hsz
              split at h
              case isFalse => simp [step, aval] at h
              rename_i hz1
              simp only [step] at h
              split at h
              · rename_i d hdd
                rw [hdd] at hK
                rw [if_pos (okBs_nil _)] at h
                exact wp_app hI ho hdd (hd d hdd) hc hat har ht hi hz hzs hsz hz1 h hK
              · cases h
            · simp [step, aval] at h
          · simp [step, aval] at h
        · simp [step, aval] at h
      · simp [step, aval] at h
    · simp [step, aval] at h
  | _ => rw [ho] at h; simp [res, step, aval] at h

end
end Go.Proofs.Ytmjmfollimaleaa.VL
