/- The value logic, part 18: whole bodies; a contract out of a body's walk. -/
import Derived.Test.YtmjmfollimaleaaVL17
import Derived.Deep.LoopGhost
set_option linter.unusedVariables false
set_option linter.unusedSimpArgs false
namespace Go.Proofs.Ytmjmfollimaleaa.VL
open Go.RowKit

/-- Code, resolved. The lists say what is looked at no more. -/
inductive ACode where
  | skip | ret | bad
  | region (draw : Bool) (ops : List AOper) (kl : List Nat)
  | seq (a b : ACode)
  | cond (c : Operand) (a b : ACode)
  | block (id : Nat) (a : ACode) (kl : List Nat)
  | loop (a : ACode) (kl dl : List Nat)
  | exit (id : Nat)
  | shift (a : ACode)
  deriving Inhabited

def ACode.plain : ACode → ACode
  | .region d ops _ => .region d ops []
  | .seq a b => .seq a.plain b.plain
  | .cond c a b => .cond c a.plain b.plain
  | .block i a _ => .block i a.plain []
  | .loop a _ _ => .loop a.plain [] []
  | .shift a => a.plain
  | c => c

def resCode (P : Program) : Code → ACode
  | .skip => .skip
  | .ret => .ret
  | .region _ ops d => if d then (if okDraw P ops then .region true (ops.toList.map (resOperD P ops)) [] else .bad) else .region false (ops.toList.map (resOperT P ops)) []
  | .seq a b => .seq (resCode P a) (resCode P b)
  | .cond c a b => .cond c (resCode P a) (resCode P b)
  | .block i a => .block i (resCode P a) []
  | .loop a => .loop (resCode P a) [] []
  | .exit i => .exit i
  | _ => .bad

/-- All slots that are written lie below N. -/
def slotsOK (N : Nat) : Code → Bool
  | .region _ ops _ => ops.toList.all fun o => match o.dst with | some d => decide (d < N) | none => true
  | .seq a b => slotsOK N a && slotsOK N b
  | .cond _ a b => slotsOK N a && slotsOK N b
  | .block _ a => slotsOK N a
  | .loop a => slotsOK N a
  | _ => true

inductive AExit where
  | normal | exit (id : Nat) | ret

def Env.dropS (E : Env) (kl : List Nat) : Env := ⟨fun k => if kl.contains k then .dead else E.s k, E.c⟩

def thenQ (K : Env → Prop) (Q : AExit → Env → Prop) : AExit → Env → Prop
  | .normal, E => K E
  | .exit i, E => Q (.exit i) E
  | .ret, E => Q .ret E

def blockQ (id : Nat) (kl : List Nat) (Q : AExit → Env → Prop) : AExit → Env → Prop
  | .normal, E => Q .normal (E.dropS kl)
  | .exit i, E => if i = id then Q .normal (E.dropS kl) else Q (.exit i) E
  | .ret, E => Q .ret E

def aw (P : Program) : ACode → Env → (AExit → Env → Prop) → Prop
  | .skip, E, Q => Q .normal E
  | .ret, E, Q => Q .ret E
  | .bad, _, _ => False
  | .region true ops kl, E, Q => awOpsD P ops (E.freshL (allocs ops)) fun E' => Q .normal (E'.dropS kl)
  | .region false ops kl, E, Q => awOps P ops E fun E' => Q .normal (E'.dropS kl)
  | .seq a b, E, Q => aw P a E (thenQ (fun E' => aw P b E' Q) Q)
  | .cond c a b, E, Q => ∃ t, E.ev c = .lit (.bool t) ∧ (t = true → aw P a E Q) ∧ (t = false → aw P b E Q)
  | .block id a kl, E, Q => aw P a E (blockQ id kl Q)
  | .loop a kl dl, E, Q => ∃ (I : Nat → Env → Prop) (n : Nat), I n ((E.dropS kl).freshL dl) ∧ ∀ m E', I m E' → aw P a E' (thenQ (fun E'' => ∃ k, k < m ∧ I k ((E''.dropS kl).freshL dl)) Q)
  | .exit i, E, Q => Q (.exit i) E
  | .shift a, E, Q => ∃ S, VS E S ∧ ∀ E', S E' → aw P a E' Q

section
variable {P : Program} {R : RE} {N : Nat}

theorem Inv.dropS {env : Env} {a : Act} {E : RE} (h : Inv R N env a E) (kl : List Nat) : Inv R N (env.dropS kl) a E :=
  h.forget (fun k => by simp only [Env.dropS]; split <;> simp) rfl

def AExit.to : AExit → Exit
  | .normal => .normal
  | .exit i => .exit i
  | .ret => .ret

theorem aw_sound (hR : R.Start) (hm : P.follows .mixedOrders = true) : ∀ (body : ACode) (code : Code) (env : Env) (a : Act) (E : RE) (QA : AExit → Env → Prop) (Q : Exit → Act → World → Prop),
    resCode P code = body.plain → slotsOK N code = true → Inv R N env a E → aw P body env QA → (∀ ex env' a' E', QA ex env' → Inv R N env' a' E' → Q ex.to a' E'.w) → code.wp P Q a E.w := by
  have hdOf : ∀ {id : Nat} {ops : Array Oper} {d : Bool}, slotsOK N (.region id ops d) = true → ∀ (j : Nat) (o : Oper) (k : Nat), ops[j]? = some o → o.dst = some k → k < N := by
    intro id ops d h j o k ho hk
    simp only [slotsOK, List.all_eq_true] at h
    have := h o (by have := List.mem_of_getElem? (l := ops.toList) (i := j) (by simpa using ho); exact this)
    rw [hk] at this
    simpa using this
  intro body
  induction body with
  | skip =>
    intro code env a E QA Q hres hN hI h hQ
    cases code <;> simp only [resCode, ACode.plain] at hres <;> first
      | exact wp_skip (hQ _ _ _ _ h hI)
      | (cases hres; done)
      | (split at hres <;> (try split at hres) <;> cases hres; done)
  | ret =>
    intro code env a E QA Q hres hN hI h hQ
    cases code <;> simp only [resCode, ACode.plain] at hres <;> first
      | exact wp_ret (hQ .ret _ _ _ h hI)
      | (cases hres; done)
      | (split at hres <;> (try split at hres) <;> cases hres; done)
  | bad => intro code env a E QA Q hres hN hI h hQ; exact h.elim
  | exit i =>
    intro code env a E QA Q hres hN hI h hQ
    cases code <;> simp only [resCode, ACode.plain] at hres <;> first
      | (injection hres with hres; subst hres; exact wp_exit (hQ (.exit _) _ _ _ h hI))
      | (cases hres; done)
      | (split at hres <;> (try split at hres) <;> cases hres; done)
  | shift x ih =>
    intro code env a E QA Q hres hN hI h hQ
    simp only [ACode.plain] at hres
    simp only [aw] at h
    obtain ⟨S, hvs, h⟩ := h
    obtain ⟨env', E', hw, hS, hI'⟩ := hvs R N a E hR hI
    rw [← hw]
    exact ih code env' a E' QA Q hres hN hI' (h env' hS) hQ
  | region d ops kl =>
    intro code env a E QA Q hres hN hI h hQ
    cases code <;> simp only [resCode, ACode.plain] at hres <;> first
      | (cases hres; done)
      | skip
    rename_i id cops cd
    have hd := hdOf hN
    cases cd with
    | true =>
      rw [if_pos rfl] at hres
      split at hres
      · rename_i hok
        injection hres with h1 h2
        subst h1 h2
        simp only [aw] at h
        exact wp_draw_aw hI hR hm hok hd h fun a' E' env' hk hI' => hQ .normal _ _ _ hk (hI'.dropS kl)
      · cases hres
    | false =>
      rw [if_neg (by simp)] at hres
      injection hres with h1 h2
      subst h1 h2
      simp only [aw] at h
      exact wp_region_aw hI hR hd h fun a' E' env' hk hI' => hQ .normal _ _ _ hk (hI'.dropS kl)
  | seq x y ihx ihy =>
    intro code env a E QA Q hres hN hI h hQ
    cases code <;> simp only [resCode, ACode.plain] at hres <;> first
      | (cases hres; done)
      | (split at hres <;> (try split at hres) <;> cases hres; done)
      | skip
    rename_i cx cy
    injection hres with h1 h2
    simp only [slotsOK, Bool.and_eq_true] at hN
    simp only [aw] at h
    refine wp_seq (ihx cx env a E _ _ h1 hN.1 hI h ?_)
    intro ex env' a' E' hq hI'
    cases ex with
    | normal => exact ihy cy env' a' E' QA Q h2 hN.2 hI' hq hQ
    | exit i => exact hQ (.exit i) _ _ _ hq hI'
    | ret => exact hQ .ret _ _ _ hq hI'
  | cond c x y ihx ihy =>
    intro code env a E QA Q hres hN hI h hQ
    cases code <;> simp only [resCode, ACode.plain] at hres <;> first
      | (cases hres; done)
      | (split at hres <;> (try split at hres) <;> cases hres; done)
      | skip
    rename_i cc cx cy
    injection hres with h0 h1 h2
    subst h0
    simp only [slotsOK, Bool.and_eq_true] at hN
    simp only [aw] at h
    obtain ⟨t, ht, hx, hy⟩ := h
    have hc := hI.ev cc
    rw [ht] at hc
    simp only [Rep] at hc
    exact wp_cond_split hc (fun e => ihx cx env a E QA Q h1 hN.1 hI (hx e) hQ) (fun e => ihy cy env a E QA Q h2 hN.2 hI (hy e) hQ)
  | block i x kl ih =>
    intro code env a E QA Q hres hN hI h hQ
    cases code <;> simp only [resCode, ACode.plain] at hres <;> first
      | (cases hres; done)
      | (split at hres <;> (try split at hres) <;> cases hres; done)
      | skip
    rename_i ci cx
    injection hres with h0 h1
    subst h0
    simp only [slotsOK] at hN
    simp only [aw] at h
    refine wp_block (ih cx env a E _ _ h1 hN hI h ?_)
    intro ex env' a' E' hq hI'
    cases ex with
    | normal => exact hQ .normal _ _ _ hq (hI'.dropS kl)
    | exit j =>
      simp only [blockQ] at hq
      show Exit.inBlock ci Q (.exit j) a' E'.w
      simp only [Exit.inBlock]
      split at hq
      · rename_i hj
        rw [if_pos hj]
        exact hQ .normal _ _ _ hq (hI'.dropS kl)
      · rename_i hj
        rw [if_neg hj]
        exact hQ (.exit j) _ _ _ hq hI'
    | ret => exact hQ .ret _ _ _ hq hI'
  | loop x kl dl ih =>
    intro code env a E QA Q hres hN hI h hQ
    cases code <;> simp only [resCode, ACode.plain] at hres <;> first
      | (cases hres; done)
      | (split at hres <;> (try split at hres) <;> cases hres; done)
      | skip
    rename_i cx
    injection hres with h1
    simp only [slotsOK] at hN
    simp only [aw] at h
    obtain ⟨I, n, h0, hround⟩ := h
    have start : ∀ {env : Env} {a : Act} {E : RE} {k : Nat}, Inv R N env a E → I k ((env.dropS kl).freshL dl) → ∃ env' E', E'.w = E.w ∧ I k env' ∧ Inv R N env' a E' := by
      intro env a E k hI hk
      obtain ⟨E1, hw, hI1⟩ := (hI.dropS kl).freshL dl
      exact ⟨_, E1, hw, hk, hI1⟩
    refine wp_loop_ghost (fun k a w => ∃ env' E', E'.w = w ∧ I k env' ∧ Inv R N env' a E') n (start hI h0) ?_
    rintro m a1 w1 ⟨env1, E1, rfl, hI1, hinv⟩
    refine ih cx env1 a1 E1 _ _ h1 hN hinv (hround m env1 hI1) ?_
    intro ex env' a' E' hq hI'
    cases ex with
    | normal =>
      obtain ⟨k, hlt, hk⟩ := hq
      exact ⟨k, hlt, start hI' hk⟩
    | exit j => exact hQ (.exit j) _ _ _ hq hI'
    | ret => exact hQ .ret _ _ _ hq hI'

inductive RV where
  | tmp (t : Nat)
  | cell (agg : Bool) (size t : Nat)

def resRV (P : Program) : ResultVar → Option RV
  | .tmp t => some (.tmp t)
  | .cell t ty => match isAggB P ty, P.info? ty with
    | some b, some i => some (.cell b i.size t)
    | _, _ => none

def rvVal (E : Env) : RV → Option AV
  | .tmp t => some (E.s t)
  | .cell agg size t => match E.s t with
    | .lp c o => match E.c c with
      | some cs => aval.ld agg size (cs.drop o)
      | none => none
    | _ => none

/-- A call's own cells; names from 100000 on are lent. -/
def locC (C : Nat → Option (List AV)) : Nat → Option (List AV) := fun c => if c < 100000 then C c else none

/-- What the lent cells hold at the end. -/
def retC (E : Env) (ks : List Nat) : Option (List (Nat × List AV)) := mapO (fun k => match E.c k with
  | some cs => match mapO (retv (locC E.c) false 8) cs with
    | some l => some (k, l)
    | none => none
  | none => none) ks

/-- What comes back. -/
def retR (E : Env) (rvs : List RV) : Option AV :=
  match mapO (rvVal E) rvs with
  | some xs => match mapO (retv (locC E.c) true 8) xs with
    | some [y] => some y
    | some ys => some (.tup ys)
    | none => none
  | none => none

def args0 : List AV → Nat → List (Nat × AV)
  | [], _ => []
  | x :: xs, k => (k, x) :: args0 xs (k + 1)

def env0M (args : List AV) (c0 : List (Nat × List AV)) : Env := ⟨getA (args0 args 0), getC c0⟩
abbrev env0 (args : List AV) : Env := env0M args []

end
end Go.Proofs.Ytmjmfollimaleaa.VL
