/- The value logic, part 20: the contract's closed conditions in one equation; words for the walk. -/
import Derived.Test.YtmjmfollimaleaaVL19
set_option linter.unusedVariables false
set_option linter.unusedSimpArgs false
namespace Go.Proofs.Ytmjmfollimaleaa.VL
open Go.RowKit

/-- What is asked of a function's text: all closed. -/
def closedOf (P : Program) (fn : Func) : Bool × Option Bool × Option (List RV) × Option ACode × Nat :=
  (fn.name == "runtime.NumGoroutine", fn.body.map (slotsOK fn.ntmps), mapO (resRV P) fn.results.toList, fn.body.map (resCode P), fn.ntmps)

def endQ (rvs : List RV) (r : AV) : AExit → Env → Prop
  | .exit _, _ => False
  | _, E => retR E rvs = some r

def endM (rvs : List RV) (r : AV) (ks : List Nat) (c1 : List (Nat × List AV)) : AExit → Env → Prop
  | .exit _, _ => False
  | _, E => retR E rvs = some r ∧ retC E ks = some c1

theorem AM_mk {P : Program} {f : FuncId} {fn : Func} {body : ACode} {rvs : List RV} {n : Nat} {args : List AV} {c0 c1 : List (Nat × List AV)} {r : AV} (hm : P.follows .mixedOrders = true) (hf : P.funcs[f]? = some fn)
    (hc : closedOf P fn = (false, some true, some rvs, some body.plain, n)) (hargs : args.length ≤ n) (hok : resOK r = true) (hn : n ≤ 100000) (hc0 : ∀ q ∈ c0, 100000 ≤ q.1) (h : aw P body (env0M args c0) (endM rvs r (c0.map (·.1)) c1)) : AM P f args c0 r c1 := by
  simp only [closedOf, Prod.mk.injEq] at hc
  obtain ⟨h1, h2, h3, h4, h5⟩ := hc
  obtain ⟨code, hb, h2⟩ := Option.map_eq_some_iff.1 h2
  rw [hb] at h4
  simp only [Option.map_some, Option.some.injEq] at h4
  refine AM_of hm hf h1 hb h4 h2 h3 (by rw [h5]; exact hargs) hok (by rw [h5]; exact hn) hc0 (aw_mono _ h fun ex E hq => ?_)
  cases ex with
  | normal => exact ⟨trivial, hq⟩
  | ret => exact ⟨trivial, hq⟩
  | exit i => exact hq.elim
where
  aw_mono {P : Program} : ∀ (c : ACode) {E : Env} {Q Q' : AExit → Env → Prop}, aw P c E Q → (∀ ex E, Q ex E → Q' ex E) → aw P c E Q'
    | .skip, E, Q, Q', h, hq => hq _ _ h
    | .ret, E, Q, Q', h, hq => hq _ _ h
    | .bad, E, Q, Q', h, hq => h.elim
    | .exit i, E, Q, Q', h, hq => hq _ _ h
    | .shift a, E, Q, Q', h, hq => by
      simp only [aw] at h ⊢
      obtain ⟨S, hvs, h⟩ := h
      exact ⟨S, hvs, fun E' hS => aw_mono a (h E' hS) hq⟩
    | .region true ops kl, E, Q, Q', h, hq => by
      simp only [aw] at h ⊢
      exact awOpsD_mono ops (fun E h => hq _ _ h) h
    | .region false ops kl, E, Q, Q', h, hq => by
      simp only [aw] at h ⊢
      exact awOps_mono ops (fun E h => hq _ _ h) h
    | .seq a b, E, Q, Q', h, hq => by
      simp only [aw] at h ⊢
      exact aw_mono a h fun ex E h => by
        cases ex with
        | normal => exact aw_mono b h hq
        | exit i => exact hq _ _ h
        | ret => exact hq _ _ h
    | .cond c a b, E, Q, Q', h, hq => by
      simp only [aw] at h ⊢
      obtain ⟨t, ht, h1, h2⟩ := h
      exact ⟨t, ht, fun e => aw_mono a (h1 e) hq, fun e => aw_mono b (h2 e) hq⟩
    | .block i a kl, E, Q, Q', h, hq => by
      simp only [aw] at h ⊢
      exact aw_mono a h fun ex E h => by
        cases ex with
        | normal => exact hq _ _ h
        | exit j =>
          simp only [blockQ] at h ⊢
          split
          · rename_i hj; rw [if_pos hj] at h; exact hq _ _ h
          · rename_i hj; rw [if_neg hj] at h; exact hq _ _ h
        | ret => exact hq _ _ h
    | .loop a kl dl, E, Q, Q', h, hq => by
      simp only [aw] at h ⊢
      obtain ⟨I, n, h0, hr⟩ := h
      exact ⟨I, n, h0, fun m E' hi => aw_mono a (hr m E' hi) fun ex E h => by
        cases ex with
        | normal => exact h
        | exit i => exact hq _ _ h
        | ret => exact hq _ _ h⟩
  awOps_mono {P : Program} : ∀ (l : List AOper) {E : Env} {K K' : Env → Prop}, (∀ E, K E → K' E) → awOps P l E K → awOps P l E K'
    | [], E, K, K', hk, h => hk _ h
    | o :: os, E, K, K', hk, h => by
      rw [awOps_cons] at h ⊢
      exact awG_mono (fun E h => awOps_mono os hk h) h
  awOpsD_mono {P : Program} : ∀ (l : List AOper) {E : Env} {K K' : Env → Prop}, (∀ E, K E → K' E) → awOpsD P l E K → awOpsD P l E K'
    | [], E, K, K', hk, h => hk _ h
    | o :: os, E, K, K', hk, h => by
      simp only [awOpsD] at h ⊢
      exact awD_mono (fun E h => awOpsD_mono os hk h) h
  awG_mono {P : Program} {o : AOper} {E : Env} {K K' : Env → Prop} (hk : ∀ E, K E → K' E) (h : awG P o E K) : awG P o E K' := by
    have op : awOp P o E K → awOp P o E K' := by
      intro h
      unfold awOp at h ⊢
      split at h
      · obtain ⟨as, r, h1, h2, h3⟩ := h; exact ⟨as, r, h1, h2, hk _ h3⟩
      · obtain ⟨f, a, b, h0, as, r, h1, h2, h3⟩ := h; exact ⟨f, a, b, h0, as, r, h1, h2, hk _ h3⟩
      · exact h.imp (fun ⟨as, r, h1, h2, h3⟩ => ⟨as, r, h1, h2, hk _ h3⟩) fun ⟨m, as, c0, r, c1, h1, h2, h3, h4, h5⟩ => ⟨m, as, c0, r, c1, h1, h2, h3, h4, hk _ h5⟩
      · obtain ⟨f, a, b, h0, h⟩ := h
        exact ⟨f, a, b, h0, h.imp (fun ⟨as, r, h1, h2, h3⟩ => ⟨as, r, h1, h2, hk _ h3⟩) fun ⟨m, as, c0, r, c1, h1, h2, h3, h4, h5⟩ => ⟨m, as, c0, r, c1, h1, h2, h3, h4, hk _ h5⟩⟩
      · obtain ⟨d, h1, h2⟩ := h; exact ⟨d, h1, h2.imp (hk _) (hk _)⟩
      · obtain ⟨E', h1, h2⟩ := h; exact ⟨E', h1, hk _ h2⟩
    unfold awG at h ⊢
    split at h
    · exact op h
    · obtain ⟨t, ht, h3, h4⟩ := h
      exact ⟨t, ht, fun e => op (h3 e), fun e => hk _ (h4 e)⟩

theorem AC_mk {P : Program} {f : FuncId} {fn : Func} {body : ACode} {rvs : List RV} {n : Nat} {args : List AV} {r : AV} (hm : P.follows .mixedOrders = true) (hf : P.funcs[f]? = some fn)
    (hc : closedOf P fn = (false, some true, some rvs, some body.plain, n)) (hargs : args.length ≤ n) (hok : resOK r = true) (hn : n ≤ 100000) (h : aw P body (env0 args) (endQ rvs r)) : AC P f args r :=
  AM_mk hm hf hc hargs hok hn (fun q hq => by simp at hq) (AM_mk.aw_mono _ h fun ex E hq => by
    cases ex with
    | exit i => exact hq
    | normal => exact ⟨hq, rfl⟩
    | ret => exact ⟨hq, rfl⟩)

/-! ### Environments written as lists -/
def mkE (s : List (Nat × AV)) (c : List (Nat × List AV)) : Env := ⟨getA s, getC c⟩

theorem env0_mk (args : List AV) : env0 args = mkE (args0 args 0) [] := rfl
theorem env0M_mk (args : List AV) (c0 : List (Nat × List AV)) : env0M args c0 = mkE (args0 args 0) c0 := rfl

theorem mkE_s (s : List (Nat × AV)) (c : List (Nat × List AV)) (k : Nat) : (mkE s c).s k = getA s k := rfl
theorem mkE_c (s : List (Nat × AV)) (c : List (Nat × List AV)) (k : Nat) : (mkE s c).c k = getC c k := rfl

theorem getA_putA (k : Nat) (x : AV) : ∀ (l : List (Nat × AV)) (j : Nat), getA (putA l k x) j = if j = k then x else getA l j
  | [], j => by simp only [putA, getA]
  | (i, y) :: r, j => by
    simp only [putA]
    split
    · simp only [getA]
    · rename_i h1
      split
      · rename_i h2
        simp only [getA]
        split <;> rename_i h3
        · rfl
        · rw [if_neg (by omega)]
      · rename_i h2
        simp only [getA, getA_putA k x r j]
        split <;> rename_i h3
        · rw [if_neg (by omega)]
        · rfl

theorem getC_putA (k : Nat) (x : List AV) : ∀ (l : List (Nat × List AV)) (j : Nat), getC (putA l k x) j = if j = k then some x else getC l j
  | [], j => by simp only [putA, getC]
  | (i, y) :: r, j => by
    simp only [putA]
    split
    · simp only [getC]
    · rename_i h1
      split
      · rename_i h2
        simp only [getC]
        split <;> rename_i h3
        · rfl
        · rw [if_neg (by omega)]
      · rename_i h2
        simp only [getC, getC_putA k x r j]
        split <;> rename_i h3
        · rw [if_neg (by omega)]
        · rfl

theorem mkE_put (s : List (Nat × AV)) (c : List (Nat × List AV)) (k : Nat) (x : AV) : (mkE s c).put k x = mkE (putA s k x) c := by
  simp only [mkE, Env.put, Env.mk.injEq, and_true]
  funext j
  rw [getA_putA]
  rfl

theorem mkE_putc (s : List (Nat × AV)) (c : List (Nat × List AV)) (k : Nat) (x : List AV) : (mkE s c).putc k x = mkE s (putA c k x) := by
  simp only [mkE, Env.putc, Env.mk.injEq, true_and]
  funext j
  rw [getC_putA]
  rfl

def dropL {α : Type} (kl : List Nat) : List (Nat × α) → List (Nat × α)
  | [] => []
  | (j, x) :: r => if kl.contains j then dropL kl r else (j, x) :: dropL kl r

theorem getA_dropL (kl : List Nat) : ∀ (l : List (Nat × AV)) (j : Nat), getA (dropL kl l) j = if kl.contains j then .dead else getA l j
  | [], j => by simp [dropL, getA]
  | (i, y) :: r, j => by
    simp only [dropL]
    by_cases h : kl.contains i = true
    · rw [if_pos h, getA_dropL kl r j]
      simp only [getA]
      by_cases hj : j = i
      · subst hj; rw [if_pos h, if_pos h]
      · rw [if_neg hj]
    · rw [if_neg h]
      simp only [getA, getA_dropL kl r j]
      by_cases hj : j = i
      · subst hj; rw [if_pos rfl, if_neg h, if_pos rfl]
      · rw [if_neg hj, if_neg hj]

theorem mkE_dropS (s : List (Nat × AV)) (c : List (Nat × List AV)) (kl : List Nat) : (mkE s c).dropS kl = mkE (dropL kl s) c := by
  simp only [mkE, Env.dropS, Env.mk.injEq, and_true]
  funext j
  rw [getA_dropL]

def mapV {α : Type} (f : α → α) : List (Nat × α) → List (Nat × α)
  | [] => []
  | (j, x) :: r => (j, f x) :: mapV f r

theorem getA_mapV (f : AV → AV) (hf : f .dead = .dead) : ∀ (l : List (Nat × AV)) (j : Nat), getA (mapV f l) j = f (getA l j)
  | [], j => by simp [mapV, getA, hf]
  | (i, y) :: r, j => by
    simp only [mapV, getA, getA_mapV f hf r j]
    split <;> rfl

theorem getC_mapV (f : List AV → List AV) : ∀ (l : List (Nat × List AV)) (j : Nat), getC (mapV f l) j = (getC l j).map f
  | [], j => by simp [mapV, getC]
  | (i, y) :: r, j => by
    simp only [mapV, getC, getC_mapV f r j]
    split <;> rfl

theorem getC_dropL (d : Nat) : ∀ (l : List (Nat × List AV)) (j : Nat), getC (dropL [d] l) j = if j = d then none else getC l j
  | [], j => by simp [dropL, getC]
  | (i, y) :: r, j => by
    simp only [dropL]
    by_cases h : i = d
    · subst h
      rw [if_pos (by simp), getC_dropL i r j]
      simp only [getC]
      by_cases hj : j = i
      · simp [hj]
      · simp [hj]
    · rw [if_neg (by simp [h])]
      simp only [getC, getC_dropL d r j]
      by_cases hj : j = i
      · subst hj; simp [h]
      · simp [hj]

theorem mkE_fresh (s : List (Nat × AV)) (c : List (Nat × List AV)) (d : Nat) : (mkE s c).fresh d = match getC c d with | none => mkE s c | some _ => mkE (mapV (kill d) s) (mapV (killL d) (dropL [d] c)) := by
  unfold Env.fresh
  rw [mkE_c]
  cases hc : getC c d with
  | none => rfl
  | some v =>
    simp only [mkE, Env.forget, Env.mk.injEq]
    constructor
    · funext j; rw [getA_mapV _ rfl]
    · funext j
      rw [getC_mapV, getC_dropL]
      split <;> rfl

theorem mkE_strip (s : List (Nat × AV)) (c : List (Nat × List AV)) (τ : List Nat) : (mkE s c).strip τ = mkE (mapV (strip τ) s) (mapV (stripL τ) c) := by
  simp only [mkE, Env.strip, Env.mk.injEq]
  constructor
  · funext j; rw [getA_mapV _ rfl]
  · funext j; rw [getC_mapV]

theorem ev_tmp (E : Env) (t : Nat) : E.ev (.tmp t) = E.s t := rfl
theorem ev_const (E : Env) (v : Value) : E.ev (.const v) = ofVal v := rfl
theorem ev_func (E : Env) (f : Nat) : E.ev (.func f) = .clo (.func f) [] [] := rfl
theorem ev_global (E : Env) (g : Nat) : E.ev (.global g) = .gp g := rfl

end Go.Proofs.Ytmjmfollimaleaa.VL
