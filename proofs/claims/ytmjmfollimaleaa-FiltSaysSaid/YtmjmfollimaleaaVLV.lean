/- The value logic, part V: the walk's words for the later operations. -/
import Derived.Test.YtmjmfollimaleaaVL21
set_option linter.unusedVariables false
set_option linter.unusedSimpArgs false
namespace Go.Proofs.Ytmjmfollimaleaa.VL
open Go.RowKit

section
variable {P : Program} {E : Env} {Q : AExit → Env → Prop} {K : Env → Prop} {D : Bool} {s : List (Nat × AV)} {c : List (Nat × List AV)} {os : List AOper} {d : Nat}

/-! ### Told otherwise -/
def shiftX (P : Program) (a : ACode) (s : List (Nat × AV)) (c : List (Nat × List AV)) (Q : AExit → Env → Prop) : Prop := aw P (.shift a) (mkE s c) Q
@[go_sem] theorem aw_shift (a : ACode) : aw P (.shift a) (mkE s c) Q = shiftX P a s c Q := rfl
theorem shiftX_of {a : ACode} {S : Env → Prop} (h : VS (mkE s c) S) (hk : ∀ E', S E' → aw P a E' Q) : shiftX P a s c Q := ⟨S, h, hk⟩
theorem shiftX_refl {a : ACode} (hk : aw P a (mkE s c) Q) : shiftX P a s c Q := ⟨fun E' => E' = mkE s c, VS.refl rfl, fun E' h => by rw [h]; exact hk⟩

/-! ### A slice literal without parts -/
def bslX (P : Program) (esz d : Nat) (os : List AOper) (s : List (Nat × AV)) (c : List (Nat × List AV)) (K : Env → Prop) : Prop := awX false P (⟨some d, .bsl0 esz, none⟩ :: os) (mkE s c) K
@[go_sem] theorem x_bsl0 (esz : Nat) : awX false P (⟨some d, .bsl0 esz, none⟩ :: os) (mkE s c) K = bslX P esz d os s c K := rfl
theorem bslX_own {esz : Nat} (h : awX false P os (mkE (putA s d (.sl (.own [d]) esz [])) c) K) : bslX P esz d os s c K := by
  unfold bslX
  rw [awX_f]
  exact ⟨d, rfl, .inl (by rw [mkE_put]; exact h)⟩
theorem bslX_fr {esz : Nat} (h : awX false P os (mkE (putA s d (.sl (.fr [d]) esz [])) c) K) : bslX P esz d os s c K := by
  unfold bslX
  rw [awX_f]
  exact ⟨d, rfl, .inr (by rw [mkE_put]; exact h)⟩

/-! ### Made slices and maps -/
@[go_sem] theorem x_mkf (b : Bool) (e y : Nat) (z : List AV) (l q : Operand) : awX D P (⟨some d, .mkf b e y z l q, none⟩ :: os) (mkE s c) K = bindV (mkfV b e y d z (evA s l) (evA s q)) D P os d s c K := by
  rw [x_step (by intros; simp) (by intros; simp) (by intros; simp) (by intros; simp) (by intros; simp) rfl]
  simp only [step, mkE_ev, stepMkf]
  unfold bindE bindV
  cases mkfV b e y d z (evA s l) (evA s q) <;> simp [mkE_put]
@[go_sem] theorem mkfV_n (b : Bool) (e y : Nat) (z : List AV) (k k' : IntKind) (n : Int) (h0 : 0 ≤ n) (h1 : n ≤ 4294967296) (h2 : y ≤ 32768) (h3 : z.length = e) (h4 : b = true ∨ e = 1) (h5 : oneL z = true) : mkfV b e y d z (.lit (.int k n)) (.lit (.int k' n)) = some (.sl (.fr [d]) e (List.replicate n.toNat (zRow b z))) := by
  simp [mkfV, intOfA, h0, h1, h2, h3, h4, h5]
@[go_sem] theorem x_mkm : awX D P (⟨some d, .mkm, none⟩ :: os) (mkE s c) K = awX D P os (mkE (putA s d (.mf [d] true)) c) K := by
  rw [x_step (by intros; simp) (by intros; simp) (by intros; simp) (by intros; simp) (by intros; simp) rfl]
  simp only [step, bindE_some, mkE_put]
def mupX (str : Bool) (m k x : AV) (s : List (Nat × AV)) (c : List (Nat × List AV)) : Option Env := stepMup str m k x (mkE s c)
@[go_sem] theorem x_mup (str : Bool) (m k x : Operand) : awX D P (⟨none, .mup str m k x, none⟩ :: os) (mkE s c) K = bindE (mupX str (evA s m) (evA s k) (evA s x) s c) D P os K := by
  rw [x_step (by intros; simp) (by intros; simp) (by intros; simp) (by intros; simp) (by intros; simp) rfl]
  simp only [step, mkE_ev, mupX]
theorem mkE_renew (τ : List Nat) (ks : List Value) (vs : List AV) : (mkE s c).renew τ ks vs = mkE (mapV (renew τ ks vs) s) (mapV (renewL τ ks vs) c) := by
  unfold Env.renew mkE
  congr 1
  · funext k
    exact (getA_mapV (renew τ ks vs) rfl s k).symm
  · funext k
    exact (getC_mapV (renewL τ ks vs) c k).symm
theorem mupX_of {str : Bool} {τ : List Nat} {keys : List Value} {vals : List AV} {kv : Value} {x y : AV} {ks : List Value} {vs : List AV} (hx : closeV x = some y) (h : mapPut str keys vals kv y = some (ks, vs)) :
    mupX str (.mu τ keys vals) (.lit kv) x s c = some (mkE (mapV (renew τ ks vs) s) (mapV (renewL τ ks vs) c)) := by
  simp only [mupX, stepMup, hx, h, mkE_renew]
def avLkp (str : Bool) (z : AV) (ok : Bool) (m k : AV) : Option AV := match m, k with
  | .mp keys vals, .lit kv => mapGet str z ok keys vals kv
  | .mu _ keys vals, .lit kv => mapGet str z ok keys vals kv
  | _, _ => none
@[go_sem] theorem avLkp_mp (str : Bool) (z : AV) (ok : Bool) (keys : List Value) (vals : List AV) (kv : Value) : avLkp str z ok (.mp keys vals) (.lit kv) = mapGet str z ok keys vals kv := rfl
@[go_sem] theorem avLkp_mu (str : Bool) (z : AV) (ok : Bool) (τ : List Nat) (keys : List Value) (vals : List AV) (kv : Value) : avLkp str z ok (.mu τ keys vals) (.lit kv) = mapGet str z ok keys vals kv := rfl
@[go_sem] theorem x_lkp (str : Bool) (z : AV) (ok : Bool) (m k : Operand) : awX D P (⟨some d, .lkp str z ok m k, none⟩ :: os) (mkE s c) K = bindV (avLkp str z ok (evA s m) (evA s k)) D P os d s c K := by
  rw [x_val rfl (by intros; simp) (by intros; simp)]
  first | (congr 1; done) | (congr 1; simp only [aval, mkE_ev, avLkp]; done) | (congr 1; simp only [aval, mkE_ev, avLkp]; rfl)

/-! ### Clearing, texts of numbers, nil slices -/
def clrX (z : List AV) (x : AV) (c : List (Nat × List AV)) : Option (List (Nat × List AV)) := match x with
  | .sl _ _ [] => some c
  | .ml k off n _ _ e => match getC c k with
    | some cs => if e = z.length ∧ off + n * e ≤ cs.length ∧ oneL z = true then some (putA c k (cs.take off ++ (List.replicate n z).flatten ++ cs.drop (off + n * e))) else none
    | none => none
  | _ => none
@[go_sem] theorem x_clr (z : List AV) (x : Operand) : awX D P (⟨none, .clr z x, none⟩ :: os) (mkE s c) K = bindC (clrX z (evA s x) c) D P os s K := by
  rw [x_step (by intros; simp) (by intros; simp) (by intros; simp) (by intros; simp) (by intros; simp) rfl]
  simp only [step, mkE_ev]
  unfold bindE bindC stepClr clrX
  cases evA s x with
  | sl t e rows => cases rows <;> rfl
  | ml k off n cap g e =>
    simp only [mkE_c]
    cases getC c k with
    | none => rfl
    | some cs =>
      simp only [mkE_putc]
      by_cases h : e = z.length ∧ off + n * e ≤ cs.length ∧ oneL z = true
      · simp only [if_pos h]
      · simp only [if_neg h]
  | _ => rfl
@[go_sem] theorem clrX_nil (z : List AV) (t : Tok) (e : Nat) : clrX z (.sl t e []) c = some c := rfl
def clrM (z : List AV) (k off n e : Nat) (c : List (Nat × List AV)) (o : Option (List AV)) : Option (List (Nat × List AV)) := match o with
  | some cs => if e = z.length ∧ off + n * e ≤ cs.length ∧ oneL z = true then some (putA c k (cs.take off ++ (List.replicate n z).flatten ++ cs.drop (off + n * e))) else none
  | none => none
@[go_sem] theorem clrX_ml (z : List AV) (k off n cap : Nat) (g : Bool) (e : Nat) : clrX z (.ml k off n cap g e) c = clrM z k off n e c (getC c k) := by
  simp only [clrX, clrM]
theorem clrM_some (z : List AV) (k off n e : Nat) (cs : List AV) (h : e = z.length ∧ off + n * e ≤ cs.length ∧ oneL z = true) : clrM z k off n e c (some cs) = some (putA c k (cs.take off ++ (List.replicate n z).flatten ++ cs.drop (off + n * e))) := by
  simp only [clrM, if_pos h]
def avI2s (x : AV) : Option AV := match x with
  | .lit (.int _ n) => if 0 ≤ n ∧ n < 128 then some (.lit (.string ⟨#[UInt8.ofNat n.toNat]⟩)) else none
  | _ => none
@[go_sem] theorem avI2s_n (k : IntKind) (n : Int) (h : 0 ≤ n ∧ n < 128) : avI2s (.lit (.int k n)) = some (.lit (.string ⟨#[UInt8.ofNat n.toNat]⟩)) := by simp [avI2s, h]
@[go_sem] theorem x_i2s (x : Operand) : awX D P (⟨some d, .i2s x, none⟩ :: os) (mkE s c) K = bindV (avI2s (evA s x)) D P os d s c K := by
  rw [x_val rfl (by intros; simp) (by intros; simp)]
  first | (congr 1; done) | (congr 1; simp only [aval, mkE_ev, avI2s]; done) | (congr 1; simp only [aval, mkE_ev, avI2s]; rfl)
def avEqs (neg : Bool) (x : AV) : Option AV := match x with
  | .sl t _ rows => match t, rows with
    | .nil, [] => some (.lit (.bool !neg))
    | .gone, _ => none
    | _, _ :: _ => some (.lit (.bool neg))
    | _, _ => none
  | .ml _ _ _ _ _ _ => some (.lit (.bool neg))
  | .lit (.slice A _ _) => some (.lit (.bool (if neg then !A.isNone else A.isNone)))
  | _ => none
@[go_sem] theorem avEqs_lit (neg : Bool) (A : Option Addr) (n k : Nat) : avEqs neg (.lit (.slice A n k)) = some (.lit (.bool (if neg then !A.isNone else A.isNone))) := rfl
@[go_sem] theorem avEqs_nil (neg : Bool) (e : Nat) : avEqs neg (.sl .nil e []) = some (.lit (.bool !neg)) := rfl
@[go_sem] theorem avEqs_cons (neg : Bool) (e : Nat) (r : AV) (rs : List AV) : avEqs neg (.sl .none e (r :: rs)) = some (.lit (.bool neg)) := rfl
@[go_sem] theorem avEqs_own (neg : Bool) (τ : List Nat) (e : Nat) (r : AV) (rs : List AV) : avEqs neg (.sl (.own τ) e (r :: rs)) = some (.lit (.bool neg)) := rfl
@[go_sem] theorem avEqs_ml (neg : Bool) (k o n cap : Nat) (g : Bool) (e : Nat) : avEqs neg (.ml k o n cap g e) = some (.lit (.bool neg)) := rfl
theorem avEqs_ne (neg : Bool) (e : Nat) (rows : List AV) (h : rows ≠ []) : avEqs neg (.sl .none e rows) = some (.lit (.bool neg)) := by
  cases rows with
  | nil => exact absurd rfl h
  | cons => rfl
@[go_sem] theorem x_eqs (neg : Bool) (x : Operand) : awX D P (⟨some d, .eqs neg x, none⟩ :: os) (mkE s c) K = bindV (avEqs neg (evA s x)) D P os d s c K := by
  rw [x_val rfl (by intros; simp) (by intros; simp)]
  first | (congr 1; done) | (congr 1; simp only [aval, mkE_ev, avEqs]; done) | (congr 1; simp only [aval, mkE_ev, avEqs]; rfl)
end

/-! ### Values -/
@[go_sem] theorem kill_mu (d : Nat) (τ : List Nat) (k : List Value) (v : List AV) : kill d (.mu τ k v) = .mu τ k v := rfl
@[go_sem] theorem kill_mf (d : Nat) (τ : List Nat) (al : Bool) : kill d (.mf τ al) = .mf τ al := rfl
@[go_sem] theorem strip_fr (τ t : List Nat) (e : Nat) (r : List AV) : strip τ (.sl (.fr t) e r) = if t = τ then .sl .gone e r else .sl (.fr t) e r := rfl
@[go_sem] theorem strip_gone (τ : List Nat) (e : Nat) (r : List AV) : strip τ (.sl .gone e r) = .sl .gone e r := rfl
@[go_sem] theorem strip_mu (τ t : List Nat) (k : List Value) (v : List AV) : strip τ (.mu t k v) = .mu t k v := rfl
@[go_sem] theorem strip_mf (τ t : List Nat) (al : Bool) : strip τ (.mf t al) = .mf t (al && decide (t ≠ τ)) := rfl
@[go_sem] theorem lowTok_fr (τ : List Nat) : lowTok (.fr τ) = .bor := rfl
@[go_sem] theorem lowTok_gone : lowTok .gone = .gone := rfl
@[go_sem] theorem retag_fr (d : Nat) (t : List Nat) (e : Nat) (r : List AV) : retag d (.sl (.fr t) e r) = .sl (.fr (d :: t)) e r := rfl
@[go_sem] theorem retag_mf (d : Nat) (t : List Nat) (al : Bool) : retag d (.mf t al) = .mf (d :: t) al := rfl
@[go_sem] theorem retag_lp (d k o : Nat) : retag d (.lp k o) = .lp k o := rfl
@[go_sem] theorem retag_ml (d k o n cap : Nat) (g : Bool) (e : Nat) : retag d (.ml k o n cap g e) = .ml k o n cap g e := rfl
@[go_sem] theorem retag_clo (d : Nat) (f : Fn) (a b : List AV) : retag d (.clo f a b) = .clo f (retagL d a) (retagL d b) := rfl
@[go_sem] theorem unlend_lit (m : List (Nat × Nat)) (v : Value) : unlend m (.lit v) = .lit v := rfl
@[go_sem] theorem unlend_sl (m : List (Nat × Nat)) (t : Tok) (e : Nat) (r : List AV) : unlend m (.sl t e r) = .sl t e r := rfl
@[go_sem] theorem unlend_agg (m : List (Nat × Nat)) (cs : List AV) : unlend m (.agg cs) = .agg (unlendL m cs) := rfl
@[go_sem] theorem unlend_tup (m : List (Nat × Nat)) (cs : List AV) : unlend m (.tup cs) = .tup (unlendL m cs) := rfl
@[go_sem] theorem unlend_ifc (m : List (Nat × Nat)) (t : TypeId) (v : AV) : unlend m (.ifc t v) = .ifc t (unlend m v) := rfl
@[go_sem] theorem unlend_gl (m : List (Nat × Nat)) (i : Nat) : unlend m (.gl i) = .gl i := rfl
@[go_sem] theorem unlend_rp (m : List (Nat × Nat)) (cs : List AV) : unlend m (.rp cs) = .rp cs := rfl
@[go_sem] theorem unlend_mp (m : List (Nat × Nat)) (k : List Value) (v : List AV) : unlend m (.mp k v) = .mp k v := rfl
@[go_sem] theorem unlend_dead (m : List (Nat × Nat)) : unlend m .dead = .dead := rfl
@[go_sem] theorem unlend_clo (m : List (Nat × Nat)) (f : Fn) (a b : List AV) : unlend m (.clo f a b) = .clo f (unlendL m a) (unlendL m b) := rfl
def unlP (o : Nat) : Option Nat → AV
  | some c => .lp c o
  | none => .dead
@[go_sem] theorem unlP_some (o c : Nat) : unlP o (some c) = .lp c o := rfl
@[go_sem] theorem unlend_lp (m : List (Nat × Nat)) (k o : Nat) : unlend m (.lp k o) = unlP o (lentOf m k) := by simp only [unlend, unlP]; cases lentOf m k <;> rfl
def unlM (o n cap : Nat) (g : Bool) (e : Nat) : Option Nat → AV
  | some c => .ml c o n cap g e
  | none => .dead
@[go_sem] theorem unlM_some (o n cap : Nat) (g : Bool) (e c : Nat) : unlM o n cap g e (some c) = .ml c o n cap g e := rfl
@[go_sem] theorem unlend_ml (m : List (Nat × Nat)) (k o n cap : Nat) (g : Bool) (e : Nat) : unlend m (.ml k o n cap g e) = unlM o n cap g e (lentOf m k) := by simp only [unlend, unlM]; cases lentOf m k <;> rfl
@[go_sem] theorem unlendL_nil (m : List (Nat × Nat)) : unlendL m [] = [] := rfl
@[go_sem] theorem unlendL_cons (m : List (Nat × Nat)) (x : AV) (xs : List AV) : unlendL m (x :: xs) = unlend m x :: unlendL m xs := rfl
@[go_sem] theorem lentOf_nil (k : Nat) : lentOf [] k = none := rfl
@[go_sem] theorem lentOf_cons (c k' : Nat) (r : List (Nat × Nat)) (k : Nat) : lentOf ((c, k') :: r) k = if k = k' then some c else lentOf r k := rfl
@[go_sem] theorem closeV_dead : closeV .dead = some .dead := rfl
@[go_sem] theorem plainV_lit (v : Value) : plainV (.lit v) = true := rfl
@[go_sem] theorem plainV_none (e : Nat) (r : List AV) : plainV (.sl .none e r) = true := rfl
@[go_sem] theorem plainV_nil (e : Nat) (r : List AV) : plainV (.sl .nil e r) = true := rfl
@[go_sem] theorem plainV_own (τ : List Nat) (e : Nat) (r : List AV) : plainV (.sl (.own τ) e r) = true := rfl
@[go_sem] theorem plainV_agg (cs : List AV) : plainV (.agg cs) = plainL cs := rfl
@[go_sem] theorem plainV_clo (f : Fn) (a b : List AV) : plainV (.clo f a b) = (plainL a && plainL b) := rfl
@[go_sem] theorem plainV_rp (cs : List AV) : plainV (.rp cs) = true := rfl
@[go_sem] theorem plainL_nil : plainL [] = true := rfl
@[go_sem] theorem plainL_cons (x : AV) (xs : List AV) : plainL (x :: xs) = (plainV x && plainL xs) := rfl
@[go_sem] theorem unownV_lit (v : Value) : unownV (.lit v) = .lit v := rfl
@[go_sem] theorem unownV_none (e : Nat) (r : List AV) : unownV (.sl .none e r) = .sl .none e r := rfl
@[go_sem] theorem unownV_nil (e : Nat) (r : List AV) : unownV (.sl .nil e r) = .sl .nil e r := rfl
@[go_sem] theorem unownV_own (τ : List Nat) (e : Nat) (r : List AV) : unownV (.sl (.own τ) e r) = .sl .none e r := rfl
@[go_sem] theorem unownV_agg (cs : List AV) : unownV (.agg cs) = .agg (unownL cs) := rfl
@[go_sem] theorem unownV_clo (f : Fn) (a b : List AV) : unownV (.clo f a b) = .clo f (unownL a) (unownL b) := rfl
@[go_sem] theorem unownV_rp (cs : List AV) : unownV (.rp cs) = .rp cs := rfl
@[go_sem] theorem unownL_nil : unownL [] = [] := rfl
@[go_sem] theorem unownL_cons (x : AV) (xs : List AV) : unownL (x :: xs) = unownV x :: unownL xs := rfl
@[go_sem] theorem closeV1_clo (f : Fn) (a b : List AV) : closeV.closeV1 (.clo f a b) = if (plainL a && plainL b) = true then some (.clo f (unownL a) (unownL b)) else none := rfl
@[go_sem] theorem closeV_clo (f : Fn) (a b : List AV) : closeV (.clo f a b) = if (plainL a && plainL b) = true then some (.clo f (unownL a) (unownL b)) else none := rfl
section
variable {C : Nat → Option (List AV)} {n : Nat}
@[go_sem] theorem retv_frt (τ : List Nat) (e : Nat) (r : List AV) : retv C true (n + 1) (.sl (.fr τ) e r) = some (.sl (.fr τ) e r) := rfl
@[go_sem] theorem retv_dead (k : Bool) : retv C k (n + 1) .dead = some .dead := rfl
@[go_sem] theorem retv_mu (k : Bool) (τ : List Nat) (a : List Value) (v : List AV) : retv C k (n + 1) (.mu τ a v) = some (.mp a v) := rfl
@[go_sem] theorem retv_mft (τ : List Nat) (al : Bool) : retv C true (n + 1) (.mf τ al) = some (.mf τ al) := rfl
@[go_sem] theorem retv_clo (k : Bool) (f : Fn) (a b : List AV) : retv C k (n + 1) (.clo f a b) = cloO f (mapO (retv C k n) a) (mapO (retv C k n) b) := by
  simp only [retv, cloO]
  cases mapO (retv C k n) a <;> cases mapO (retv C k n) b <;> rfl
/-- A slice of the call's own, frozen. -/
def retM (C : Nat → Option (List AV)) (n : Nat) (o len cap : Nat) (g : Bool) (e : Nat) (x : Option (List AV)) : Option AV := match x with
  | some cs => if o + len * e ≤ cs.length ∧ len ≤ cap ∧ (g = true ∨ e = 1) then match mapO (retv C false n) ((cs.drop o).take (len * e)) with
    | some l => some (.sl .none e (chunk g e len l))
    | none => none
    else none
  | none => none
@[go_sem] theorem retv_ml (k : Bool) (c o len cap : Nat) (g : Bool) (e : Nat) : retv C k (n + 1) (.ml c o len cap g e) = if 100000 ≤ c then (if k = true then some (.ml c o len cap g e) else none) else retM C n o len cap g e (C c) := by
  simp only [retv, retM]
  split
  · rfl
  · cases C c <;> rfl
theorem retM_some (o len cap : Nat) (g : Bool) (e : Nat) (cs l : List AV) (h : o + len * e ≤ cs.length ∧ len ≤ cap ∧ (g = true ∨ e = 1)) (hl : mapO (retv C false n) ((cs.drop o).take (len * e)) = some l) : retM C n o len cap g e (some cs) = some (.sl .none e (chunk g e len l)) := by
  simp only [retM, if_pos h, hl]
def lowM (len cap o : Nat) (g : Bool) (e : Nat) (x : Option (List AV)) : Option AV := match x with
  | some cs => if o + len * e ≤ cs.length ∧ len ≤ cap ∧ (g = true ∨ e = 1) then match mapO closeV ((cs.drop o).take (len * e)) with
    | some l => some (.sl .bor e (chunk g e len l))
    | none => none
    else none
  | none => none
@[go_sem] theorem lower_ml (k o len cap : Nat) (g : Bool) (e : Nat) : lower C (n + 1) (.ml k o len cap g e) = lowM len cap o g e (C k) := by
  simp only [lower, lowerM, lentAs, lowM]
  cases C k <;> rfl
end
@[go_sem] theorem killn_lit (p : List Nat → Bool) (v : Value) : killn p (.lit v) = .lit v := rfl

section
variable {d : Option Nat} {g : Option (Nat × Bool)} {os : List AOper}
@[go_sem] theorem allocs_mkf (b : Bool) (n e : Nat) (z : List AV) (x i : Operand) : allocs (⟨d, .mkf b n e z x i, g⟩ :: os) = allocs os := rfl
@[go_sem] theorem allocs_mkm : allocs (⟨d, .mkm, g⟩ :: os) = allocs os := rfl
@[go_sem] theorem allocs_mup (b : Bool) (m k x : Operand) : allocs (⟨d, .mup b m k x, g⟩ :: os) = allocs os := rfl
@[go_sem] theorem allocs_lkp (b : Bool) (z : AV) (ok : Bool) (m k : Operand) : allocs (⟨d, .lkp b z ok m k, g⟩ :: os) = allocs os := rfl
@[go_sem] theorem allocs_clr (z : List AV) (x : Operand) : allocs (⟨d, .clr z x, g⟩ :: os) = allocs os := rfl
@[go_sem] theorem allocs_i2s (x : Operand) : allocs (⟨d, .i2s x, g⟩ :: os) = allocs os := rfl
@[go_sem] theorem allocs_eqs (n : Bool) (x : Operand) : allocs (⟨d, .eqs n x, g⟩ :: os) = allocs os := rfl
@[go_sem] theorem allocs_bsl0 (e : Nat) : allocs (⟨d, .bsl0 e, g⟩ :: os) = allocs os := rfl
end

end Go.Proofs.Ytmjmfollimaleaa.VL
