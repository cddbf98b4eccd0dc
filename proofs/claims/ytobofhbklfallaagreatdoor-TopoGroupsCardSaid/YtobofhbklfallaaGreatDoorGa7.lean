import Derived.ProofKit
import Derived.Test.YtobofhbklfallaaGreatDoorRows
import Derived.Test.YtobofhbklfallaaGreatDoorCards
import Derived.Test.YtobofhbklfallaaGreatDoorTie
import Derived.LaidMore
import Derived.OpenShut
import Derived.Stop.Joined
import Derived.HandedShaped
import Derived.Shelf.Vars
import Derived.Lib.LaidTab
import Derived.SevenTiedAt
import Derived.Stop.LaidErr
import Derived.JoinedOf
import Derived.Laws.BitsAllLaws
import Derived.Laws.Entries
import Derived.Test.YtobofhbklfallaaGreatDoorProg
import Derived.Test.YtobofhbklfallaaGreatDoorGa6
set_option linter.unusedVariables false
set_option linter.unusedSimpArgs false
section
namespace Go.Proofs.YtobofhbklfallaaGreatDoor.VL
open Go.RowKit
section
variable {P : Program} {E : Env} {Q : AExit → Env → Prop} {K : Env → Prop} {D : Bool} {s : List (Nat × AV)} {c : List (Nat × List AV)} {os : List AOper} {d : Nat}
def shiftX (P : Program) (a : ACode) (s : List (Nat × AV)) (c : List (Nat × List AV)) (Q : AExit → Env → Prop) : Prop := aw P (.shift a) (mkE s c) Q
@[go_sem] theorem aw_shift (a : ACode) : aw P (.shift a) (mkE s c) Q = shiftX P a s c Q := rfl
theorem shiftX_of {a : ACode} {S : Env → Prop} (h : VS (mkE s c) S) (hk : ∀ E', S E' → aw P a E' Q) : shiftX P a s c Q := ⟨S, h, hk⟩
theorem shiftX_refl {a : ACode} (hk : aw P a (mkE s c) Q) : shiftX P a s c Q := ⟨fun E' => E' = mkE s c, VS.refl rfl, fun E' h => by rw [h]; exact hk⟩
def splitK (P : Program) (ys : List AOper) (kl : List Nat) (Q : AExit → Env → Prop) (E1 : Env) : Prop := ∃ S, VS E1 S ∧ ∀ E2, S E2 → awOps P ys E2 fun E' => Q .normal (E'.dropS kl)
def splitX (P : Program) (ys : List AOper) (kl : List Nat) (Q : AExit → Env → Prop) (s : List (Nat × AV)) (c : List (Nat × List AV)) : Prop := splitK P ys kl Q (mkE s c)
@[go_sem] theorem aw_split (xs ys : List AOper) (kl : List Nat) : aw P (.split xs ys kl) (mkE s c) Q = awX false P xs (mkE s c) (splitK P ys kl Q) := rfl
@[go_sem] theorem splitK_mk (ys : List AOper) (kl : List Nat) : splitK P ys kl Q (mkE s c) = splitX P ys kl Q s c := rfl
def bslX (P : Program) (esz d : Nat) (os : List AOper) (s : List (Nat × AV)) (c : List (Nat × List AV)) (K : Env → Prop) : Prop := awX false P (⟨some d, .bsl0 esz, none⟩ :: os) (mkE s c) K
@[go_sem] theorem x_bsl0 (esz : Nat) : awX false P (⟨some d, .bsl0 esz, none⟩ :: os) (mkE s c) K = bslX P esz d os s c K := rfl
theorem bslX_own {esz : Nat} (h : awX false P os (mkE (putA s d (.sl (.own [d]) esz [])) c) K) : bslX P esz d os s c K := by
  unfold bslX
  rw [awX_f]
  exact ⟨d, rfl, .inl (by rw [mkE_put]; exact h)⟩
theorem bslX_fr {esz : Nat} (h : awX false P os (mkE (putA s d (.sl (.fr [d]) esz [])) c) K) : bslX P esz d os s c K := by
  unfold bslX
  rw [awX_f]
  exact ⟨d, rfl, .inr (by rw [mkE_put]; exact h)⟩
@[go_sem] theorem x_mkf (b : Bool) (e y : Nat) (z : List AV) (l q : Operand) : awX D P (⟨some d, .mkf b e y z l q, none⟩ :: os) (mkE s c) K = bindV (mkfV b e y d z (evA s l) (evA s q)) D P os d s c K := by
  rw [x_step (by intros; simp) (by intros; simp) (by intros; simp) (by intros; simp) (by intros; simp) rfl]
  simp only [step, mkE_ev, stepMkf]
  unfold bindE bindV
  cases mkfV b e y d z (evA s l) (evA s q) <;> simp [mkE_put]
@[go_sem] theorem mkfV_n (b : Bool) (e y : Nat) (z : List AV) (k k' : IntKind) (n : Int) (h0 : 0 ≤ n) (h1 : n ≤ 4294967296) (h2 : y ≤ 32768) (h3 : z.length = e) (h4 : b = true ∨ e = 1) (h5 : oneL z = true) : mkfV b e y d z (.lit (.int k n)) (.lit (.int k' n)) = some (.sl (.fr [d]) e (List.replicate n.toNat (zRow b z))) := by
  simp [mkfV, intOfA, h0, h1, h2, h3, h4, h5]
@[go_sem] theorem x_mkm : awX D P (⟨some d, .mkm, none⟩ :: os) (mkE s c) K = awX D P os (mkE (putA s d (.mf [d] true)) c) K := by
  rw [x_step (by intros; simp) (by intros; simp) (by intros; simp) (by intros; simp) (by intros; simp) rfl]
  simp only [step, bindE_some, mkE_put]
def mupX (str : Bool) (m k x : AV) (s : List (Nat × AV)) (c : List (Nat × List AV)) : Option Env := stepMup str m k x (mkE s c)
@[go_sem] theorem x_mup (str : Bool) (m k x : Operand) : awX D P (⟨none, .mup str m k x, none⟩ :: os) (mkE s c) K = bindE (mupX str (evA s m) (evA s k) (evA s x) s c) D P os K := by
  rw [x_step (by intros; simp) (by intros; simp) (by intros; simp) (by intros; simp) (by intros; simp) rfl]
  simp only [step, mkE_ev, mupX]
theorem mkE_renew (τ : List Nat) (ks : List Value) (vs : List AV) : (mkE s c).renew τ ks vs = mkE (mapV (renew τ ks vs) s) (mapV (renewL τ ks vs) c) := by
  unfold Env.renew mkE
  congr 1
  · funext k
    exact (getA_mapV (renew τ ks vs) rfl s k).symm
  · funext k
    exact (getC_mapV (renewL τ ks vs) c k).symm
theorem mupX_of {str : Bool} {τ : List Nat} {keys : List Value} {vals : List AV} {kv : Value} {x y : AV} {ks : List Value} {vs : List AV} (hx : closeV x = some y) (h : mapPut str keys vals kv y = some (ks, vs)) :
    mupX str (.mu τ keys vals) (.lit kv) x s c = some (mkE (mapV (renew τ ks vs) s) (mapV (renewL τ ks vs) c)) := by
  simp only [mupX, stepMup, hx, h, mkE_renew]
def avLkp (str : Bool) (z : AV) (ok : Bool) (m k : AV) : Option AV := match m, k with
  | .mp keys vals, .lit kv => mapGet str z ok keys vals kv
  | .mu _ keys vals, .lit kv => mapGet str z ok keys vals kv
  | _, _ => none
@[go_sem] theorem avLkp_mp (str : Bool) (z : AV) (ok : Bool) (keys : List Value) (vals : List AV) (kv : Value) : avLkp str z ok (.mp keys vals) (.lit kv) = mapGet str z ok keys vals kv := rfl
@[go_sem] theorem avLkp_mu (str : Bool) (z : AV) (ok : Bool) (τ : List Nat) (keys : List Value) (vals : List AV) (kv : Value) : avLkp str z ok (.mu τ keys vals) (.lit kv) = mapGet str z ok keys vals kv := rfl
@[go_sem] theorem x_lkp (str : Bool) (z : AV) (ok : Bool) (m k : Operand) : awX D P (⟨some d, .lkp str z ok m k, none⟩ :: os) (mkE s c) K = bindV (avLkp str z ok (evA s m) (evA s k)) D P os d s c K := by
  rw [x_val rfl (by intros; simp) (by intros; simp)]
  first | (congr 1; done) | (congr 1; simp only [aval, mkE_ev, avLkp]; done) | (congr 1; simp only [aval, mkE_ev, avLkp]; rfl)
def clrX (z : List AV) (x : AV) (c : List (Nat × List AV)) : Option (List (Nat × List AV)) := match x with
  | .sl _ _ [] => some c
  | .ml k off n _ _ e => match getC c k with
    | some cs => if e = z.length ∧ off + n * e ≤ cs.length ∧ oneL z = true then some (putA c k (cs.take off ++ (List.replicate n z).flatten ++ cs.drop (off + n * e))) else none
    | none => none
  | _ => none
@[go_sem] theorem x_clr (z : List AV) (x : Operand) : awX D P (⟨none, .clr z x, none⟩ :: os) (mkE s c) K = bindC (clrX z (evA s x) c) D P os s K := by
  rw [x_step (by intros; simp) (by intros; simp) (by intros; simp) (by intros; simp) (by intros; simp) rfl]
  simp only [step, mkE_ev]
  unfold bindE bindC stepClr clrX
  cases evA s x with
  | sl t e rows => cases rows <;> rfl
  | ml k off n cap g e =>
    simp only [mkE_c]
    cases getC c k with
    | none => rfl
    | some cs =>
      simp only [mkE_putc]
      by_cases h : e = z.length ∧ off + n * e ≤ cs.length ∧ oneL z = true
      · simp only [if_pos h]
      · simp only [if_neg h]
  | _ => rfl
@[go_sem] theorem clrX_nil (z : List AV) (t : Tok) (e : Nat) : clrX z (.sl t e []) c = some c := rfl
def clrM (z : List AV) (k off n e : Nat) (c : List (Nat × List AV)) (o : Option (List AV)) : Option (List (Nat × List AV)) := match o with
  | some cs => if e = z.length ∧ off + n * e ≤ cs.length ∧ oneL z = true then some (putA c k (cs.take off ++ (List.replicate n z).flatten ++ cs.drop (off + n * e))) else none
  | none => none
@[go_sem] theorem clrX_ml (z : List AV) (k off n cap : Nat) (g : Bool) (e : Nat) : clrX z (.ml k off n cap g e) c = clrM z k off n e c (getC c k) := by
  simp only [clrX, clrM]
theorem clrM_some (z : List AV) (k off n e : Nat) (cs : List AV) (h : e = z.length ∧ off + n * e ≤ cs.length ∧ oneL z = true) : clrM z k off n e c (some cs) = some (putA c k (cs.take off ++ (List.replicate n z).flatten ++ cs.drop (off + n * e))) := by
  simp only [clrM, if_pos h]
def avI2s (x : AV) : Option AV := match x with
  | .lit (.int _ n) => if 0 ≤ n ∧ n < 128 then some (.lit (.string ⟨#[UInt8.ofNat n.toNat]⟩)) else none
  | _ => none
@[go_sem] theorem x_i2s (x : Operand) : awX D P (⟨some d, .i2s x, none⟩ :: os) (mkE s c) K = bindV (avI2s (evA s x)) D P os d s c K := by
  rw [x_val rfl (by intros; simp) (by intros; simp)]
  first | (congr 1; done) | (congr 1; simp only [aval, mkE_ev, avI2s]; done) | (congr 1; simp only [aval, mkE_ev, avI2s]; rfl)
def avEqs (neg : Bool) (x : AV) : Option AV := match x with
  | .sl t _ rows => match t, rows with
    | .nil, [] => some (.lit (.bool !neg))
    | .gone, _ => none
    | _, _ :: _ => some (.lit (.bool neg))
    | _, _ => none
  | .ml _ _ _ _ _ _ => some (.lit (.bool neg))
  | .lit (.slice A _ _) => some (.lit (.bool (if neg then !A.isNone else A.isNone)))
  | _ => none
@[go_sem] theorem avEqs_lit (neg : Bool) (A : Option Addr) (n k : Nat) : avEqs neg (.lit (.slice A n k)) = some (.lit (.bool (if neg then !A.isNone else A.isNone))) := rfl
@[go_sem] theorem avEqs_nil (neg : Bool) (e : Nat) : avEqs neg (.sl .nil e []) = some (.lit (.bool !neg)) := rfl
@[go_sem] theorem avEqs_cons (neg : Bool) (e : Nat) (r : AV) (rs : List AV) : avEqs neg (.sl .none e (r :: rs)) = some (.lit (.bool neg)) := rfl
@[go_sem] theorem avEqs_own (neg : Bool) (τ : List Nat) (e : Nat) (r : AV) (rs : List AV) : avEqs neg (.sl (.own τ) e (r :: rs)) = some (.lit (.bool neg)) := rfl
@[go_sem] theorem avEqs_ml (neg : Bool) (k o n cap : Nat) (g : Bool) (e : Nat) : avEqs neg (.ml k o n cap g e) = some (.lit (.bool neg)) := rfl
theorem avEqs_ne (neg : Bool) (e : Nat) (rows : List AV) (h : rows ≠ []) : avEqs neg (.sl .none e rows) = some (.lit (.bool neg)) := by
  cases rows with
  | nil => exact absurd rfl h
  | cons => rfl
@[go_sem] theorem x_eqs (neg : Bool) (x : Operand) : awX D P (⟨some d, .eqs neg x, none⟩ :: os) (mkE s c) K = bindV (avEqs neg (evA s x)) D P os d s c K := by
  rw [x_val rfl (by intros; simp) (by intros; simp)]
  first | (congr 1; done) | (congr 1; simp only [aval, mkE_ev, avEqs]; done) | (congr 1; simp only [aval, mkE_ev, avEqs]; rfl)
end
@[go_sem] theorem kill_mu (d : Nat) (τ : List Nat) (k : List Value) (v : List AV) : kill d (.mu τ k v) = .mu τ k v := rfl
@[go_sem] theorem kill_mf (d : Nat) (τ : List Nat) (al : Bool) : kill d (.mf τ al) = .mf τ al := rfl
@[go_sem] theorem strip_fr (τ t : List Nat) (e : Nat) (r : List AV) : strip τ (.sl (.fr t) e r) = if t = τ then .sl .gone e r else .sl (.fr t) e r := rfl
@[go_sem] theorem strip_gone (τ : List Nat) (e : Nat) (r : List AV) : strip τ (.sl .gone e r) = .sl .gone e r := rfl
@[go_sem] theorem strip_mu (τ t : List Nat) (k : List Value) (v : List AV) : strip τ (.mu t k v) = .mu t k v := rfl
@[go_sem] theorem strip_mf (τ t : List Nat) (al : Bool) : strip τ (.mf t al) = .mf t (al && decide (t ≠ τ)) := rfl
@[go_sem] theorem lowTok_fr (τ : List Nat) : lowTok (.fr τ) = .bor := rfl
@[go_sem] theorem lowTok_gone : lowTok .gone = .gone := rfl
@[go_sem] theorem retag_fr (d : Nat) (t : List Nat) (e : Nat) (r : List AV) : retag d (.sl (.fr t) e r) = .sl (.fr (d :: t)) e r := rfl
@[go_sem] theorem retag_mf (d : Nat) (t : List Nat) (al : Bool) : retag d (.mf t al) = .mf (d :: t) al := rfl
@[go_sem] theorem retag_lp (d k o : Nat) : retag d (.lp k o) = .lp k o := rfl
@[go_sem] theorem retag_ml (d k o n cap : Nat) (g : Bool) (e : Nat) : retag d (.ml k o n cap g e) = .ml k o n cap g e := rfl
@[go_sem] theorem retag_clo (d : Nat) (f : Fn) (a b : List AV) : retag d (.clo f a b) = .clo f (retagL d a) (retagL d b) := rfl
@[go_sem] theorem unlend_lit (m : List (Nat × Nat)) (v : Value) : unlend m (.lit v) = .lit v := rfl
@[go_sem] theorem unlend_sl (m : List (Nat × Nat)) (t : Tok) (e : Nat) (r : List AV) : unlend m (.sl t e r) = .sl t e r := rfl
@[go_sem] theorem unlend_agg (m : List (Nat × Nat)) (cs : List AV) : unlend m (.agg cs) = .agg (unlendL m cs) := rfl
@[go_sem] theorem unlend_tup (m : List (Nat × Nat)) (cs : List AV) : unlend m (.tup cs) = .tup (unlendL m cs) := rfl
@[go_sem] theorem unlend_ifc (m : List (Nat × Nat)) (t : TypeId) (v : AV) : unlend m (.ifc t v) = .ifc t (unlend m v) := rfl
@[go_sem] theorem unlend_gl (m : List (Nat × Nat)) (i : Nat) : unlend m (.gl i) = .gl i := rfl
@[go_sem] theorem unlend_rp (m : List (Nat × Nat)) (cs : List AV) : unlend m (.rp cs) = .rp cs := rfl
@[go_sem] theorem unlend_mp (m : List (Nat × Nat)) (k : List Value) (v : List AV) : unlend m (.mp k v) = .mp k v := rfl
@[go_sem] theorem unlend_dead (m : List (Nat × Nat)) : unlend m .dead = .dead := rfl
@[go_sem] theorem unlend_clo (m : List (Nat × Nat)) (f : Fn) (a b : List AV) : unlend m (.clo f a b) = .clo f (unlendL m a) (unlendL m b) := rfl
def unlP (o : Nat) : Option Nat → AV
  | some c => .lp c o
  | none => .dead
@[go_sem] theorem unlP_some (o c : Nat) : unlP o (some c) = .lp c o := rfl
@[go_sem] theorem unlend_lp (m : List (Nat × Nat)) (k o : Nat) : unlend m (.lp k o) = unlP o (lentOf m k) := by simp only [unlend, unlP]; cases lentOf m k <;> rfl
def unlM (o n cap : Nat) (g : Bool) (e : Nat) : Option Nat → AV
  | some c => .ml c o n cap g e
  | none => .dead
@[go_sem] theorem unlM_some (o n cap : Nat) (g : Bool) (e c : Nat) : unlM o n cap g e (some c) = .ml c o n cap g e := rfl
@[go_sem] theorem unlend_ml (m : List (Nat × Nat)) (k o n cap : Nat) (g : Bool) (e : Nat) : unlend m (.ml k o n cap g e) = unlM o n cap g e (lentOf m k) := by simp only [unlend, unlM]; cases lentOf m k <;> rfl
@[go_sem] theorem unlendL_nil (m : List (Nat × Nat)) : unlendL m [] = [] := rfl
@[go_sem] theorem unlendL_cons (m : List (Nat × Nat)) (x : AV) (xs : List AV) : unlendL m (x :: xs) = unlend m x :: unlendL m xs := rfl
@[go_sem] theorem lentOf_nil (k : Nat) : lentOf [] k = none := rfl
@[go_sem] theorem lentOf_cons (c k' : Nat) (r : List (Nat × Nat)) (k : Nat) : lentOf ((c, k') :: r) k = if k = k' then some c else lentOf r k := rfl
@[go_sem] theorem closeV_dead : closeV .dead = some .dead := rfl
@[go_sem] theorem plainV_lit (v : Value) : plainV (.lit v) = true := rfl
@[go_sem] theorem plainV_none (e : Nat) (r : List AV) : plainV (.sl .none e r) = true := rfl
@[go_sem] theorem plainV_nil (e : Nat) (r : List AV) : plainV (.sl .nil e r) = true := rfl
@[go_sem] theorem plainV_own (τ : List Nat) (e : Nat) (r : List AV) : plainV (.sl (.own τ) e r) = true := rfl
@[go_sem] theorem plainV_agg (cs : List AV) : plainV (.agg cs) = plainL cs := rfl
@[go_sem] theorem plainV_clo (f : Fn) (a b : List AV) : plainV (.clo f a b) = (plainL a && plainL b) := rfl
@[go_sem] theorem plainV_rp (cs : List AV) : plainV (.rp cs) = true := rfl
@[go_sem] theorem plainL_nil : plainL [] = true := rfl
@[go_sem] theorem plainL_cons (x : AV) (xs : List AV) : plainL (x :: xs) = (plainV x && plainL xs) := rfl
@[go_sem] theorem unownV_lit (v : Value) : unownV (.lit v) = .lit v := rfl
@[go_sem] theorem unownV_none (e : Nat) (r : List AV) : unownV (.sl .none e r) = .sl .none e r := rfl
@[go_sem] theorem unownV_nil (e : Nat) (r : List AV) : unownV (.sl .nil e r) = .sl .nil e r := rfl
@[go_sem] theorem unownV_own (τ : List Nat) (e : Nat) (r : List AV) : unownV (.sl (.own τ) e r) = .sl .none e r := rfl
@[go_sem] theorem unownV_agg (cs : List AV) : unownV (.agg cs) = .agg (unownL cs) := rfl
@[go_sem] theorem unownV_clo (f : Fn) (a b : List AV) : unownV (.clo f a b) = .clo f (unownL a) (unownL b) := rfl
@[go_sem] theorem unownV_rp (cs : List AV) : unownV (.rp cs) = .rp cs := rfl
@[go_sem] theorem unownL_nil : unownL [] = [] := rfl
@[go_sem] theorem unownL_cons (x : AV) (xs : List AV) : unownL (x :: xs) = unownV x :: unownL xs := rfl
@[go_sem] theorem closeV1_clo (f : Fn) (a b : List AV) : closeV.closeV1 (.clo f a b) = if (plainL a && plainL b) = true then some (.clo f (unownL a) (unownL b)) else none := rfl
@[go_sem] theorem closeV_clo (f : Fn) (a b : List AV) : closeV (.clo f a b) = if (plainL a && plainL b) = true then some (.clo f (unownL a) (unownL b)) else none := rfl
section
variable {C : Nat → Option (List AV)} {n : Nat}
@[go_sem] theorem retv_frt (τ : List Nat) (e : Nat) (r : List AV) : retv C true (n + 1) (.sl (.fr τ) e r) = some (.sl (.fr τ) e r) := rfl
@[go_sem] theorem retv_dead (k : Bool) : retv C k (n + 1) .dead = some .dead := rfl
@[go_sem] theorem retv_mu (k : Bool) (τ : List Nat) (a : List Value) (v : List AV) : retv C k (n + 1) (.mu τ a v) = some (.mp a v) := rfl
@[go_sem] theorem retv_mft (τ : List Nat) (al : Bool) : retv C true (n + 1) (.mf τ al) = some (.mf τ al) := rfl
@[go_sem] theorem retv_clo (k : Bool) (f : Fn) (a b : List AV) : retv C k (n + 1) (.clo f a b) = cloO f (mapO (retv C k n) a) (mapO (retv C k n) b) := by
  simp only [retv, cloO]
  cases mapO (retv C k n) a <;> cases mapO (retv C k n) b <;> rfl
def retM (C : Nat → Option (List AV)) (n : Nat) (o len cap : Nat) (g : Bool) (e : Nat) (x : Option (List AV)) : Option AV := match x with
  | some cs => if o + len * e ≤ cs.length ∧ len ≤ cap ∧ (g = true ∨ e = 1) then match mapO (retv C false n) ((cs.drop o).take (len * e)) with
    | some l => some (.sl .none e (chunk g e len l))
    | none => none
    else none
  | none => none
@[go_sem] theorem retv_ml (k : Bool) (c o len cap : Nat) (g : Bool) (e : Nat) : retv C k (n + 1) (.ml c o len cap g e) = if 100000 ≤ c then (if k = true then some (.ml c o len cap g e) else none) else retM C n o len cap g e (C c) := by
  simp only [retv, retM]
  split
  · rfl
  · cases C c <;> rfl
theorem retM_some (o len cap : Nat) (g : Bool) (e : Nat) (cs l : List AV) (h : o + len * e ≤ cs.length ∧ len ≤ cap ∧ (g = true ∨ e = 1)) (hl : mapO (retv C false n) ((cs.drop o).take (len * e)) = some l) : retM C n o len cap g e (some cs) = some (.sl .none e (chunk g e len l)) := by
  simp only [retM, if_pos h, hl]
def lowM (len cap o : Nat) (g : Bool) (e : Nat) (x : Option (List AV)) : Option AV := match x with
  | some cs => if o + len * e ≤ cs.length ∧ len ≤ cap ∧ (g = true ∨ e = 1) then match mapO closeV ((cs.drop o).take (len * e)) with
    | some l => some (.sl .bor e (chunk g e len l))
    | none => none
    else none
  | none => none
@[go_sem] theorem lower_ml (k o len cap : Nat) (g : Bool) (e : Nat) : lower C (n + 1) (.ml k o len cap g e) = lowM len cap o g e (C k) := by
  simp only [lower, lowerM, lentAs, lowM]
  cases C k <;> rfl
end
@[go_sem] theorem killn_lit (p : List Nat → Bool) (v : Value) : killn p (.lit v) = .lit v := rfl
section
variable {d : Option Nat} {g : Option (Nat × Bool)} {os : List AOper}
@[go_sem] theorem allocs_mkf (b : Bool) (n e : Nat) (z : List AV) (x i : Operand) : allocs (⟨d, .mkf b n e z x i, g⟩ :: os) = allocs os := rfl
@[go_sem] theorem allocs_mkm : allocs (⟨d, .mkm, g⟩ :: os) = allocs os := rfl
@[go_sem] theorem allocs_mup (b : Bool) (m k x : Operand) : allocs (⟨d, .mup b m k x, g⟩ :: os) = allocs os := rfl
@[go_sem] theorem allocs_lkp (b : Bool) (z : AV) (ok : Bool) (m k : Operand) : allocs (⟨d, .lkp b z ok m k, g⟩ :: os) = allocs os := rfl
@[go_sem] theorem allocs_clr (z : List AV) (x : Operand) : allocs (⟨d, .clr z x, g⟩ :: os) = allocs os := rfl
@[go_sem] theorem allocs_i2s (x : Operand) : allocs (⟨d, .i2s x, g⟩ :: os) = allocs os := rfl
@[go_sem] theorem allocs_eqs (n : Bool) (x : Operand) : allocs (⟨d, .eqs n x, g⟩ :: os) = allocs os := rfl
@[go_sem] theorem allocs_bsl0 (e : Nat) : allocs (⟨d, .bsl0 e, g⟩ :: os) = allocs os := rfl
end
end Go.Proofs.YtobofhbklfallaaGreatDoor.VL
end

section
namespace Go.Proofs.YtobofhbklfallaaGreatDoor.VL
open Go.RowKit Go.ChangeShapes
def gOf (W : World) (g : Nat) : TypeId × Addr := match W.cell? ⟨g, 0, none⟩ with
  | some (.iface t (.pointer (some a))) => (t, a)
  | _ => (0, default)
def R0 (W : World) : RE := ⟨W, fun b _ => b < W.heap.size, fun b => b < W.heap.size, fun _ => none, fun _ _ => False, gOf W, fun _ => none⟩
structure SentAt (W : World) : Prop where
  cell : ∀ g ∈ GS, ∃ a cs ty, W.cell? ⟨g, 0, none⟩ = some (.iface GT (.pointer (some a))) ∧ W.heap[a.block]? = some (.cells cs ty (0, 0))
  dist : ∀ g ∈ GS, ∀ k ∈ GS, ∀ a t u, W.cell? ⟨g, 0, none⟩ = some (.iface t (.pointer (some a))) → W.cell? ⟨k, 0, none⟩ = some (.iface u (.pointer (some a))) → g = k
theorem R0_start (W : World) (hg : SentAt W) (hd : GOK fun g => W.heap[g]?) : (R0 W).Start :=
  ⟨fun _ _ h => h, fun _ _ h => h, fun _ h => ⟨h, fun ⟨c, hc⟩ => (nomatch hc)⟩, fun _ ⟨c, hc⟩ => (nomatch hc), fun _ ⟨c, hc⟩ => (nomatch hc), fun _ _ _ h => (nomatch h), fun _ _ h => (nomatch h), fun _ => rfl, fun g h => by
    obtain ⟨a, _, _, e, _⟩ := hg.cell g h
    show W.cell? ⟨g, 0, none⟩ = _
    simp only [R0, gOf, e], fun _ _ ⟨c, hc⟩ => (nomatch hc), hd, fun _ _ ⟨c, hc⟩ => (nomatch hc), fun g h => by
    obtain ⟨a, cs, ty, e, e2⟩ := hg.cell g h
    have h1 : (R0 W).G g = (GT, a) := by simp only [R0, gOf, e]
    rw [h1]
    exact ⟨rfl, ⟨cs, ty, e2⟩, fun ⟨c, hc⟩ => (nomatch hc)⟩, fun g h k h2 e => by
    obtain ⟨a, _, _, e1, _⟩ := hg.cell g h
    obtain ⟨b, _, _, e2, _⟩ := hg.cell k h2
    have h3 : (R0 W).G g = (GT, a) := by simp only [R0, gOf, e1]
    have h4 : (R0 W).G k = (GT, b) := by simp only [R0, gOf, e2]
    rw [h3, h4] at e
    subst e
    exact hg.dist g h k h2 _ _ _ e1 e2⟩
theorem R0_ext (W : World) : Ext (R0 W).closed (R0 W) :=
  ⟨fun _ _ h => h, fun _ h => h.elim, fun _ _ _ _ h => h, fun _ _ _ _ h => h, fun c b h => by simp [RE.closed] at h, fun g τ h => (h : False).elim, rfl, fun c b h => by simp [RE.closed] at h⟩
inductive SC where
  | int (k : IntKind)
  | bool
  | str
  | sl (agg : Bool) (row : List SC)
def fieldTys (f : TypeId → Option (List SC)) (P : Program) : List Field → Nat → Option (List SC)
  | [], _ => some []
  | fd :: fs, off => match f fd.type, fieldTys f P fs (off + P.cellsOf fd.type) with
    | some l, some r => if fd.offset = off ∧ l.length = P.cellsOf fd.type then some (l ++ r) else none
    | _, _ => none
def cellTys (P : Program) : Nat → TypeId → Option (List SC)
  | 0, _ => none
  | n + 1, t => match P.underlying t with
    | some .bool => some [.bool]
    | some (.int k) => some [.int k]
    | some .string => some [.str]
    | some (.slice e) => match cellTys P n e, isAggB P e with
      | some row, some b => if row.length = P.cellsOf e ∧ 0 < row.length ∧ (b = true ∨ row.length = 1) then some [.sl b row] else none
      | _, _ => none
    | some (.struct fs) => match fieldTys (cellTys P n) P fs.toList 0 with
      | some l => if l.length = P.cellsOf t then some l else none
      | none => none
    | _ => none
def mkRow (agg : Bool) (cs : List AV) : AV := match agg with | true => .agg cs | false => cs.headD .dead
mutual
def Fit : SC → AV → Prop
  | .int k, x => ∃ n, x = .lit (.int k n) ∧ (Lit.int k n).wf = true
  | .bool, x => ∃ b, x = .lit (.bool b)
  | .str, x => ∃ s, x = .lit (.string s) ∧ s.size ≤ maxLen
  | .sl agg row, x => ∃ rows : List (List AV), x = .sl .none row.length (rows.map (mkRow agg)) ∧ rows.length ≤ maxLen ∧ ∀ cs ∈ rows, FitL row cs
def FitL : List SC → List AV → Prop
  | [], xs => xs = []
  | c :: cs, xs => ∃ y ys, xs = y :: ys ∧ Fit c y ∧ FitL cs ys
end
theorem FitL.length : ∀ {cs : List SC} {xs : List AV}, FitL cs xs → xs.length = cs.length
  | [], xs, h => by simp only [FitL] at h; simp [h]
  | c :: cs, xs, h => by
    simp only [FitL] at h
    obtain ⟨y, ys, rfl, _, h⟩ := h
    simp [FitL.length h]
theorem FitL.append {ds : List SC} {ys : List AV} (h' : FitL ds ys) : ∀ {cs : List SC} {xs : List AV}, FitL cs xs → FitL (cs ++ ds) (xs ++ ys)
  | [], xs, h => by simp only [FitL] at h; subst h; exact h'
  | c :: cs, xs, h => by
    simp only [FitL] at h
    obtain ⟨y, zs, rfl, h1, h2⟩ := h
    simp only [List.cons_append, FitL]
    exact ⟨y, zs ++ ys, rfl, h1, FitL.append h' h2⟩
section
variable {H : Type} {enc : TypeId × Value → H} {P : Program} {W : World} {base : Nat} {sp : Nat → Bool} {held : Bool}
theorem cells?_at {a : Addr} {n : Nat} {cs : List Value} (h : W.cells? base a n = some cs) : cs.length = n ∧ ∀ r, r < n → W.cell? (a.add r) = cs[r]? := by
  unfold World.cells? at h
  split at h
  · refine ⟨by simpa using mapM_some_length h, fun r hr => mapM_some_get h r r (by simp [hr])⟩
  · cases h
theorem cell_spot {a : Addr} {u : Value} (h : W.cell? a = some u) : a.spot = none := by
  unfold World.cell? at h
  split at h
  · split at h
    · cases h
    · rename_i hs
      simpa using hs
  · cases h
theorem cell_lt {b o : Nat} {u : Value} (h : W.cell? ⟨b, o, none⟩ = some u) : b < W.heap.size := by
  unfold World.cell? at h
  split at h
  · rename_i hc
    exact (Array.getElem?_eq_some_iff.1 hc).1
  · cases h
theorem open_rows {agg : Bool} {row : List SC} {b o : Nat} (hpos : 0 < row.length) (hagg : agg = true ∨ row.length = 1) :
    ∀ len : Nat, (∀ i, i < len → ∃ (cs : List Value) (xs : List AV), cs.length = row.length ∧ (∀ r, r < row.length → W.cell? ⟨b, o + i * row.length + r, none⟩ = cs[r]?) ∧ RepL (R0 W).closed xs cs ∧ FitL row xs ∧ ∀ u ∈ cs, u.oneCell' = true) →
      ∃ (rows : List (List AV)) (vs : List Value), rows.length = len ∧ RepL (R0 W).closed (rows.map (mkRow agg)) vs ∧ (∀ cs ∈ rows, FitL row cs) ∧ (∀ u ∈ vs, u.cells.size = row.length) ∧ (∀ u ∈ flat vs, u.oneCell' = true) ∧
        (flat vs).length = len * row.length ∧ ∀ (j : Nat) (u : Value), (flat vs)[j]? = some u → W.cell? ⟨b, o + j, none⟩ = some u
  | 0, _ => ⟨[], [], rfl, by simp [RepL], by simp, by simp, by simp [flat], by simp [flat], by simp [flat]⟩
  | len + 1, h => by
    obtain ⟨rows, vs, h1, h2, h3, h4, h5, h6, h7⟩ := open_rows hpos hagg len fun i hi => h i (by omega)
    obtain ⟨cs, xs, g1, g2, g3, g4, g5⟩ := h len (by omega)
    have hx : xs.length = row.length := g4.length
    have key : ∃ v : Value, v.cells.toList = cs ∧ Rep (R0 W).closed (mkRow agg xs) v := by
      cases agg with
      | true => exact ⟨.agg cs.toArray, by simp [Value.cells], by simp only [mkRow, Rep]; exact ⟨cs, rfl, g3⟩⟩
      | false =>
        have hl : row.length = 1 := by simpa using hagg
        match xs, cs, (by omega : xs.length = 1), (by omega : cs.length = 1), g3, g5 with
        | [x], [c], _, _, g3, g5 =>
          simp only [RepL] at g3
          obtain ⟨v, ws, e, hr, hw⟩ := g3
          simp only [List.cons.injEq] at e
          obtain ⟨rfl, _⟩ := e
          have := g5 c (by simp)
          refine ⟨c, ?_, hr⟩
          cases c <;> simp [Value.cells, Value.oneCell'] at this ⊢
    obtain ⟨v, hv, hr⟩ := key
    have hflat : flat (vs ++ [v]) = flat vs ++ cs := by simp [flat, hv]
    refine ⟨rows ++ [xs], vs ++ [v], by simp [h1], ?_, ?_, ?_, ?_, ?_, ?_⟩
    · rw [List.map_append]
      exact h2.append (by simp only [List.map_cons, List.map_nil, RepL]; exact ⟨v, [], rfl, hr, rfl⟩)
    · intro c hc
      rcases List.mem_append.1 hc with hc | hc
      · exact h3 c hc
      · rw [List.mem_singleton.1 hc]; exact g4
    · intro u hu
      rcases List.mem_append.1 hu with hu | hu
      · exact h4 u hu
      · rw [List.mem_singleton.1 hu, ← Array.length_toList, hv, g1]
    · rw [hflat]
      intro u hu
      rcases List.mem_append.1 hu with hu | hu
      · exact h5 u hu
      · exact g5 u hu
    · rw [hflat, List.length_append, h6, g1, Nat.succ_mul]
    · rw [hflat]
      intro j u hj
      by_cases hlt : j < len * row.length
      · rw [List.getElem?_append_left (by omega)] at hj
        exact h7 j u hj
      · rw [List.getElem?_append_right (by omega), h6] at hj
        have hr2 : j - len * row.length < cs.length := (List.getElem?_eq_some_iff.1 hj).1
        have := g2 (j - len * row.length) (by omega)
        rw [hj] at this
        rw [← this]
        congr 2
        omega
theorem open_fields {f : TypeId → Option (List SC)} {n : Nat}
    (ih : ∀ (t : TypeId) (scs : List SC) (cs : List Value) (x : DataW H × List MemPlace), f t = some scs → DataW.trod enc P W base sp held n t cs = some x → ∃ xs, RepL (R0 W).closed xs cs ∧ FitL scs xs ∧ ∀ u ∈ cs, u.oneCell' = true) :
    ∀ (fs : List Field) (off : Nat) (scs : List SC) (cs : List Value), fieldTys f P fs off = some scs → cs.length = off + scs.length →
      (∀ fd ∈ fs, ∃ x, DataW.trod enc P W base sp held n fd.type ((cs.drop fd.offset).take (P.cellsOf fd.type)) = some x) → ∃ xs, RepL (R0 W).closed xs (cs.drop off) ∧ FitL scs xs ∧ ∀ u ∈ cs.drop off, u.oneCell' = true
  | [], off, scs, cs, h, hl, _ => by
    simp only [fieldTys] at h
    injection h with h
    subst h
    have : cs.drop off = [] := List.drop_eq_nil_of_le (by simp at hl; omega)
    rw [this]
    exact ⟨[], by simp [RepL], by simp [FitL], by simp⟩
  | fd :: fs, off, scs, cs, h, hl, ht => by
    simp only [fieldTys] at h
    split at h
    case h_2 => cases h
    rename_i l r h1 h2
    split at h
    case isFalse => cases h
    rename_i hc
    injection h with h
    subst h
    obtain ⟨x, hx⟩ := ht fd (by simp)
    rw [hc.1] at hx
    obtain ⟨xs, a1, a2, a3⟩ := ih fd.type l _ x h1 hx
    rw [← hc.2] at h2
    obtain ⟨ys, b1, b2, b3⟩ := open_fields ih fs (off + l.length) r cs h2 (by simp at hl; omega) fun fd' h' => ht fd' (by simp [h'])
    have e : cs.drop off = (cs.drop off).take (P.cellsOf fd.type) ++ cs.drop (off + l.length) := by
      rw [hc.2, ← List.drop_drop, List.take_append_drop]
    rw [e]
    exact ⟨xs ++ ys, a1.append b1, b2.append a2, fun u hu => (List.mem_append.1 hu).elim (a3 u) (b3 u)⟩
theorem open_cells (hcell : ∀ t e, P.underlying t = some (.slice e) → True := fun _ _ _ => trivial) : ∀ (n m : Nat) (t : TypeId) (scs : List SC) (cs : List Value) (x : DataW H × List MemPlace), cellTys P n t = some scs → DataW.trod enc P W base sp held m t cs = some x →
    ∃ xs, RepL (R0 W).closed xs cs ∧ FitL scs xs ∧ ∀ u ∈ cs, u.oneCell' = true
  | 0, m, t, scs, cs, x, h, _ => by simp [cellTys] at h
  | n + 1, 0, t, scs, cs, x, _, hx => by simp [DataW.trod] at hx
  | n + 1, m + 1, t, scs, cs, x, h, hx => by
    simp only [cellTys] at h
    split at h
    · rename_i hu
      injection h with h
      subst h
      unfold DataW.trod at hx
      rw [hu] at hx
      split at hx <;> simp_all
      rename_i b
      exact ⟨[.lit (.bool b)], by simp [RepL, Rep], by simp [FitL, Fit], rfl⟩
    · rename_i k hu
      injection h with h
      subst h
      obtain ⟨z, hz, _, hw⟩ := DataW.trod_int hu hx
      subst hz
      exact ⟨[.lit (.int k z)], by simp [RepL, Rep], by simp only [FitL, Fit]; exact ⟨_, [], rfl, ⟨z, rfl, hw⟩, rfl⟩, by simp [Value.oneCell']⟩
    · rename_i hu
      injection h with h
      subst h
      obtain ⟨z, hz, _, hw⟩ := DataW.trod_string hu hx
      subst hz
      exact ⟨[.lit (.string z)], by simp [RepL, Rep], by simp only [FitL, Fit]; exact ⟨_, [], rfl, ⟨z, rfl, hw⟩, rfl⟩, by simp [Value.oneCell']⟩
    · rename_i e hu
      split at h
      case h_2 => cases h
      rename_i row b hrow hb
      split at h
      case isFalse => cases h
      rename_i hc
      injection h with h
      subst h
      rcases DataW.trod_slice hu hx with ⟨rfl, _⟩ | ⟨a, len, cap, elems, rest, m', hm', rfl, _, hba, hlc, hcm, hel, hall, _, _⟩
      · refine ⟨[.sl .none row.length []], ?_, ?_, by simp [Value.oneCell']⟩
        · simp only [RepL, Rep]
          refine ⟨_, [], rfl, ⟨none, 0, [], rfl, by simp, by simp [RepL], by simp, by simp [flat], by simp⟩, rfl⟩
        · simp only [FitL, Fit]
          exact ⟨_, [], rfl, ⟨[], rfl, by simp, by simp⟩, rfl⟩
      · have each : ∀ i, i < len → ∃ (cs' : List Value) (x' : DataW H × List MemPlace), W.cells? base (a.add (i * P.cellsOf e)) (P.cellsOf e) = some cs' ∧ DataW.trod enc P W base sp held m' e cs' = some x' := by
          intro i hi
          have h1 := hall i hi
          rw [List.getElem?_eq_getElem (by omega)] at h1
          obtain ⟨cs', h2, h3⟩ := Option.bind_eq_some_iff.1 h1
          exact ⟨cs', _, h2, h3⟩
        have spot : 0 < len → a.spot = none := by
          intro hl
          obtain ⟨cs', _, h1, _⟩ := each 0 hl
          obtain ⟨hlen, hget⟩ := cells?_at h1
          have h2 := hget 0 (by omega)
          rw [List.getElem?_eq_getElem (by omega)] at h2
          have := cell_spot h2
          simpa [Addr.add] using this
        obtain ⟨rows, vs, r1, r2, r3, r4, r5, r6, r7⟩ := open_rows (W := W) (agg := b) (row := row) (b := a.block) (o := a.off) hc.2.1 hc.2.2 len (fun i hi => by
          obtain ⟨cs', x', h1, h2⟩ := each i hi
          obtain ⟨hlen, hget⟩ := cells?_at h1
          obtain ⟨xs, i1, i2, i3⟩ := open_cells hcell n m' e row cs' x' hrow h2
          refine ⟨cs', xs, by omega, fun r hr => ?_, i1, i2, i3⟩
          rw [← hget r (by omega), hc.1]
          have hsp := spot (by omega)
          obtain ⟨ab, ao, asp⟩ := a
          simp only at hsp
          subst hsp
          by_cases hi0 : i * P.cellsOf e = 0
          · by_cases hr0 : r = 0
            · subst hr0; simp [Addr.add, hi0]
            · simp [Addr.add, hi0, hr0]
          · by_cases hr0 : r = 0
            · subst hr0; simp [Addr.add, hi0]
            · simp [Addr.add, hi0, hr0])
        refine ⟨[.sl .none row.length (rows.map (mkRow b))], ?_, ?_, by simp [Value.oneCell']⟩
        · simp only [RepL, Rep]
          refine ⟨_, [], rfl, ⟨some a, cap, vs, by rw [List.length_map, r1], by rw [List.length_map]; omega, r2, r4, r5, ?_⟩, rfl⟩
          intro hne
          have hpos : 0 < len := by
            rcases Nat.eq_zero_or_pos len with h0 | h0
            · have : rows = [] := List.eq_nil_of_length_eq_zero (by omega)
              subst this
              exact absurd rfl hne
            · exact h0
          have hsp := spot hpos
          refine ⟨a.block, a.off, ?_, fun j u hj => ⟨?_, r7 j u hj⟩⟩
          · obtain ⟨ab, ao, asp⟩ := a
            simp only at hsp
            subst hsp
            rfl
          · exact cell_lt (r7 j u hj)
        · simp only [FitL, Fit]
          exact ⟨_, [], rfl, ⟨rows, rfl, by omega, r3⟩, rfl⟩
    · rename_i fs hu
      split at h
      case h_2 => cases h
      rename_i l hl
      split at h
      case isFalse => cases h
      rename_i hlen
      injection h with h
      subst h
      obtain ⟨xs, m', hm', _, hcl, hxl, hf⟩ := DataW.trod_struct hu hx
      have hmm : m' = m := by omega
      subst hmm
      have := open_fields (H := H) (enc := enc) (P := P) (W := W) (base := base) (sp := sp) (held := held) (n := m') (f := cellTys P n) (fun t scs cs x h1 h2 => open_cells hcell n m' t scs cs x h1 h2) fs.toList 0 l cs hl (by omega) (by
        intro fd hfd
        obtain ⟨i, hi, e⟩ := List.mem_iff_getElem.1 hfd
        have hi' : fs[i]? = some fd := by
          rw [← e]
          simp only [Array.length_toList] at hi
          simp [hi]
        have h1 := hf i fd hi'
        rw [List.getElem?_eq_getElem (by have := (Array.getElem?_eq_some_iff.1 hi').1; omega)] at h1
        exact ⟨_, h1⟩)
      simpa using this
    · cases h
theorem okWide_flat {r : Reach} {t : TypeId} {v : Value} (h : Value.okWide P W r base t v) (ht : isAggB P t = some false) : v.cells.toList = [v] := by
  unfold isAggB at ht
  unfold Value.okWide at h
  cases hu : P.underlying t with
  | none => rw [hu] at ht; cases ht
  | some d =>
    cases d <;> simp only [hu, Option.some.injEq, Bool.true_eq_false] at ht h
    all_goals
      unfold Cell.okWide at h
      rw [hu] at h
      cases v <;> first | rfl | (exfalso; simp [Cell.ok, hu] at h)
theorem okWide_agg {r : Reach} {t : TypeId} {v : Value} (h : Value.okWide P W r base t v) (ht : isAggB P t = some true) : ∃ cs : Array Value, v = .agg cs := by
  unfold isAggB at ht
  unfold Value.okWide at h
  cases hu : P.underlying t with
  | none => rw [hu] at ht; cases ht
  | some d =>
    cases d <;> simp only [hu, Option.some.injEq, Bool.false_eq_true] at ht h
    all_goals (obtain ⟨cs, rfl, _⟩ := h; exact ⟨cs, rfl⟩)
theorem open_arg {r : Reach} {n : Nat} {t : TypeId} {v : Value} {d : DataW H} {p : List MemPlace} {scs : List SC} {b : Bool} (hc : cellTys P n t = some scs) (hb : isAggB P t = some b) (hok : Value.okWide P W r base t v) {base' : Nat}
    (h : DataW.Trod enc P W base' sp held t v d p) : ∃ cs, Rep (R0 W) (mkRow b cs) v ∧ FitL scs cs := by
  obtain ⟨m, h⟩ := h
  obtain ⟨xs, h1, h2, h3⟩ := open_cells (fun _ _ _ => trivial) n m t scs _ _ hc h
  refine ⟨xs, ?_, h2⟩
  cases b with
  | true =>
    obtain ⟨cs, rfl⟩ := okWide_agg hok hb
    have : Rep (R0 W).closed (.agg xs) (.agg cs) := by simp only [Rep]; exact ⟨cs.toList, by simp, h1⟩
    exact this.mono (R0_ext W)
  | false =>
    rw [okWide_flat hok hb] at h1
    match xs, h1 with
    | [], h1 => simp [RepL] at h1
    | x :: xs, h1 =>
      simp only [RepL] at h1
      obtain ⟨w, ws, e, hr, _⟩ := h1
      simp only [List.cons.injEq] at e
      obtain ⟨rfl, _⟩ := e
      exact hr.mono (R0_ext W)
theorem trodAll_stays (hl : laidOutB P = true) {W' : World} (hb : Below W.heap.size W W') {sp' : Nat → Bool} : ∀ {ts : List TypeId} {vs : List Value} {ds : List (DataW H)} {ps : List MemPlace}, (∀ t ∈ ts, P.readableRec t = true ∧ t < P.types.size) →
    DataW.TrodAll enc P W 0 (fun _ => true) true ts vs ds ps → (∀ p ∈ ps, p.block < W.heap.size) → (∀ p ∈ ps, sp' p.block = true) → DataW.TrodAll enc P W' 0 sp' true ts vs ds ps
  | [], _, _, _, _, h, _, _ => by
    obtain ⟨rfl, rfl, rfl⟩ := trodAll_nil h
    exact trodAll_mk0
  | t :: ts, _, _, _, ht, h, hlt, hs => by
    obtain ⟨v, vs, d, ds, a, b, rfl, rfl, rfl, h1, h2⟩ := trodAll_cons h
    exact ⟨a, b, WideElems.Trod_stays hl (ht t (by simp)).1 (ht t (by simp)).2 h1 (fun x hx => hb.same (hlt x (by simp [hx]))) (fun x hx => hs x (by simp [hx])),
      trodAll_stays hl hb (fun t' h' => ht t' (by simp [h'])) h2 (fun x hx => hlt x (by simp [hx])) (fun x hx => hs x (by simp [hx])), rfl⟩
theorem post_of_below {f : Func} {s : ChangeSpec} {apart fresh handsOn again : Bool} {W' : World} {args : Array Value} {v : Value} {ds gs : List (DataW H)} {before pa pv : List MemPlace}
    (hW : DataW.Whole enc P f.params.toList s.vars apart W args.toList ds gs before) (hb : Below W.heap.size W W')
    (hres : ∀ (b : Nat) (sp : Nat → Bool) (hd : Bool), DataW.TrodAll enc P W' b sp hd f.resultTypes.toList (v.resultList f.resultTypes.size) (s.fn H (ds ++ gs)).results [])
    (hargs : ∀ sp : Nat → Bool, (∀ p ∈ before, sp p.block = true) → DataW.TrodAll enc P W' 0 sp true f.params.toList args.toList (s.fn H (ds ++ gs)).args pa)
    (hvars : ∀ sp : Nat → Bool, (∀ p ∈ before, sp p.block = true) → DataW.TrodVars enc P W' sp s.vars (s.fn H (ds ++ gs)).vars pv)
    (hps : before = pa ++ pv)
    (hok : ∀ (j : Nat) (t : TypeId) (r : Value), f.resultTypes[j]? = some t → (v.resultList f.resultTypes.size)[j]? = some r → Value.okWide P W' .any 0 t r) :
    s.post enc P f apart fresh handsOn again W args v W' := by
  have hold : ∀ p ∈ before, (fun b => decide (b < W.heap.size)) p.block = true := fun p hp => by simpa using hW.lt p hp
  refine ⟨ds, gs, before, [], pa, pv, hW, hres _ _ _, hargs _ hold, hvars _ hold, World.keptBut_mono (fun p hp => ⟨hp, ?_⟩) (hb.frame (· ∈ before)), fun _ => ?_⟩
  · rw [hps, List.mem_append] at hp
    exact Or.inr hp
  · have hlt := hW.lt
    obtain ⟨_, _, _, _, _, hz, hn⟩ := hW
    refine ⟨hok, _, _, ([] ++ pa) ++ pv, ⟨[] ++ pa, pv, trodAll_append (hargs _ (fun _ _ => rfl)) (hres _ _ _), hvars _ (fun _ _ => rfl), rfl, ?_, ?_⟩, ?_⟩
    · intro b off hp
      have hp' : MemPlace.cell b off ∈ before := by rw [hps]; simpa using hp
      rw [hb.frozen (hlt _ hp')]
      exact hz b off hp'
    · intro ha
      have := hn ha
      rw [hps] at this
      simpa using this
    · intro p hp _
      rw [hps]
      simpa using hp
theorem calls_true {f : FuncId} {fn : Func} {s : ChangeSpec} {apart fresh handsOn again : Bool} {args : Array Value} {ds gs : List (DataW H)} {before : List MemPlace} {xs : List AV} {tb : TypeId}
    (hl : laidOutB P = true) (hp : ∀ t ∈ fn.params.toList, P.readableRec t = true ∧ t < P.types.size) (hres : fn.resultTypes = #[tb]) (htb : P.underlying tb = some .bool) (hvars : s.vars = [])
    (hs : s.fn H ds = { results := [.lit (.bool true)], args := ds })
    (hW : DataW.Whole enc P fn.params.toList s.vars apart W args.toList ds gs before) (hg : SentAt W) (hgd : GOK fun g => W.heap[g]?)
    (hAC : AC P f xs (.lit (.bool true))) (hrep : RepL (R0 W) xs args.toList) : Calls P f args W fun e W' => ∃ v, e = .returned v ∧ s.post enc P fn apart fresh handsOn again W args v W' := by
  have hc := AM.calls hAC (R0 W) args.toList (R0_start W hg hgd) (fun c b h => by cases h) (fun c cs h => by cases h) hrep
  have e : args.toList.toArray = args := by simp
  rw [e] at hc
  refine hc.mono fun e W' ⟨v, E', he, hw, hr, ha, _⟩ => ⟨v, he, ?_⟩
  simp only [Rep] at hr
  subst hr hw
  have hb : Below W.heap.size W E'.w := ha.below.below fun k ⟨c, hc⟩ => by cases hc
  have hlt := hW.lt
  obtain ⟨p, q, hA, hV, hpq, hz, hn⟩ := hW
  have hV' := hV
  rw [hvars] at hV'
  have hgq : gs = [] ∧ q = [] := by
    cases gs with
    | nil => exact ⟨rfl, hV'⟩
    | cons g gs => exact (hV' : False).elim
  obtain ⟨rfl, rfl⟩ := hgq
  rw [List.append_nil] at hpq
  subst hpq
  refine post_of_below (pa := before) (pv := []) ⟨before, [], hA, hV, by simp, hz, hn⟩ hb (fun b sp hd => ?_) (fun sp hsp => ?_) (fun sp _ => ?_) (by simp) (ok_one hres rfl (okWide_bool_mk htb _))
  · rw [List.append_nil, hs, hres]
    exact trodAll_mk1 ⟨1, by simp [DataW.trod, htb, Value.cells]⟩
  · rw [List.append_nil, hs]
    exact trodAll_stays hl hb hp hA hlt hsp
  · rw [List.append_nil, hs, hvars]
    rfl
def argTys (P : Program) (n : Nat) : List TypeId → Option (List (List SC × Bool))
  | [] => some []
  | t :: ts => match cellTys P n t, isAggB P t, argTys P n ts with
    | some l, some b, some r => some ((l, b) :: r)
    | _, _, _ => none
def ArgsFit : List (List SC × Bool) → List AV → Prop
  | [], xs => xs = []
  | (scs, b) :: ts, xs => ∃ cs r, xs = mkRow b cs :: r ∧ FitL scs cs ∧ ArgsFit ts r
theorem open_args {n : Nat} : ∀ {ts : List TypeId} {tys : List (List SC × Bool)} {vs : List Value} {ds : List (DataW H)} {ps : List MemPlace}, argTys P n ts = some tys → DataW.TrodAll enc P W 0 sp held ts vs ds ps →
    (∀ (j : Nat) t v, ts[j]? = some t → vs[j]? = some v → Value.okWide P W .any base t v) → ∃ xs, RepL (R0 W) xs vs ∧ ArgsFit tys xs
  | [], tys, _, _, _, ht, h, _ => by
    obtain ⟨rfl, rfl, rfl⟩ := trodAll_nil h
    simp only [argTys] at ht
    injection ht with ht
    subst ht
    exact ⟨[], by simp [RepL], by simp [ArgsFit]⟩
  | t :: ts, tys, _, _, _, ht, h, hok => by
    obtain ⟨v, vs, d, ds, a, b, rfl, rfl, rfl, h1, h2⟩ := trodAll_cons h
    simp only [argTys] at ht
    split at ht
    case h_2 => cases ht
    rename_i l b r e1 e2 e3
    injection ht with ht
    subst ht
    obtain ⟨cs, g1, g2⟩ := open_arg e1 e2 (hok 0 t v rfl rfl) h1
    obtain ⟨xs, g3, g4⟩ := open_args e3 h2 fun j t v ht hv => hok (j + 1) t v (by simpa using ht) (by simpa using hv)
    exact ⟨mkRow b cs :: xs, by simp only [RepL]; exact ⟨v, vs, rfl, g1, g3⟩, by simp only [ArgsFit]; exact ⟨cs, xs, rfl, g2, g4⟩⟩
def lawOf (P : Program) (fn : Func) (n : Nat) : Bool × Option (List (List SC × Bool)) × Bool :=
  (laidOutB P, argTys P n fn.params.toList, (fn.params.toList.all fun t => P.readableRec t && decide (t < P.types.size)) && (match fn.resultTypes.toList with
    | [t] => (match P.underlying t with
      | some .bool => true
      | _ => false)
    | _ => false))
theorem law_calls {f : FuncId} {fn : Func} {s : ChangeSpec} {apart fresh handsOn again : Bool} {args : Array Value} {ds gs : List (DataW H)} {before : List MemPlace} {n : Nat} {tys : List (List SC × Bool)} (hc : lawOf P fn n = (true, some tys, true)) (hvars : s.vars = [])
    (hs : ∀ ds : List (DataW H), ds.length = tys.length → s.fn H ds = { results := [.lit (.bool true)], args := ds })
    (hval : ∀ (j : Nat) t v, fn.params[j]? = some t → args[j]? = some v → Value.okWide P W .any base t v)
    (hW : DataW.Whole enc P fn.params.toList s.vars apart W args.toList ds gs before) (hg : SentAt W) (hgd : GOK fun g => W.heap[g]?)
    (hAC : ∀ xs, ArgsFit tys xs → AC P f xs (.lit (.bool true))) : Calls P f args W fun e W' => ∃ v, e = .returned v ∧ s.post enc P fn apart fresh handsOn again W args v W' := by
  simp only [lawOf, Prod.mk.injEq, Bool.and_eq_true, List.all_eq_true, decide_eq_true_eq] at hc
  obtain ⟨h1, h2, h3, h4⟩ := hc
  obtain ⟨p, q, hA, hV, hpq, hz, hn⟩ := hW
  obtain ⟨xs, hr, hf⟩ := open_args h2 hA fun j t v ht hv => hval j t v (by simpa using ht) (by simpa using hv)
  have hlen : ds.length = tys.length := by
    have e1 := trods hA
    have e2 := argTys_length h2
    omega
  split at h4
  case h_2 => cases h4
  rename_i tb hrt
  split at h4
  case h_2 => cases h4
  rename_i hb
  exact calls_true h1 h3 (by rw [← Array.toList_inj]; simpa using hrt) hb hvars (hs ds hlen) ⟨p, q, hA, hV, hpq, hz, hn⟩ hg hgd (hAC xs hf) hr
where
  argTys_length : ∀ {ts : List TypeId} {tys : List (List SC × Bool)}, argTys P n ts = some tys → tys.length = ts.length
    | [], tys, h => by simp only [argTys] at h; injection h with h; subst h; rfl
    | t :: ts, tys, h => by
      simp only [argTys] at h
      split at h
      case h_2 => cases h
      rename_i e
      injection h with h
      subst h
      simp [argTys_length e]
  trods : ∀ {ts : List TypeId} {vs : List Value} {ds : List (DataW H)} {ps : List MemPlace}, DataW.TrodAll enc P W 0 (fun _ => true) true ts vs ds ps → ds.length = ts.length
    | [], _, _, _, h => by
      obtain ⟨rfl, rfl, rfl⟩ := trodAll_nil h
      rfl
    | t :: ts, _, _, _, h => by
      obtain ⟨v, vs, d, ds, a, b, rfl, rfl, rfl, h1, h2⟩ := trodAll_cons h
      simp [trods h2]
end
end Go.Proofs.YtobofhbklfallaaGreatDoor.VL
end

section
namespace Go.Proofs.YtobofhbklfallaaGreatDoor
open Go.RowKit VL
theorem ownK : ownKnob Tryz.prog.godebug = none := by kernel_rfl
theorem returns_laid {H : Type} {enc : TypeId × Value → H} {a : Assume} {C : Checked} {os : Os} {f : FuncId} {fn : Func} {s : ChangeSpec} {conds : List PathCond} {apart fresh handsOn again : Bool} {X : World → Array Value → Prop}
    (hX : ∀ (w w' : World) (args : Array Value), w.heap = w'.heap → X w args → X w' args)
    (own : ownKnob C.prog.godebug = none) (started : os.Started) (noInit : C.prog.inits.idxOf? f = none) (hfn : C.prog.funcs[f]? = some fn)
    (witness : ∃ (w : World) (tape : Tape) (i : Input), w.os = os ∧ (w.forCall tape i).Shaped C.prog ∧ i.vars = [] ∧ Input.okWide C.prog (w.forCall tape i) .any w.heap.size f i ∧
      ((s.pre enc C.prog fn conds apart (w.forCall tape i).memory i.args ∧ X (w.forCall tape i).memory i.args) ∧ sizedMet enc C.prog fn (OpenSpec.ofChange s) apart (w.forCall tape i).memory i.args) ∧ a.holds C.prog (lone (Frame.enter C.prog f i.args .normal) [] (w.forCall tape i)))
    (contract : ∀ (W : World) (base : Nat) (args : Array Value) (ds gs : List (DataW H)) (before : List MemPlace),
      (∀ (j : Nat) t v, fn.params[j]? = some t → args[j]? = some v → Value.okWide C.prog W .any base t v) →
      DataW.Whole enc C.prog fn.params.toList s.vars apart W args.toList ds gs before →
      conds.all (PathCond.test C.prog ⟨fn.params.toList, ds, s.plain.varTypes C.prog, gs⟩) = true →
      (DataW.weightsEach C.prog (fn.params.toList ++ s.plain.varTypes C.prog) (ds ++ gs)).all (· ≤ reachBytes) = true → X W args →
      W.ShapedOpen C.prog →
      a.holds C.prog (lone (Frame.enter C.prog f args .normal) [] W) →
      Calls C.prog f args W fun e W' => ∃ v, e = .returned v ∧ s.post enc C.prog fn apart fresh handsOn again W args v W') :
    ReturnsInHanded a C os f .any (fun w args => (s.pre enc C.prog fn conds apart w args ∧ X w args) ∧ sizedMet enc C.prog fn (OpenSpec.ofChange s) apart w args) (s.post enc C.prog fn apart fresh handsOn again) := by
  refine returnsInHanded_of_calls own started noInit witness ?_
  intro w tape i _ hsh _ hok hpre hholds
  obtain ⟨_, _, _, fn', hfn', _, _, _, _, hval⟩ := hok
  have e : fn' = fn := Option.some.inj (hfn'.symm.trans hfn)
  subst e
  obtain ⟨⟨⟨ds, gs, before, hw, hc⟩, hx⟩, hz⟩ := hpre
  have hw' := DataW.Whole.of_heap (w' := w.forCall tape i) (by rfl) hw
  refine (contract (w.forCall tape i) w.heap.size i.args ds gs before hval hw' hc (hz.weights hw) (hX _ _ _ (by rfl) hx) hsh hholds).mono fun e W' ⟨v, he, hp⟩ => ?_
  subst he
  exact ChangeSpec.post_blind hp
namespace VL
theorem fit_int {k : IntKind} {cs : List AV} (h : FitL [.int k] cs) : ∃ n : Int, (Lit.int k n).wf = true ∧ mkRow false cs = .lit (.int k n) := by
  simp only [FitL, Fit] at h
  obtain ⟨_, _, rfl, ⟨n, rfl, hw⟩, rfl⟩ := h
  exact ⟨n, hw, rfl⟩
theorem fit_u32 {cs : List AV} (h : FitL [.int .u32] cs) : ∃ n : Nat, n < 4294967296 ∧ mkRow false cs = .lit (.int .u32 (n : Nat)) := by
  obtain ⟨n, hw, e⟩ := fit_int h
  have hr : 0 ≤ n ∧ n < 4294967296 := by
    simp [Lit.wf, IntKind.min, IntKind.max, IntKind.bits, IntKind.signed] at hw
    omega
  exact ⟨n.toNat, by omega, by rw [e, Int.toNat_of_nonneg hr.1]⟩
theorem fit_rows {α : Type} (f : α → AV) {agg : Bool} {row : List SC} (hf : ∀ cs, FitL row cs → ∃ a, mkRow agg cs = f a) : ∀ rows : List (List AV), (∀ cs ∈ rows, FitL row cs) → ∃ l : List α, rows.map (mkRow agg) = l.map f
  | [], _ => ⟨[], rfl⟩
  | cs :: rows, h => by
    obtain ⟨a, ha⟩ := hf cs (h cs (by simp))
    obtain ⟨l, hl⟩ := fit_rows f hf rows fun c hc => h c (by simp [hc])
    exact ⟨a :: l, by simp [ha, hl]⟩
theorem fit_slice {α : Type} (f : α → AV) {agg : Bool} {row : List SC} {cs : List AV} (hf : ∀ cs, FitL row cs → ∃ a, mkRow agg cs = f a) (h : FitL [.sl agg row] cs) : ∃ l : List α, l.length ≤ maxLen ∧ mkRow false cs = .sl .none row.length (l.map f) := by
  simp only [FitL, Fit] at h
  obtain ⟨_, _, rfl, ⟨rows, rfl, hm, hr⟩, rfl⟩ := h
  obtain ⟨l, hl⟩ := fit_rows f hf rows hr
  have hlen : l.length = rows.length := by have := congrArg List.length hl; simpa using this.symm
  exact ⟨l, by omega, by simp only [mkRow, List.headD_cons, hl]⟩
theorem fit_rowsP {α : Type} (f : α → AV) (Q : α → Prop) {agg : Bool} {row : List SC} (hf : ∀ cs, FitL row cs → ∃ a, Q a ∧ mkRow agg cs = f a) : ∀ rows : List (List AV), (∀ cs ∈ rows, FitL row cs) → ∃ l : List α, (∀ a ∈ l, Q a) ∧ rows.map (mkRow agg) = l.map f
  | [], _ => ⟨[], by simp, rfl⟩
  | cs :: rows, h => by
    obtain ⟨a, hq, ha⟩ := hf cs (h cs (by simp))
    obtain ⟨l, hql, hl⟩ := fit_rowsP f Q hf rows fun c hc => h c (by simp [hc])
    exact ⟨a :: l, by simpa using ⟨hq, hql⟩, by simp [ha, hl]⟩
theorem fit_sliceP {α : Type} (f : α → AV) (Q : α → Prop) {agg : Bool} {row : List SC} {cs : List AV} (hf : ∀ cs, FitL row cs → ∃ a, Q a ∧ mkRow agg cs = f a) (h : FitL [.sl agg row] cs) : ∃ l : List α, l.length ≤ maxLen ∧ (∀ a ∈ l, Q a) ∧ mkRow false cs = .sl .none row.length (l.map f) := by
  simp only [FitL, Fit] at h
  obtain ⟨_, _, rfl, ⟨rows, rfl, hm, hr⟩, rfl⟩ := h
  obtain ⟨l, hq, hl⟩ := fit_rowsP f Q hf rows hr
  have hlen : l.length = rows.length := by have := congrArg List.length hl; simpa using this.symm
  exact ⟨l, by omega, hq, by simp only [mkRow, List.headD_cons, hl]⟩
end VL
end Go.Proofs.YtobofhbklfallaaGreatDoor
end

section
namespace Go.Proofs.YtobofhbklfallaaGreatDoor
open Go.RowKit VL
def isS : String × DataW Unit → Option String
  | (n, .iface nm (.ptr (.agg [.lit (.string _)]))) => if nm = "*errors.errorString" then some n else none
  | _ => none
theorem isS_some {e : String × DataW Unit} {n : String} (h : isS e = some n) : ∃ text, e = (n, .iface "*errors.errorString" (.ptr (.agg [.lit (.string text)]))) := by
  unfold isS at h
  split at h
  · split at h
    · rename_i hn
      injection h with h
      subst h hn
      exact ⟨_, rfl⟩
    · cases h
  · cases h
theorem row_err (u : TypeId) (h : Tryz.prog.typeName? 3 u = some "*errors.errorString") : u = GT :=
  typeName_ptr_named (nm := "errors.errorString") (by rw [show "*" ++ "errors.errorString" = "*errors.errorString" by decide]; kernel_rfl) (by kernel_rfl) (by decide) u (by rw [show "*" ++ "errors.errorString" = "*errors.errorString" by decide]; exact h)
def SOK (P : Program) (W : World) (n : String) (a : Addr) : Prop :=
  ∃ g, P.globalNamed n = some g ∧ W.cell? ⟨g, 0, none⟩ = some (.iface GT (.pointer (some a))) ∧ ∃ cs ty, W.heap[a.block]? = some (.cells cs ty (0, 0))
def SRel (P : Program) (W : World) : List String → List Addr → Prop
  | [], [] => True
  | n :: ns, a :: al => SOK P W n a ∧ SRel P W ns al
  | _, _ => False
theorem srel_get {P : Program} {W : World} : ∀ {ns : List String} {al : List Addr}, SRel P W ns al → ∀ (i : Nat) (n : String), ns[i]? = some n → ∃ a, al[i]? = some a ∧ SOK P W n a
  | [], _, _, i, n, h => by simp at h
  | _ :: _, [], h, _, _, _ => by simp [SRel] at h
  | m :: ns, a :: al, h, 0, n, hn => by
    simp only [List.getElem?_cons_zero, Option.some.injEq] at hn
    subst hn
    exact ⟨a, rfl, h.1⟩
  | m :: ns, a :: al, h, i + 1, n, hn => by
    simp only [List.getElem?_cons_succ] at hn ⊢
    exact srel_get h.2 i n hn
noncomputable def entB (P : Program) (e : String × DataW Unit) : Bool := match isS e with
  | some n => (match P.globalNamed n with
    | some g => decide ((P.globals[g]?).map (·.type) = some 37)
    | none => false)
  | none => true
theorem laid_sents {P : Program} {te ts : TypeId} {ms : Array (String × TypeId)} {f : Field} (hi : P.underlying 37 = some (.interface ms)) (hrow : ∀ u, P.typeName? 3 u = some "*errors.errorString" → u = GT) (hp : P.underlying GT = some (.pointer te))
    (he : P.underlying te = some (.struct #[f])) (hft : f.type = ts) (hfo : f.offset = 0) (hs' : P.underlying ts = some .string) (hc : P.cellsOf te = 1) (hcs : P.cellsOf ts = 1) {W : World} : ∀ (L : List (String × DataW Unit)) (ps : List MemPlace), DataW.LaidVars P W L ps → ps.Nodup →
    (∀ b off, MemPlace.cell b off ∈ ps → (∃ c t, W.heap[b]? = some (.cells c t (0, 0))) ∧ ∀ u v, W.cell? ⟨b, off, none⟩ = some (.iface u v) → Value.okWide P W .any 0 u v) →
    L.all (entB P) = true →
    ∃ al, SRel P W (L.filterMap isS) al ∧ al.Nodup ∧ ∀ a ∈ al, MemPlace.cell a.block a.off ∈ ps
  | [], ps, h, _, _, _ => ⟨[], by simp [SRel], List.nodup_nil, fun a ha => by cases ha⟩
  | e :: r, ps, h, hnd, hrows, hty => by
    obtain ⟨n, d⟩ := e
    obtain ⟨g, t, cs, fuel, p, q, hg, ht, hv, hd, hq, rfl⟩ := h
    simp only [List.all_cons, Bool.and_eq_true] at hty
    have hndq : q.Nodup := List.Nodup.sublist (List.sublist_append_right _ _) hnd
    obtain ⟨al, h1, h2, h3⟩ := laid_sents hi hrow hp he hft hfo hs' hc hcs r q hq hndq (fun b off hm => hrows b off (List.mem_append_right _ hm)) hty.2
    cases hs : isS (n, d) with
    | none =>
      refine ⟨al, ?_, h2, fun a ha => List.mem_append_right _ (h3 a ha)⟩
      rw [List.filterMap_cons, hs]
      exact h1
    | some m =>
      obtain ⟨text, hE⟩ := isS_some hs
      injection hE with hE1 hE2
      subst hE1 hE2
      have hti := hty.1
      simp only [entB, hs, hg, decide_eq_true_eq] at hti
      obtain rfl := Option.some.inj (hti.symm.trans ht)
      obtain ⟨l0⟩ := cs
      have ok0 : ∀ u v, l0 = [.iface u v] → Value.okWide P W .any 0 u v := fun u v e => by
        subst e
        exact (hrows g 0 (by simp [MemPlace.row])).2 u v (by simpa using World.var?_cell hg hv 0)
      obtain ⟨a0, s0, rfl, hc0, hs0, hz0, rfl⟩ := errorString_of_trod hi hrow hp he hft hfo hs' hc hcs hd ok0
      have hcell : W.cell? ⟨g, 0, none⟩ = some (.iface GT (.pointer (some a0))) := by simpa using World.var?_cell hg hv 0
      have hm0 : MemPlace.cell a0.block a0.off ∈ MemPlace.row a0 1 := by simp [MemPlace.row]
      refine ⟨a0 :: al, ?_, ?_, ?_⟩
      · rw [List.filterMap_cons, hs]
        exact ⟨⟨g, hg, hcell, (hrows a0.block a0.off (List.mem_append_left _ (List.mem_append_right _ hm0))).1⟩, h1⟩
      · rw [List.nodup_cons]
        refine ⟨fun hmem => ?_, h2⟩
        have hq0 := h3 a0 hmem
        have := (List.nodup_append.1 hnd).2.2 _ (List.mem_append_right _ hm0) _ hq0
        exact this rfl
      · intro a ha
        rcases List.mem_cons.1 ha with rfl | ha
        · exact List.mem_append_left _ (List.mem_append_right _ hm0)
        · exact List.mem_append_right _ (h3 a ha)
theorem cellsE : Tryz.prog.cellsOf 295 = 1 := by kernel_rfl
theorem cellsS : Tryz.prog.cellsOf 9 = 1 := by kernel_rfl
noncomputable def sentB (L : List (String × DataW Unit)) : Bool :=
  L.all (entB Tryz.prog) && (GS.all fun g => (L.filterMap isS).any fun n => decide (Tryz.prog.globalNamed n = some g))
theorem sentAt_of {W : World} {L : List (String × DataW Unit)} (h : laidMet Tryz.prog L W) (hb : sentB L = true) : SentAt W := by
  obtain ⟨ps, hv, hnd, hrows⟩ := h
  simp only [sentB, Bool.and_eq_true] at hb
  obtain ⟨al, h1, h2, _⟩ := laid_sents Tryz.underlying37 row_err Tryz.underlying278 Tryz.underlying295 rfl rfl Tryz.underlying9 cellsE cellsS L ps hv hnd hrows hb.1
  have key : ∀ g ∈ GS, ∃ (i : Nat) (a : Addr), al[i]? = some a ∧ (L.filterMap isS)[i]?.bind Tryz.prog.globalNamed = some g ∧ W.cell? ⟨g, 0, none⟩ = some (.iface GT (.pointer (some a))) ∧ ∃ cs ty, W.heap[a.block]? = some (.cells cs ty (0, 0)) := by
    intro g hg
    have h3 := List.all_eq_true.1 hb.2 g hg
    obtain ⟨n, hn, h4⟩ := List.any_eq_true.1 h3
    have h4 : Tryz.prog.globalNamed n = some g := by simpa using h4
    obtain ⟨i, hi⟩ := List.getElem?_of_mem hn
    obtain ⟨a, ha, g', hg', hc, hh⟩ := srel_get h1 i n hi
    obtain rfl : g' = g := Option.some.inj (hg'.symm.trans h4)
    exact ⟨i, a, ha, by rw [hi]; exact h4, hc, hh⟩
  refine ⟨fun g hg => ?_, fun g hg k hk a t u e1 e2 => ?_⟩
  · obtain ⟨i, a, _, _, hc, cs, ty, hh⟩ := key g hg
    exact ⟨a, cs, ty, hc, hh⟩
  · obtain ⟨i, a1, ha1, hi, hc1, _⟩ := key g hg
    obtain ⟨j, a2, ha2, hj, hc2, _⟩ := key k hk
    rw [hc1] at e1
    rw [hc2] at e2
    injection e1 with e1
    injection e1 with _ e1
    injection e1 with e1
    injection e1 with e1
    injection e2 with e2
    injection e2 with _ e2
    injection e2 with e2
    injection e2 with e2
    subst e1 e2
    have hi1 := (List.getElem?_eq_some_iff.1 ha1).1
    have hij : i = j := (List.getElem?_inj hi1 h2).1 (ha1.trans ha2.symm)
    subst hij
    exact Option.some.inj (hi.symm.trans hj)
end Go.Proofs.YtobofhbklfallaaGreatDoor
end

section
namespace Go.Proofs.YtobofhbklfallaaGreatDoor
open Go.RowKit VL
theorem gokN (c : Nat → Option Obj) : GOK c :=
  ⟨fun q hq => (by cases hq), fun g hg => (by cases hg), fun g hg => (by cases hg)⟩
end Go.Proofs.YtobofhbklfallaaGreatDoor
end

section
namespace Go.Proofs.YtobofhbklfallaaGreatDoor
open Go.RowKit VL
theorem fact_out : laidOutB Tryz.prog = true := by kernel_rfl
theorem fact_rowed : mapsRowed Tryz.prog = true := by kernel_rfl
theorem fact_stops : (Tryz.prog.stops == []) = true := by kernel_rfl
theorem fact_knobs : (Tryz.prog.stopKnobs == []) = true := by kernel_rfl
theorem fact_heard : Tryz.prog.stopsHeard = true := by kernel_rfl
theorem fact_enter : Tryz.prog.mayEnter = true := by kernel_rfl
theorem and_mk {a b : Bool} (h1 : a = true) (h2 : b = true) : (a && b) = true := by rw [h1, h2]; rfl
theorem joined_mk {P : Program} {f : FuncId} {fn : Func} {s : ChangeSpec} {c : OpenClaim}
    (a1 : c.wf (OpenSpec.ofChange s) = true) (a2 : laidOutB P = true) (a3 : mapsRowed P = true) (a4 : fn.params.all (P.readableRec ·) = true) (a5 : namedTie P c.named s.vars = true)
    (b1 : (c.stops == []) = true) (b2 : (P.stops == []) = true) (b3 : (c.knobs == []) = true) (b4 : (P.stopKnobs == []) = true)
    (c1 : (c.inPlace == P.inPlace f) = true) (c2 : (c.unfollowed == P.unfollowed f) = true) (c3 : (c.recurses == P.recurses f) = true) (c4 : (c.named == P.varsNamed f) = true)
    (d1 : (c.maps == (fn.params.toList ++ s.plain.varTypes P).any (P.mapsRec ·)) = true) (d2 : (c.ifaces == (fn.params.toList ++ s.plain.varTypes P).any (P.ifacesRec ·)) = true) (d3 : (c.mapsOut == P.mapsAmong fn.resultTypes.toList) = true)
    (d4 : (c.loops == (fn.params.toList ++ s.plain.varTypes P).any (P.loopsFrom ·)) = true) (d5 : (c.wideKeys == (fn.params.toList ++ s.plain.varTypes P ++ fn.resultTypes.toList).any (P.wideKeysFrom ·)) = true)
    (e1 : s.vars.all (P.varReadable ·) = true) (e2 : fn.resultTypes.all (fun t => P.readableRec t && decide (t < P.types.size)) = true) (e3 : (c.ifacesOut == fn.resultTypes.toList.any (P.ifacesRec ·)) = true) (e4 : (c.loopsOut == fn.resultTypes.toList.any (P.loopsFrom ·)) = true) (e5 : (c.plainKeys == P.plainKeys) = true) (e6 : c.shortTexts.isNone = true)
    (g1 : P.stopsHeard = true) (g2 : P.mayEnter = true) (g3 : (c.lifted == P.liftsFinal) = true) (g4 : (P.make == some c.make) = true) (g5 : (c.kinds == (if c.domain.isEmpty then [] else fn.params.toList.map fun t => match P.underlying t with | some (.int k) => some k | _ => none)) = true) (g6 : (c.pinned == c.pinnedBy) = true)
    (i1 : (c.veiled == (fn.params.toList ++ s.plain.varTypes P ++ fn.resultTypes.toList).any (P.veiledRec ·)) = true) (i2 : c.veiledFits P fn.params.toList (fn.params.toList ++ s.plain.varTypes P ++ fn.resultTypes.toList) = true) : joinedFacts P f fn s c = true := by
  unfold joinedFacts
  exact (and_mk (and_mk (and_mk (and_mk (and_mk (and_mk (and_mk (and_mk (and_mk (and_mk (and_mk (and_mk (and_mk (and_mk (and_mk (and_mk (and_mk (and_mk (and_mk (and_mk (and_mk (and_mk (and_mk (and_mk (and_mk (and_mk (and_mk (and_mk (and_mk (and_mk (and_mk a1 a2) a3) a4) a5) b1) b2) b3) b4) c1) c2) c3) c4) d1) d2) d3) d4) d5) e1) e2) e3) e4) e5) e6) g1) g2) g3) g4) g5) g6) i1) i2)
end Go.Proofs.YtobofhbklfallaaGreatDoor
end

section
namespace Go.Proofs.YtobofhbklfallaaGreatDoor.VL
open Go.RowKit Go.Proofs
section
variable (t : TypeId) (k k' : IntKind) (u v : Int)
@[go_sem] theorem avBin_and : avBin .and t (.lit (.int k u)) (.lit (.int k v)) = some (.lit (.int k (bits .and k u v))) := by simp [avBin, binOp, intBits_and, p0, Pure.pure]
@[go_sem] theorem avBin_or : avBin .or t (.lit (.int k u)) (.lit (.int k v)) = some (.lit (.int k (bits .or k u v))) := by simp [avBin, binOp, intBits_or, p0, Pure.pure]
@[go_sem] theorem avBin_xor : avBin .xor t (.lit (.int k u)) (.lit (.int k v)) = some (.lit (.int k (bits .xor k u v))) := by simp [avBin, binOp, intBits_xor, p0, Pure.pure]
@[go_sem] theorem avBin_andNot : avBin .andNot t (.lit (.int k u)) (.lit (.int k v)) = some (.lit (.int k (bits .andNot k u v))) := by simp [avBin, binOp, intBits_andNot, p0, Pure.pure]
theorem avBin_shr (h0 : 0 ≤ v) (h1 : v ≤ k.bits) : avBin .shr t (.lit (.int k u)) (.lit (.int k' v)) = some (.lit (.int k (u / 2 ^ v.toNat))) := by simp [avBin, binOp, shift_shr k k' u v h0 h1, p0, Pure.pure]
theorem avBin_shl (h0 : 0 ≤ v) (h1 : v ≤ k.bits) : avBin .shl t (.lit (.int k u)) (.lit (.int k' v)) = some (.lit (.int k (k.wrap (u * 2 ^ v.toNat)))) := by simp [avBin, binOp, shift_shl k k' u v h0 h1, p0, Pure.pure]
@[go_sem] theorem avUn_xor : avUn .xor (.lit (.int k u)) = some (.lit (.int k (bits .xor k (if k.signed then -1 else k.max) u))) := by simp [avUn, Op.unary, intBits_xor, p0, Pure.pure]
end
theorem avMm_min2 (k : IntKind) (a b : Int) : avMm false [.lit (.int k a), .lit (.int k b)] = some (.lit (.int k (if b < a then b else a))) := by
  simp [avMm, aval.litOf, Builtin.min_, Builtin.min2, p0, Pure.pure, Bind.bind, Sem.bind]
theorem avMm_max2 (k : IntKind) (a b : Int) : avMm true [.lit (.int k a), .lit (.int k b)] = some (.lit (.int k (if a < b then b else a))) := by
  simp [avMm, aval.litOf, Builtin.max_, Builtin.max2, p0, Pure.pure, Bind.bind, Sem.bind]
end Go.Proofs.YtobofhbklfallaaGreatDoor.VL
end

section
namespace Go.Proofs.YtobofhbklfallaaGreatDoor.VL
open Go.RowKit Go.Proofs
theorem xor_max (x : Nat) (hx : x < 4294967296) : 4294967295 ^^^ x = 4294967295 - x := by
  apply Nat.eq_of_testBit_eq
  intro i
  have e : 4294967295 - x = 2 ^ 32 - (x + 1) := by omega
  rw [e, Nat.testBit_two_pow_sub_succ (by simpa using hx), Nat.testBit_xor, show (4294967295 : Nat) = 2 ^ 32 - 1 from rfl, Nat.testBit_two_pow_sub_one]
  by_cases hi : i < 32
  · simp [hi]
  · have : x.testBit i = false := Nat.testBit_lt_two_pow (Nat.lt_of_lt_of_le (show x < 2 ^ 32 from hx) (Nat.pow_le_pow_right (by decide) (by omega)))
    simp [hi, this]
theorem pow32_le (k : Nat) (hk : k ≤ 32) : 1 ≤ 2 ^ k ∧ 2 ^ k ≤ 4294967296 := ⟨Nat.one_le_two_pow, Nat.pow_le_pow_right (by decide) hk⟩
theorem and_high (a k : Nat) (ha : a < 4294967296) (hk : k ≤ 32) : a &&& (4294967296 - 2 ^ k) = a - a % 2 ^ k := by
  have hp := pow32_le k hk
  have e : a - a % 2 ^ k = (a >>> k) <<< k := by
    rw [Nat.shiftRight_eq_div_pow, Nat.shiftLeft_eq]
    have := Nat.div_add_mod a (2 ^ k)
    rw [Nat.mul_comm]
    omega
  rw [e]
  apply Nat.eq_of_testBit_eq
  intro i
  have e2 : 4294967296 - 2 ^ k = 2 ^ 32 - ((2 ^ k - 1) + 1) := by omega
  rw [e2, Nat.testBit_and, Nat.testBit_two_pow_sub_succ (show 2 ^ k - 1 < 2 ^ 32 by omega), Nat.testBit_two_pow_sub_one, Nat.testBit_shiftLeft, Nat.testBit_shiftRight]
  by_cases hi : i < 32
  · by_cases hki : k ≤ i
    · have : k + (i - k) = i := by omega
      simp [hi, hki, this]
    · simp [hi, hki, Nat.lt_of_not_le hki]
  · have : a.testBit i = false := Nat.testBit_lt_two_pow (Nat.lt_of_lt_of_le (show a < 2 ^ 32 from ha) (Nat.pow_le_pow_right (by decide) (by omega)))
    have hki : k ≤ i := by omega
    have e3 : k + (i - k) = i := by omega
    simp [hi, hki, this, e3]
def mskN (n : Nat) : Nat := 4294967296 - 2 ^ (32 - n)
theorem mskN_lt (n : Nat) : mskN n < 4294967296 := by
  have := Nat.one_le_two_pow (n := 32 - n)
  unfold mskN
  omega
theorem u32_msk (a n : Nat) (ha : a < 4294967296) : bits .and .u32 (a : Int) (mskN n : Nat) = ((a - a % 2 ^ (32 - n) : Nat) : Int) := by
  rw [u32_and_nat a (mskN n) ha (mskN_lt n), mskN, and_high a _ ha (by omega)]
theorem u32_nmsk (a n : Nat) (ha : a < 4294967296) : bits .andNot .u32 (a : Int) (mskN n : Nat) = ((a % 2 ^ (32 - n) : Nat) : Int) := by
  rw [u32_andNot_nat a (mskN n) ha (mskN_lt n)]
  have hp := pow32_le (32 - n) (by omega)
  have e : 4294967295 - mskN n = 2 ^ (32 - n) - 1 := by unfold mskN; omega
  rw [e, Nat.and_two_pow_sub_one_eq_mod]
end Go.Proofs.YtobofhbklfallaaGreatDoor.VL
end

section
set_option maxRecDepth 100000
namespace Go.Proofs.YtobofhbklfallaaGreatDoor.VL
open Go.Proofs
def c_rivuletlaw8_TopoGroups : ACode :=
 (.seq
 (.region false [
 ⟨some 2, .box (.tmp 0), none⟩,
 ⟨some 4, .mov (.const (.bool false)), none⟩] [0, 4])
 (.seq
 (.region false [
 ⟨some 15, .callm 19 [], none⟩,
 ⟨some 5, .mov (.tmp 15), none⟩] [15])
 (.seq
 (.seq
 (.region false [
 ⟨some 16, .mov (.tmp 5), none⟩,
 ⟨some 17, .un .not (.tmp 16), none⟩] [16])
 (.cond (.tmp 17)
 (.seq
 (.region false [
 ⟨some 4, .mov (.const (.bool false)), none⟩] [1, 2, 5, 17])
 .ret)
 .skip))
 (.seq
 (.seq
 (.region false [
 ⟨some 18, .load true 7 (.tmp 2), none⟩,
 ⟨some 19, .callm 20 [.tmp 18, .const (.int .i64 8)], none⟩,
 ⟨some 20, .un .not (.tmp 19), none⟩] [17, 18, 19])
 (.cond (.tmp 20)
 (.seq
 (.region false [
 ⟨some 21, .mov (.tmp 5), none⟩,
 ⟨some 4, .mov (.tmp 21), none⟩] [1, 2, 5, 20, 21])
 .ret)
 .skip))
 (.seq
 (.region false [
 ⟨some 23, .load true 7 (.tmp 2), none⟩,
 ⟨some 24, .callm 21 [.tmp 23], none⟩,
 ⟨some 22, .mov (.tmp 24), none⟩,
 ⟨some 25, .ext (.tmp 22) 0, none⟩,
 ⟨some 26, .ext (.tmp 22) 1, none⟩,
 ⟨some 6, .mov (.tmp 25), none⟩,
 ⟨some 7, .mov (.tmp 26), none⟩] [20, 22, 23, 24, 25, 26])
 (.seq
 (.seq
 (.region false [
 ⟨some 27, .mov (.tmp 6), none⟩,
 ⟨some 28, .eqp false (.tmp 27), none⟩,
 ⟨some 29, .mov (.tmp 28), none⟩,
 ⟨some 30, .mov (.tmp 7), (some (29, false))⟩,
 ⟨some 31, .eqn true (.tmp 30), (some (29, false))⟩,
 ⟨some 32, .pick (.tmp 29) (.const (.bool true)) (.tmp 31), none⟩] [7, 27, 28, 29, 30, 31])
 (.cond (.tmp 32)
 (.seq
 (.region false [
 ⟨some 4, .mov (.const (.bool false)), none⟩] [1, 2, 5, 6, 32])
 .ret)
 .skip))
 (.seq
 (.region false [
 ⟨some 8, .mov (.const (.bool false)), none⟩] [32])
 (.seq
 (.seq
 (.region false [
 ⟨some 9, .mov (.const (.int .i64 0)), none⟩] [])
 (.block 0
 (.loop
 (.seq
 (.seq
 (.region false [
 ⟨some 33, .mov (.tmp 9), none⟩,
 ⟨some 34, .faddr 5 1 (.tmp 2), none⟩,
 ⟨some 35, .load false 1 (.tmp 34), none⟩,
 ⟨some 36, .lenl (.tmp 35), none⟩,
 ⟨some 37, .bin .lss 3 (.tmp 33) (.tmp 36), none⟩] [33, 34, 35, 36])
 (.cond (.tmp 37)
 .skip
 (.exit 0)))
 (.seq
 (.block 1
 (.region false [
 ⟨some 40, .mov (.tmp 8), none⟩,
 ⟨some 41, .mov (.tmp 40), none⟩,
 ⟨some 42, .faddr 5 1 (.tmp 2), (some (41, false))⟩,
 ⟨some 43, .load false 1 (.tmp 42), (some (41, false))⟩,
 ⟨some 44, .mov (.tmp 9), (some (41, false))⟩,
 ⟨some 45, .iaddr 3 (.tmp 43) (.tmp 44), (some (41, false))⟩,
 ⟨some 46, .faddr 1 2 (.tmp 45), (some (41, false))⟩,
 ⟨some 47, .faddr 1 1 (.tmp 46), (some (41, false))⟩,
 ⟨some 48, .load false 1 (.tmp 47), (some (41, false))⟩,
 ⟨some 49, .mov (.tmp 1), (some (41, false))⟩,
 ⟨some 50, .bin .eql 32 (.tmp 48) (.tmp 49), (some (41, false))⟩,
 ⟨some 51, .pick (.tmp 41) (.const (.bool true)) (.tmp 50), none⟩,
 ⟨some 8, .mov (.tmp 51), none⟩] [37, 40, 41, 42, 43, 44, 45, 46, 47, 48, 49, 50, 51]) [])
 (.region false [
 ⟨some 38, .mov (.tmp 9), none⟩,
 ⟨some 39, .bin .add 3 (.tmp 38) (.const (.int .i64 1)), none⟩,
 ⟨some 9, .mov (.tmp 39), none⟩] [38, 39]))) [] []) [9, 37]))
 (.seq
 (.region false [
 ⟨some 10, .mov (.const (.int .i64 0)), none⟩] [])
 (.seq
 (.seq
 (.region false [
 ⟨some 11, .mov (.const (.int .i64 0)), none⟩] [])
 (.block 2
 (.loop
 (.seq
 (.seq
 (.region false [
 ⟨some 52, .mov (.tmp 11), none⟩,
 ⟨some 53, .faddr 6 1 (.tmp 2), none⟩,
 ⟨some 54, .load false 1 (.tmp 53), none⟩,
 ⟨some 55, .lenl (.tmp 54), none⟩,
 ⟨some 56, .bin .lss 3 (.tmp 52) (.tmp 55), none⟩] [52, 53, 54, 55])
 (.cond (.tmp 56)
 .skip
 (.exit 2)))
 (.seq
 (.block 3
 (.seq
 (.region false [
 ⟨some 59, .mov (.tmp 8), none⟩,
 ⟨some 60, .mov (.tmp 59), none⟩,
 ⟨some 61, .faddr 6 1 (.tmp 2), (some (60, false))⟩,
 ⟨some 62, .load false 1 (.tmp 61), (some (60, false))⟩,
 ⟨some 63, .mov (.tmp 11), (some (60, false))⟩,
 ⟨some 64, .iaddr 4 (.tmp 62) (.tmp 63), (some (60, false))⟩,
 ⟨some 65, .faddr 1 1 (.tmp 64), (some (60, false))⟩,
 ⟨some 66, .load false 1 (.tmp 65), (some (60, false))⟩,
 ⟨some 67, .mov (.tmp 1), (some (60, false))⟩,
 ⟨some 68, .bin .eql 32 (.tmp 66) (.tmp 67), (some (60, false))⟩,
 ⟨some 69, .pick (.tmp 60) (.const (.bool true)) (.tmp 68), none⟩,
 ⟨some 8, .mov (.tmp 69), none⟩] [56, 59, 60, 61, 62, 63, 64, 65, 66, 67, 68, 69])
 (.seq
 (.region false [
 ⟨some 70, .mov (.tmp 6), none⟩,
 ⟨some 71, .faddr 6 1 (.tmp 2), none⟩,
 ⟨some 72, .load false 1 (.tmp 71), none⟩,
 ⟨some 73, .mov (.tmp 11), none⟩,
 ⟨some 74, .iaddr 4 (.tmp 72) (.tmp 73), none⟩,
 ⟨some 75, .faddr 0 1 (.tmp 74), none⟩,
 ⟨some 76, .load false 1 (.tmp 75), none⟩,
 ⟨some 77, .callm 23 [.tmp 70, .tmp 76], none⟩,
 ⟨some 78, .mov (.tmp 11), none⟩,
 ⟨some 79, .callm 22 [.tmp 77, .tmp 78], none⟩,
 ⟨some 80, .un .not (.tmp 79), none⟩] [70, 71, 72, 73, 74, 75, 76, 77, 78, 79])
 (.cond (.tmp 80)
 (.seq
 (.region false [
 ⟨some 4, .mov (.const (.bool false)), none⟩] [1, 2, 5, 6, 8, 10, 11, 80])
 .ret)
 .skip))) [80])
 (.region false [
 ⟨some 57, .mov (.tmp 11), none⟩,
 ⟨some 58, .bin .add 3 (.tmp 57) (.const (.int .i64 1)), none⟩,
 ⟨some 11, .mov (.tmp 58), none⟩] [57, 58]))) [] []) [11, 56]))
 (.seq
 (.seq
 (.region false [
 ⟨some 12, .mov (.const (.int .i64 0)), none⟩] [])
 (.block 4
 (.loop
 (.seq
 (.seq
 (.region false [
 ⟨some 81, .mov (.tmp 12), none⟩,
 ⟨some 82, .faddr 1 1 (.tmp 2), none⟩,
 ⟨some 83, .load false 1 (.tmp 82), none⟩,
 ⟨some 84, .lenl (.tmp 83), none⟩,
 ⟨some 85, .bin .lss 3 (.tmp 81) (.tmp 84), none⟩] [81, 82, 83, 84])
 (.cond (.tmp 85)
 .skip
 (.exit 4)))
 (.seq
 (.block 5
 (.region false [
 ⟨some 88, .mov (.tmp 10), none⟩,
 ⟨some 89, .mov (.tmp 6), none⟩,
 ⟨some 90, .mov (.tmp 12), none⟩,
 ⟨some 91, .callm 23 [.tmp 89, .tmp 90], none⟩,
 ⟨some 92, .lenl (.tmp 91), none⟩,
 ⟨some 93, .bin .add 3 (.tmp 88) (.tmp 92), none⟩,
 ⟨some 10, .mov (.tmp 93), none⟩] [85, 88, 89, 90, 91, 92, 93]) [])
 (.region false [
 ⟨some 86, .mov (.tmp 12), none⟩,
 ⟨some 87, .bin .add 3 (.tmp 86) (.const (.int .i64 1)), none⟩,
 ⟨some 12, .mov (.tmp 87), none⟩] [86, 87]))) [] []) [12, 85]))
 (.seq
 (.region false [
 ⟨some 94, .mov (.tmp 6), none⟩,
 ⟨some 95, .callm 24 [.tmp 94], none⟩,
 ⟨some 13, .mov (.tmp 95), none⟩] [6, 94, 95])
 (.seq
 (.seq
 (.region false [
 ⟨some 14, .mov (.const (.int .i64 1)), none⟩] [])
 (.block 6
 (.loop
 (.seq
 (.seq
 (.region false [
 ⟨some 96, .mov (.tmp 14), none⟩,
 ⟨some 97, .mov (.tmp 13), none⟩,
 ⟨some 98, .lenl (.tmp 97), none⟩,
 ⟨some 99, .bin .lss 3 (.tmp 96) (.tmp 98), none⟩] [96, 97, 98])
 (.cond (.tmp 99)
 .skip
 (.exit 6)))
 (.seq
 (.block 7
 (.seq
 (.region true [
 ⟨some 102, .mov (.tmp 13), none⟩,
 ⟨some 103, .mov (.tmp 14), none⟩,
 ⟨some 104, .bin .sub 3 (.tmp 103) (.const (.int .i64 1)), none⟩,
 ⟨some 105, .iaddr 1 (.tmp 102) (.tmp 104), none⟩,
 ⟨some 106, .load false 1 (.tmp 105), none⟩,
 ⟨some 107, .mov (.tmp 13), none⟩,
 ⟨some 108, .mov (.tmp 14), none⟩,
 ⟨some 109, .iaddr 1 (.tmp 107) (.tmp 108), none⟩,
 ⟨some 110, .load false 1 (.tmp 109), none⟩,
 ⟨some 111, .bin .geq 32 (.tmp 106) (.tmp 110), none⟩] [99, 102, 103, 104, 105, 106, 107, 108, 109, 110])
 (.cond (.tmp 111)
 (.seq
 (.region false [
 ⟨some 4, .mov (.const (.bool false)), none⟩] [1, 2, 5, 8, 10, 13, 14, 111])
 .ret)
 .skip)) [111])
 (.region false [
 ⟨some 100, .mov (.tmp 14), none⟩,
 ⟨some 101, .bin .add 3 (.tmp 100) (.const (.int .i64 1)), none⟩,
 ⟨some 14, .mov (.tmp 101), none⟩] [100, 101]))) [] []) [14, 99]))
 (.seq
 (.region false [
 ⟨some 112, .mov (.tmp 5), none⟩,
 ⟨some 113, .mov (.tmp 112), none⟩,
 ⟨some 114, .mov (.tmp 13), (some (113, true))⟩,
 ⟨some 115, .mov (.tmp 1), (some (113, true))⟩,
 ⟨some 116, .callm 25 [.tmp 114, .tmp 115], (some (113, true))⟩,
 ⟨some 117, .mov (.tmp 8), (some (113, true))⟩,
 ⟨some 118, .eqb false 4 (.tmp 116) (.tmp 117), (some (113, true))⟩,
 ⟨some 119, .pick (.tmp 113) (.tmp 118) (.const (.bool false)), none⟩,
 ⟨some 120, .mov (.tmp 119), none⟩,
 ⟨some 121, .mov (.tmp 10), (some (120, true))⟩,
 ⟨some 122, .faddr 6 1 (.tmp 2), (some (120, true))⟩,
 ⟨some 123, .load false 1 (.tmp 122), (some (120, true))⟩,
 ⟨some 124, .lenl (.tmp 123), (some (120, true))⟩,
 ⟨some 125, .bin .eql 3 (.tmp 121) (.tmp 124), (some (120, true))⟩,
 ⟨some 126, .pick (.tmp 120) (.tmp 125) (.const (.bool false)), none⟩,
 ⟨some 4, .mov (.tmp 126), none⟩] [1, 2, 5, 8, 10, 13, 112, 113, 114, 115, 116, 117, 118, 119, 120, 121, 122, 123, 124, 125, 126])
 .ret))))))))))))))
abbrev v_rivuletlaw8_TopoGroups : List RV := [.tmp 4]
abbrev f_rivuletlaw8_TopoGroups : FuncId := 3
theorem k_rivuletlaw8_TopoGroups : closedOf Tryz.prog Tryz.f3 = (false, some true, some v_rivuletlaw8_TopoGroups, some c_rivuletlaw8_TopoGroups.plain, 127) := by kernel_rfl
theorem ac_rivuletlaw8_TopoGroups {args : List AV} {r : AV} (h : aw Tryz.prog c_rivuletlaw8_TopoGroups (env0 args) (endQ v_rivuletlaw8_TopoGroups r)) (hargs : args.length ≤ 127 := by decide) (hok : resOK r = true := by rfl) : AC Tryz.prog f_rivuletlaw8_TopoGroups args r :=
  AC_mk (by kernel_rfl) Tryz.func3 k_rivuletlaw8_TopoGroups hargs hok (by decide) h
def c_rivuletlaw8_first : ACode :=
 (.seq
 (.region false [
 ⟨some 0, .mov (.const (.bool false)), none⟩] [0])
 (.seq
 (.region false [
 ⟨some 4, .build [.sl .nil 0 [], .sl .nil 0 [], .sl .nil 0 [], .sl .nil 0 [], .sl .nil 0 [], .sl .nil 0 [], .sl .nil 0 []] [], none⟩,
 ⟨some 5, .callm 21 [.tmp 4], none⟩,
 ⟨some 3, .mov (.tmp 5), none⟩,
 ⟨some 6, .ext (.tmp 3) 0, none⟩,
 ⟨some 7, .ext (.tmp 3) 1, none⟩,
 ⟨some 1, .mov (.tmp 6), none⟩,
 ⟨some 2, .mov (.tmp 7), none⟩] [3, 4, 5, 6, 7])
 (.seq
 (.region false [
 ⟨some 8, .mov (.tmp 1), none⟩,
 ⟨some 9, .eqp true (.tmp 8), none⟩,
 ⟨some 10, .mov (.tmp 9), none⟩,
 ⟨some 11, .mov (.tmp 2), (some (10, true))⟩,
 ⟨some 12, .eqn false (.tmp 11), (some (10, true))⟩,
 ⟨some 13, .pick (.tmp 10) (.tmp 12) (.const (.bool false)), none⟩,
 ⟨some 14, .mov (.tmp 13), none⟩,
 ⟨some 15, .mov (.tmp 1), (some (14, true))⟩,
 ⟨some 16, .callm 24 [.tmp 15], (some (14, true))⟩,
 ⟨some 17, .lenl (.tmp 16), (some (14, true))⟩,
 ⟨some 18, .bin .eql 3 (.tmp 17) (.const (.int .i64 0)), (some (14, true))⟩,
 ⟨some 19, .pick (.tmp 14) (.tmp 18) (.const (.bool false)), none⟩,
 ⟨some 0, .mov (.tmp 19), none⟩] [1, 2, 8, 9, 10, 11, 12, 13, 14, 15, 16, 17, 18, 19])
 .ret)))
abbrev v_rivuletlaw8_first : List RV := [.tmp 0]
abbrev f_rivuletlaw8_first : FuncId := 19
theorem k_rivuletlaw8_first : closedOf Tryz.prog Tryz.f19 = (false, some true, some v_rivuletlaw8_first, some c_rivuletlaw8_first.plain, 20) := by kernel_rfl
theorem ac_rivuletlaw8_first {args : List AV} {r : AV} (h : aw Tryz.prog c_rivuletlaw8_first (env0 args) (endQ v_rivuletlaw8_first r)) (hargs : args.length ≤ 20 := by decide) (hok : resOK r = true := by rfl) : AC Tryz.prog f_rivuletlaw8_first args r :=
  AC_mk (by kernel_rfl) Tryz.func19 k_rivuletlaw8_first hargs hok (by decide) h
def c_rivuletnet_Light : ACode :=
 (.seq
 (.region false [
 ⟨some 2, .box (.tmp 0), none⟩,
 ⟨some 4, .mov (.const (.bool false)), none⟩] [0, 4])
 (.seq
 (.region false [
 ⟨some 5, .faddr 0 1 (.tmp 2), none⟩,
 ⟨some 6, .load false 1 (.tmp 5), none⟩,
 ⟨some 7, .lenl (.tmp 6), none⟩,
 ⟨some 8, .mov (.tmp 1), none⟩,
 ⟨some 9, .bin .leq 3 (.tmp 7) (.tmp 8), none⟩,
 ⟨some 10, .mov (.tmp 9), none⟩,
 ⟨some 11, .faddr 1 1 (.tmp 2), (some (10, true))⟩,
 ⟨some 12, .load false 1 (.tmp 11), (some (10, true))⟩,
 ⟨some 13, .lenl (.tmp 12), (some (10, true))⟩,
 ⟨some 14, .bin .leq 3 (.tmp 13) (.const (.int .i64 12)), (some (10, true))⟩,
 ⟨some 15, .pick (.tmp 10) (.tmp 14) (.const (.bool false)), none⟩,
 ⟨some 16, .mov (.tmp 15), none⟩,
 ⟨some 17, .faddr 2 1 (.tmp 2), (some (16, true))⟩,
 ⟨some 18, .load false 1 (.tmp 17), (some (16, true))⟩,
 ⟨some 19, .lenl (.tmp 18), (some (16, true))⟩,
 ⟨some 20, .bin .leq 3 (.tmp 19) (.const (.int .i64 24)), (some (16, true))⟩,
 ⟨some 21, .pick (.tmp 16) (.tmp 20) (.const (.bool false)), none⟩,
 ⟨some 22, .mov (.tmp 21), none⟩,
 ⟨some 23, .faddr 3 1 (.tmp 2), (some (22, true))⟩,
 ⟨some 24, .load false 1 (.tmp 23), (some (22, true))⟩,
 ⟨some 25, .lenl (.tmp 24), (some (22, true))⟩,
 ⟨some 26, .bin .leq 3 (.tmp 25) (.const (.int .i64 30)), (some (22, true))⟩,
 ⟨some 27, .pick (.tmp 22) (.tmp 26) (.const (.bool false)), none⟩,
 ⟨some 28, .mov (.tmp 27), none⟩,
 ⟨some 29, .faddr 4 1 (.tmp 2), (some (28, true))⟩,
 ⟨some 30, .load false 1 (.tmp 29), (some (28, true))⟩,
 ⟨some 31, .lenl (.tmp 30), (some (28, true))⟩,
 ⟨some 32, .bin .leq 3 (.tmp 31) (.const (.int .i64 4)), (some (28, true))⟩,
 ⟨some 33, .pick (.tmp 28) (.tmp 32) (.const (.bool false)), none⟩,
 ⟨some 34, .mov (.tmp 33), none⟩,
 ⟨some 35, .faddr 5 1 (.tmp 2), (some (34, true))⟩,
 ⟨some 36, .load false 1 (.tmp 35), (some (34, true))⟩,
 ⟨some 37, .lenl (.tmp 36), (some (34, true))⟩,
 ⟨some 38, .bin .leq 3 (.tmp 37) (.const (.int .i64 5)), (some (34, true))⟩,
 ⟨some 39, .pick (.tmp 34) (.tmp 38) (.const (.bool false)), none⟩,
 ⟨some 40, .mov (.tmp 39), none⟩,
 ⟨some 41, .faddr 6 1 (.tmp 2), (some (40, true))⟩,
 ⟨some 42, .load false 1 (.tmp 41), (some (40, true))⟩,
 ⟨some 43, .lenl (.tmp 42), (some (40, true))⟩,
 ⟨some 44, .bin .leq 3 (.tmp 43) (.const (.int .i64 10)), (some (40, true))⟩,
 ⟨some 45, .pick (.tmp 40) (.tmp 44) (.const (.bool false)), none⟩,
 ⟨some 46, .mov (.tmp 45), none⟩,
 ⟨some 47, .load true 7 (.tmp 2), (some (46, true))⟩,
 ⟨some 48, .callm 36 [.tmp 47], (some (46, true))⟩,
 ⟨some 49, .bin .eql 3 (.tmp 48) (.const (.int .i64 0)), (some (46, true))⟩,
 ⟨some 50, .pick (.tmp 46) (.tmp 49) (.const (.bool false)), none⟩,
 ⟨some 4, .mov (.tmp 50), none⟩] [1, 2, 5, 6, 7, 8, 9, 10, 11, 12, 13, 14, 15, 16, 17, 18, 19, 20, 21, 22, 23, 24, 25, 26, 27, 28, 29, 30, 31, 32, 33, 34, 35, 36, 37, 38, 39, 40, 41, 42, 43, 44, 45, 46, 47, 48, 49, 50])
 .ret))
abbrev v_rivuletnet_Light : List RV := [.tmp 4]
abbrev f_rivuletnet_Light : FuncId := 20
theorem k_rivuletnet_Light : closedOf Tryz.prog Tryz.f20 = (false, some true, some v_rivuletnet_Light, some c_rivuletnet_Light.plain, 51) := by kernel_rfl
theorem ac_rivuletnet_Light {args : List AV} {r : AV} (h : aw Tryz.prog c_rivuletnet_Light (env0 args) (endQ v_rivuletnet_Light r)) (hargs : args.length ≤ 51 := by decide) (hok : resOK r = true := by rfl) : AC Tryz.prog f_rivuletnet_Light args r :=
  AC_mk (by kernel_rfl) Tryz.func20 k_rivuletnet_Light hargs hok (by decide) h
def c_topo_New : ACode :=
 (.seq
 (.region false [
 ⟨some 1, .box (.tmp 0), none⟩,
 ⟨some 2, .mov (.const (.pointer none)), none⟩,
 ⟨some 3, .mov (.const (.nilIface)), none⟩] [0, 2, 3])
 (.seq
 (.seq
 (.region false [
 ⟨some 12, .load true 7 (.tmp 1), none⟩,
 ⟨some 13, .callm 83 [.tmp 12], none⟩,
 ⟨some 4, .mov (.tmp 13), none⟩] [12, 13])
 (.seq
 (.region false [
 ⟨some 14, .mov (.tmp 4), none⟩,
 ⟨some 15, .eqn true (.tmp 14), none⟩] [14])
 (.cond (.tmp 15)
 (.seq
 (.region false [
 ⟨some 16, .mov (.tmp 4), none⟩,
 ⟨some 2, .mov (.const (.pointer none)), none⟩,
 ⟨some 3, .mov (.tmp 16), none⟩] [1, 4, 15, 16])
 .ret)
 .skip)))
 (.seq
 (.region true [
 ⟨some 17, .load true 7 (.tmp 1), none⟩,
 ⟨some 18, .call 84 [.tmp 17], none⟩,
 ⟨some 19, .faddr 1 1 (.tmp 1), none⟩,
 ⟨some 20, .load false 1 (.tmp 19), none⟩,
 ⟨some 21, .lenl (.tmp 20), none⟩,
 ⟨some 22, .mkf false 1 24 [.sl .nil 0 []] (.tmp 21) (.tmp 21), none⟩,
 ⟨some 23, .faddr 0 1 (.tmp 1), none⟩,
 ⟨some 24, .load false 1 (.tmp 23), none⟩,
 ⟨some 25, .lenl (.tmp 24), none⟩,
 ⟨some 26, .mkf false 1 24 [.sl .nil 0 []] (.tmp 25) (.tmp 25), none⟩,
 ⟨some 27, .mkm, none⟩,
 ⟨some 28, .faddr 1 1 (.tmp 1), none⟩,
 ⟨some 29, .load false 1 (.tmp 28), none⟩,
 ⟨some 30, .lenl (.tmp 29), none⟩,
 ⟨some 31, .mkf false 1 24 [.sl .nil 0 []] (.tmp 30) (.tmp 30), none⟩,
 ⟨some 32, .build [.sl .nil 0 [], .sl .nil 0 [], .sl .nil 0 [], .sl .nil 0 [], .sl .nil 0 [], .sl .nil 0 [], .sl .nil 0 [], .sl .nil 0 [], .sl .nil 0 [], .lit (.map none), .sl .nil 0 [], .sl .nil 0 []] [(0, 7, .tmp 18), (7, 1, .tmp 22), (8, 1, .tmp 26), (9, 1, .tmp 27), (10, 1, .tmp 31)], none⟩,
 ⟨some 33, .box (.tmp 32), none⟩,
 ⟨some 5, .mov (.tmp 33), none⟩] [4, 15, 17, 18, 19, 20, 21, 22, 23, 24, 25, 26, 27, 28, 29, 30, 31, 32, 33])
 (.seq
 (.seq
 (.shift
 (.region false [
 ⟨some 34, .faddr 2 1 (.tmp 1), none⟩,
 ⟨some 35, .load false 1 (.tmp 34), none⟩,
 ⟨some 36, .lenl (.tmp 35), none⟩,
 ⟨some 37, .mov (.const (.int .i64 0)), none⟩] [34]))
 (.block 0
 (.loop
 (.seq
 (.region false [
 ⟨some 38, .bin .lss 3 (.tmp 37) (.tmp 36), none⟩] [])
 (.seq
 (.cond (.tmp 38)
 .skip
 (.exit 0))
 (.seq
 (.block 1
 (.seq
 (.region false [
 ⟨some 39, .mov (.tmp 37), none⟩,
 ⟨some 40, .iaddr 3 (.tmp 35) (.tmp 37), none⟩,
 ⟨some 41, .load true 3 (.tmp 40), none⟩,
 ⟨some 7, .alloc [.lit (.int .i64 0), .lit (.int .i64 0), .lit (.int .u32 0)], none⟩,
 ⟨some 6, .mov (.tmp 39), none⟩,
 ⟨none, .store 3 (.tmp 7) (.tmp 41), none⟩] [38, 39, 40, 41])
 (.seq
 (.region true [
 ⟨some 42, .mov (.tmp 5), none⟩,
 ⟨some 43, .nilchk (.tmp 42), none⟩,
 ⟨some 44, .faddr 7 1 (.tmp 43), none⟩,
 ⟨some 45, .loadc false 1 (.tmp 44), none⟩,
 ⟨some 46, .faddr 1 1 (.tmp 7), none⟩,
 ⟨some 47, .loadc false 1 (.tmp 46), none⟩,
 ⟨some 48, .mov (.tmp 5), none⟩,
 ⟨some 49, .nilchk (.tmp 48), none⟩,
 ⟨some 50, .faddr 7 1 (.tmp 49), none⟩,
 ⟨some 51, .loadc false 1 (.tmp 50), none⟩,
 ⟨some 52, .faddr 1 1 (.tmp 7), none⟩,
 ⟨some 53, .loadc false 1 (.tmp 52), none⟩,
 ⟨some 54, .iaddr 1 (.tmp 51) (.tmp 53), none⟩,
 ⟨some 55, .loadc false 1 (.tmp 54), none⟩,
 ⟨some 56, .mov (.tmp 6), none⟩,
 ⟨some 57, .bslice 1 1 [.tmp 56], none⟩,
 ⟨some 58, .app 1 8 [] (.tmp 55) (.tmp 57), none⟩,
 ⟨some 59, .iaddr 1 (.tmp 45) (.tmp 47), none⟩,
 ⟨none, .store 1 (.tmp 59) (.tmp 58), none⟩] [42, 43, 44, 45, 46, 47, 48, 49, 50, 51, 52, 53, 54, 55, 56, 57, 58, 59])
 (.seq
 (.region true [
 ⟨some 60, .mov (.tmp 5), none⟩,
 ⟨some 61, .nilchk (.tmp 60), none⟩,
 ⟨some 62, .faddr 8 1 (.tmp 61), none⟩,
 ⟨some 63, .loadc false 1 (.tmp 62), none⟩,
 ⟨some 64, .faddr 0 1 (.tmp 7), none⟩,
 ⟨some 65, .loadc false 1 (.tmp 64), none⟩,
 ⟨some 66, .mov (.tmp 5), none⟩,
 ⟨some 67, .nilchk (.tmp 66), none⟩,
 ⟨some 68, .faddr 8 1 (.tmp 67), none⟩,
 ⟨some 69, .loadc false 1 (.tmp 68), none⟩,
 ⟨some 70, .faddr 0 1 (.tmp 7), none⟩,
 ⟨some 71, .loadc false 1 (.tmp 70), none⟩,
 ⟨some 72, .iaddr 1 (.tmp 69) (.tmp 71), none⟩,
 ⟨some 73, .loadc false 1 (.tmp 72), none⟩,
 ⟨some 74, .mov (.tmp 6), none⟩,
 ⟨some 75, .bslice 1 1 [.tmp 74], none⟩,
 ⟨some 76, .app 1 8 [] (.tmp 73) (.tmp 75), none⟩,
 ⟨some 77, .iaddr 1 (.tmp 63) (.tmp 65), none⟩,
 ⟨none, .store 1 (.tmp 77) (.tmp 76), none⟩] [60, 61, 62, 63, 64, 65, 66, 67, 68, 69, 70, 71, 72, 73, 74, 75, 76, 77])
 (.region true [
 ⟨some 78, .mov (.tmp 5), none⟩,
 ⟨some 79, .nilchk (.tmp 78), none⟩,
 ⟨some 80, .faddr 9 1 (.tmp 79), none⟩,
 ⟨some 81, .load false 1 (.tmp 80), none⟩,
 ⟨some 82, .faddr 2 1 (.tmp 7), none⟩,
 ⟨some 83, .load false 1 (.tmp 82), none⟩,
 ⟨some 84, .mov (.tmp 6), none⟩,
 ⟨none, .mup false (.tmp 81) (.tmp 83) (.tmp 84), none⟩] [6, 7, 78, 79, 80, 81, 82, 83, 84])))) [])
 (.shift
 (.region false [
 ⟨some 85, .bin .add 3 (.tmp 37) (.const (.int .i64 1)), none⟩,
 ⟨some 37, .mov (.tmp 85), none⟩] [85]))))) [] [7]) [35, 36, 37, 38]))
 (.seq
 (.seq
 (.shift
 (.region false [
 ⟨some 86, .faddr 6 1 (.tmp 1), none⟩,
 ⟨some 87, .load false 1 (.tmp 86), none⟩,
 ⟨some 88, .lenl (.tmp 87), none⟩,
 ⟨some 89, .mov (.const (.int .i64 0)), none⟩] [86]))
 (.block 2
 (.loop
 (.seq
 (.region false [
 ⟨some 90, .bin .lss 3 (.tmp 89) (.tmp 88), none⟩] [])
 (.seq
 (.cond (.tmp 90)
 .skip
 (.exit 2))
 (.seq
 (.block 3
 (.seq
 (.region false [
 ⟨some 91, .mov (.tmp 89), none⟩,
 ⟨some 92, .iaddr 4 (.tmp 87) (.tmp 89), none⟩,
 ⟨some 93, .load true 4 (.tmp 92), none⟩,
 ⟨some 9, .alloc [.lit (.int .i64 0), .lit (.int .u32 0), .lit (.bool false), .sl .nil 0 []], none⟩,
 ⟨some 8, .mov (.tmp 91), none⟩,
 ⟨none, .store 4 (.tmp 9) (.tmp 93), none⟩] [90, 91, 92, 93])
 (.seq
 (.region true [
 ⟨some 94, .mov (.tmp 5), none⟩,
 ⟨some 95, .nilchk (.tmp 94), none⟩,
 ⟨some 96, .faddr 10 1 (.tmp 95), none⟩,
 ⟨some 97, .loadc false 1 (.tmp 96), none⟩,
 ⟨some 98, .faddr 0 1 (.tmp 9), none⟩,
 ⟨some 99, .loadc false 1 (.tmp 98), none⟩,
 ⟨some 100, .mov (.tmp 5), none⟩,
 ⟨some 101, .nilchk (.tmp 100), none⟩,
 ⟨some 102, .faddr 10 1 (.tmp 101), none⟩,
 ⟨some 103, .loadc false 1 (.tmp 102), none⟩,
 ⟨some 104, .faddr 0 1 (.tmp 9), none⟩,
 ⟨some 105, .loadc false 1 (.tmp 104), none⟩,
 ⟨some 106, .iaddr 1 (.tmp 103) (.tmp 105), none⟩,
 ⟨some 107, .loadc false 1 (.tmp 106), none⟩,
 ⟨some 108, .mov (.tmp 8), none⟩,
 ⟨some 109, .bslice 1 1 [.tmp 108], none⟩,
 ⟨some 110, .app 1 8 [] (.tmp 107) (.tmp 109), none⟩,
 ⟨some 111, .iaddr 1 (.tmp 97) (.tmp 99), none⟩,
 ⟨none, .store 1 (.tmp 111) (.tmp 110), none⟩] [8, 94, 95, 96, 97, 98, 99, 100, 101, 102, 103, 104, 105, 106, 107, 108, 109, 110, 111])
 (.region true [
 ⟨some 112, .mov (.tmp 5), none⟩,
 ⟨some 113, .mov (.tmp 5), none⟩,
 ⟨some 114, .nilchk (.tmp 113), none⟩,
 ⟨some 115, .faddr 11 1 (.tmp 114), none⟩,
 ⟨some 116, .loadc false 1 (.tmp 115), none⟩,
 ⟨some 117, .faddr 1 1 (.tmp 9), none⟩,
 ⟨some 118, .loadc false 1 (.tmp 117), none⟩,
 ⟨some 119, .bslice 1 1 [.tmp 118], none⟩,
 ⟨some 120, .app 1 4 [] (.tmp 116) (.tmp 119), none⟩,
 ⟨some 121, .nilchk (.tmp 112), none⟩,
 ⟨some 122, .faddr 11 1 (.tmp 121), none⟩,
 ⟨none, .store 1 (.tmp 122) (.tmp 120), none⟩] [9, 112, 113, 114, 115, 116, 117, 118, 119, 120, 121, 122]))) [])
 (.shift
 (.region false [
 ⟨some 123, .bin .add 3 (.tmp 89) (.const (.int .i64 1)), none⟩,
 ⟨some 89, .mov (.tmp 123), none⟩] [123]))))) [] [9]) [87, 88, 89, 90]))
 (.seq
 (.seq
 (.shift
 (.region false [
 ⟨some 124, .faddr 5 1 (.tmp 1), none⟩,
 ⟨some 125, .load false 1 (.tmp 124), none⟩,
 ⟨some 126, .lenl (.tmp 125), none⟩,
 ⟨some 127, .mov (.const (.int .i64 0)), none⟩] [1, 124]))
 (.block 4
 (.loop
 (.seq
 (.region false [
 ⟨some 128, .bin .lss 3 (.tmp 127) (.tmp 126), none⟩] [])
 (.seq
 (.cond (.tmp 128)
 .skip
 (.exit 4))
 (.seq
 (.block 5
 (.seq
 (.region false [
 ⟨some 129, .iaddr 3 (.tmp 125) (.tmp 127), none⟩,
 ⟨some 130, .load true 3 (.tmp 129), none⟩,
 ⟨some 11, .alloc [.lit (.int .i64 0), .lit (.int .u32 0), .lit (.int .u32 0)], none⟩,
 ⟨none, .store 3 (.tmp 11) (.tmp 130), none⟩] [128, 129, 130])
 (.region true [
 ⟨some 131, .mov (.tmp 5), none⟩,
 ⟨some 132, .mov (.tmp 5), none⟩,
 ⟨some 133, .nilchk (.tmp 132), none⟩,
 ⟨some 134, .faddr 11 1 (.tmp 133), none⟩,
 ⟨some 135, .loadc false 1 (.tmp 134), none⟩,
 ⟨some 136, .faddr 1 2 (.tmp 11), none⟩,
 ⟨some 137, .faddr 1 1 (.tmp 136), none⟩,
 ⟨some 138, .loadc false 1 (.tmp 137), none⟩,
 ⟨some 139, .bslice 1 1 [.tmp 138], none⟩,
 ⟨some 140, .app 1 4 [] (.tmp 135) (.tmp 139), none⟩,
 ⟨some 141, .nilchk (.tmp 131), none⟩,
 ⟨some 142, .faddr 11 1 (.tmp 141), none⟩,
 ⟨none, .store 1 (.tmp 142) (.tmp 140), none⟩] [11, 131, 132, 133, 134, 135, 136, 137, 138, 139, 140, 141, 142])) [])
 (.region false [
 ⟨some 143, .bin .add 3 (.tmp 127) (.const (.int .i64 1)), none⟩,
 ⟨some 127, .mov (.tmp 143), none⟩] [143])))) [] [11]) [125, 126, 127, 128]))
 (.seq
 (.shift
 (.region false [
 ⟨some 144, .mov (.tmp 5), none⟩,
 ⟨some 145, .nilchk (.tmp 144), none⟩,
 ⟨some 146, .faddr 11 1 (.tmp 145), none⟩,
 ⟨some 147, .load false 1 (.tmp 146), none⟩,
 ⟨some 148, .callm 85 [.tmp 147], none⟩] [144, 145, 146, 147, 148]))
 (.seq
 (.region false [
 ⟨some 149, .mov (.tmp 5), none⟩,
 ⟨some 150, .mov (.tmp 5), none⟩,
 ⟨some 151, .nilchk (.tmp 150), none⟩,
 ⟨some 152, .faddr 11 1 (.tmp 151), none⟩,
 ⟨some 153, .load false 1 (.tmp 152), none⟩,
 ⟨some 154, .callm 86 [.tmp 153], none⟩,
 ⟨some 155, .nilchk (.tmp 149), none⟩,
 ⟨some 156, .faddr 11 1 (.tmp 155), none⟩,
 ⟨none, .store 1 (.tmp 156) (.tmp 154), none⟩] [149, 150, 151, 152, 153, 154, 155, 156])
 (.seq
 (.region false [
 ⟨some 157, .mov (.tmp 5), none⟩,
 ⟨some 2, .mov (.tmp 157), none⟩,
 ⟨some 3, .mov (.const (.nilIface)), none⟩] [5, 157])
 .ret)))))))))
abbrev v_topo_New : List RV := [.tmp 2, .tmp 3]
abbrev f_topo_New : FuncId := 21
theorem k_topo_New : closedOf Tryz.prog Tryz.f21 = (false, some true, some v_topo_New, some c_topo_New.plain, 158) := by kernel_rfl
theorem ac_topo_New {args : List AV} {r : AV} (h : aw Tryz.prog c_topo_New (env0 args) (endQ v_topo_New r)) (hargs : args.length ≤ 158 := by decide) (hok : resOK r = true := by rfl) : AC Tryz.prog f_topo_New args r :=
  AC_mk (by kernel_rfl) Tryz.func21 k_topo_New hargs hok (by decide) h
def c_rivuletref_Among : ACode :=
 (.seq
 (.region false [
 ⟨some 4, .mov (.const (.bool false)), none⟩] [4])
 (.seq
 (.seq
 (.region false [
 ⟨some 5, .mov (.const (.int .i64 0)), none⟩] [])
 (.block 0
 (.loop
 (.seq
 (.seq
 (.region false [
 ⟨some 6, .mov (.tmp 5), none⟩,
 ⟨some 7, .mov (.tmp 0), none⟩,
 ⟨some 8, .lenl (.tmp 7), none⟩,
 ⟨some 9, .bin .lss 3 (.tmp 6) (.tmp 8), none⟩] [6, 7, 8])
 (.cond (.tmp 9)
 .skip
 (.exit 0)))
 (.seq
 (.block 1
 (.seq
 (.region false [
 ⟨some 12, .mov (.tmp 0), none⟩,
 ⟨some 13, .mov (.tmp 5), none⟩,
 ⟨some 14, .iaddr 1 (.tmp 12) (.tmp 13), none⟩,
 ⟨some 15, .load false 1 (.tmp 14), none⟩,
 ⟨some 16, .mov (.tmp 1), none⟩,
 ⟨some 17, .bin .eql 3 (.tmp 15) (.tmp 16), none⟩] [9, 12, 13, 14, 15, 16])
 (.cond (.tmp 17)
 (.seq
 (.region false [
 ⟨some 4, .mov (.const (.bool true)), none⟩] [0, 1, 5, 17])
 .ret)
 .skip)) [17])
 (.region false [
 ⟨some 10, .mov (.tmp 5), none⟩,
 ⟨some 11, .bin .add 3 (.tmp 10) (.const (.int .i64 1)), none⟩,
 ⟨some 5, .mov (.tmp 11), none⟩] [10, 11]))) [] []) [0, 1, 5, 9]))
 (.seq
 (.region false [
 ⟨some 4, .mov (.const (.bool false)), none⟩] [])
 .ret)))
abbrev v_rivuletref_Among : List RV := [.tmp 4]
abbrev f_rivuletref_Among : FuncId := 22
theorem k_rivuletref_Among : closedOf Tryz.prog Tryz.f22 = (false, some true, some v_rivuletref_Among, some c_rivuletref_Among.plain, 18) := by kernel_rfl
theorem ac_rivuletref_Among {args : List AV} {r : AV} (h : aw Tryz.prog c_rivuletref_Among (env0 args) (endQ v_rivuletref_Among r)) (hargs : args.length ≤ 18 := by decide) (hok : resOK r = true := by rfl) : AC Tryz.prog f_rivuletref_Among args r :=
  AC_mk (by kernel_rfl) Tryz.func22 k_rivuletref_Among hargs hok (by decide) h
def c_topo_Topo_Members : ACode :=
 (.seq
 (.region false [
 ⟨some 4, .mov (.const (.slice none 0 0)), none⟩] [4])
 (.seq
 (.region false [
 ⟨some 5, .mov (.tmp 0), none⟩,
 ⟨some 6, .nilchk (.tmp 5), none⟩,
 ⟨some 7, .faddr 10 1 (.tmp 6), none⟩,
 ⟨some 8, .load false 1 (.tmp 7), none⟩,
 ⟨some 9, .mov (.tmp 1), none⟩,
 ⟨some 10, .callm 87 [.tmp 8, .tmp 9], none⟩,
 ⟨some 4, .mov (.tmp 10), none⟩] [0, 1, 5, 6, 7, 8, 9, 10])
 .ret))
abbrev v_topo_Topo_Members : List RV := [.tmp 4]
abbrev f_topo_Topo_Members : FuncId := 23
theorem k_topo_Topo_Members : closedOf Tryz.prog Tryz.f23 = (false, some true, some v_topo_Topo_Members, some c_topo_Topo_Members.plain, 11) := by kernel_rfl
theorem ac_topo_Topo_Members {args : List AV} {r : AV} (h : aw Tryz.prog c_topo_Topo_Members (env0 args) (endQ v_topo_Topo_Members r)) (hargs : args.length ≤ 11 := by decide) (hok : resOK r = true := by rfl) : AC Tryz.prog f_topo_Topo_Members args r :=
  AC_mk (by kernel_rfl) Tryz.func23 k_topo_Topo_Members hargs hok (by decide) h
def c_topo_Topo_Groups : ACode :=
 (.seq
 (.region false [
 ⟨some 2, .mov (.const (.slice none 0 0)), none⟩] [2])
 (.seq
 (.region false [
 ⟨some 3, .mov (.tmp 0), none⟩,
 ⟨some 4, .nilchk (.tmp 3), none⟩,
 ⟨some 5, .faddr 11 1 (.tmp 4), none⟩,
 ⟨some 6, .load false 1 (.tmp 5), none⟩,
 ⟨some 7, .callm 88 [.tmp 6], none⟩,
 ⟨some 2, .mov (.tmp 7), none⟩] [0, 3, 4, 5, 6, 7])
 .ret))
abbrev v_topo_Topo_Groups : List RV := [.tmp 2]
abbrev f_topo_Topo_Groups : FuncId := 24
theorem k_topo_Topo_Groups : closedOf Tryz.prog Tryz.f24 = (false, some true, some v_topo_Topo_Groups, some c_topo_Topo_Groups.plain, 8) := by kernel_rfl
theorem ac_topo_Topo_Groups {args : List AV} {r : AV} (h : aw Tryz.prog c_topo_Topo_Groups (env0 args) (endQ v_topo_Topo_Groups r)) (hargs : args.length ≤ 8 := by decide) (hok : resOK r = true := by rfl) : AC Tryz.prog f_topo_Topo_Groups args r :=
  AC_mk (by kernel_rfl) Tryz.func24 k_topo_Topo_Groups hargs hok (by decide) h
def c_rivuletref_Has : ACode :=
 (.seq
 (.region false [
 ⟨some 4, .mov (.const (.bool false)), none⟩] [4])
 (.seq
 (.seq
 (.region false [
 ⟨some 5, .mov (.const (.int .i64 0)), none⟩] [])
 (.block 0
 (.loop
 (.seq
 (.seq
 (.region false [
 ⟨some 6, .mov (.tmp 5), none⟩,
 ⟨some 7, .mov (.tmp 0), none⟩,
 ⟨some 8, .lenl (.tmp 7), none⟩,
 ⟨some 9, .bin .lss 3 (.tmp 6) (.tmp 8), none⟩] [6, 7, 8])
 (.cond (.tmp 9)
 .skip
 (.exit 0)))
 (.seq
 (.block 1
 (.seq
 (.region false [
 ⟨some 12, .mov (.tmp 0), none⟩,
 ⟨some 13, .mov (.tmp 5), none⟩,
 ⟨some 14, .iaddr 1 (.tmp 12) (.tmp 13), none⟩,
 ⟨some 15, .load false 1 (.tmp 14), none⟩,
 ⟨some 16, .mov (.tmp 1), none⟩,
 ⟨some 17, .bin .eql 32 (.tmp 15) (.tmp 16), none⟩] [9, 12, 13, 14, 15, 16])
 (.cond (.tmp 17)
 (.seq
 (.region false [
 ⟨some 4, .mov (.const (.bool true)), none⟩] [0, 1, 5, 17])
 .ret)
 .skip)) [17])
 (.region false [
 ⟨some 10, .mov (.tmp 5), none⟩,
 ⟨some 11, .bin .add 3 (.tmp 10) (.const (.int .i64 1)), none⟩,
 ⟨some 5, .mov (.tmp 11), none⟩] [10, 11]))) [] []) [0, 1, 5, 9]))
 (.seq
 (.region false [
 ⟨some 4, .mov (.const (.bool false)), none⟩] [])
 .ret)))
abbrev v_rivuletref_Has : List RV := [.tmp 4]
abbrev f_rivuletref_Has : FuncId := 25
theorem k_rivuletref_Has : closedOf Tryz.prog Tryz.f25 = (false, some true, some v_rivuletref_Has, some c_rivuletref_Has.plain, 18) := by kernel_rfl
theorem ac_rivuletref_Has {args : List AV} {r : AV} (h : aw Tryz.prog c_rivuletref_Has (env0 args) (endQ v_rivuletref_Has r)) (hargs : args.length ≤ 18 := by decide) (hok : resOK r = true := by rfl) : AC Tryz.prog f_rivuletref_Has args r :=
  AC_mk (by kernel_rfl) Tryz.func25 k_rivuletref_Has hargs hok (by decide) h
def c_rivuletref5_Valid : ACode :=
 (.seq
 (.region false [
 ⟨some 1, .box (.tmp 0), none⟩,
 ⟨some 2, .mov (.const (.int .i64 0)), none⟩] [0, 2])
 (.seq
 (.region false [
 ⟨some 9, .load true 7 (.tmp 1), none⟩,
 ⟨some 10, .callm 96 [.tmp 9], none⟩,
 ⟨some 8, .mov (.tmp 10), none⟩,
 ⟨some 11, .ext (.tmp 8) 0, none⟩,
 ⟨some 12, .ext (.tmp 8) 1, none⟩,
 ⟨some 3, .alloc [.lit (.int .i64 0), .lit (.int .i64 0), .lit (.int .i64 0), .lit (.int .i64 0), .lit (.int .i64 0), .lit (.int .i64 0), .lit (.int .i64 0)], none⟩,
 ⟨some 4, .alloc [.lit (.int .i64 0), .lit (.int .i64 0), .lit (.int .i64 0), .lit (.int .i64 0), .lit (.int .i64 0), .lit (.int .i64 0), .lit (.int .i64 0)], none⟩,
 ⟨none, .store 7 (.tmp 3) (.tmp 11), none⟩,
 ⟨none, .store 7 (.tmp 4) (.tmp 12), none⟩] [8, 9, 10, 11, 12])
 (.seq
 (.seq
 (.region false [
 ⟨some 5, .mov (.const (.int .i64 0)), none⟩] [])
 (.block 0
 (.loop
 (.seq
 (.seq
 (.region false [
 ⟨some 13, .mov (.tmp 5), none⟩,
 ⟨some 14, .bin .lss 3 (.tmp 13) (.const (.int .i64 7)), none⟩] [13])
 (.cond (.tmp 14)
 .skip
 (.exit 0)))
 (.seq
 (.block 1
 (.seq
 (.region false [
 ⟨some 6, .mov (.const (.int .i64 0)), none⟩] [14])
 (.block 2
 (.loop
 (.seq
 (.seq
 (.region false [
 ⟨some 17, .mov (.tmp 6), none⟩,
 ⟨some 18, .mov (.tmp 5), none⟩,
 ⟨some 19, .iadra 7 1 (.tmp 3) (.tmp 18), none⟩,
 ⟨some 20, .load false 1 (.tmp 19), none⟩,
 ⟨some 21, .bin .lss 3 (.tmp 17) (.tmp 20), none⟩] [17, 18, 19, 20])
 (.cond (.tmp 21)
 .skip
 (.exit 2)))
 (.seq
 (.block 3
 (.seq
 (.seq
 (.region false [
 ⟨some 24, .mov (.tmp 6), none⟩,
 ⟨some 25, .mov (.tmp 5), none⟩,
 ⟨some 26, .iadra 7 1 (.tmp 4) (.tmp 25), none⟩,
 ⟨some 27, .load false 1 (.tmp 26), none⟩,
 ⟨some 28, .bin .geq 3 (.tmp 24) (.tmp 27), none⟩] [21, 24, 25, 26, 27])
 (.cond (.tmp 28)
 (.seq
 (.region false [
 ⟨some 2, .mov (.const (.int .i64 104)), none⟩] [1, 3, 4, 5, 6, 28])
 .ret)
 .skip))
 (.seq
 (.region false [
 ⟨some 29, .load true 7 (.tmp 1), none⟩,
 ⟨some 30, .mov (.tmp 5), none⟩,
 ⟨some 31, .mov (.tmp 6), none⟩,
 ⟨some 32, .callm 97 [.tmp 29, .tmp 30, .tmp 31], none⟩,
 ⟨some 7, .mov (.tmp 32), none⟩] [28, 29, 30, 31, 32])
 (.seq
 (.region false [
 ⟨some 33, .mov (.tmp 7), none⟩,
 ⟨some 34, .bin .neq 3 (.tmp 33) (.const (.int .i64 0)), none⟩] [33])
 (.cond (.tmp 34)
 (.seq
 (.region false [
 ⟨some 35, .mov (.tmp 7), none⟩,
 ⟨some 2, .mov (.tmp 35), none⟩] [1, 3, 4, 5, 6, 7, 34, 35])
 .ret)
 .skip)))) [7, 34])
 (.region false [
 ⟨some 22, .mov (.tmp 6), none⟩,
 ⟨some 23, .bin .add 3 (.tmp 22) (.const (.int .i64 1)), none⟩,
 ⟨some 6, .mov (.tmp 23), none⟩] [22, 23]))) [] []) [6, 21])) [])
 (.region false [
 ⟨some 15, .mov (.tmp 5), none⟩,
 ⟨some 16, .bin .add 3 (.tmp 15) (.const (.int .i64 1)), none⟩,
 ⟨some 5, .mov (.tmp 16), none⟩] [15, 16]))) [] []) [1, 3, 4, 5, 14]))
 (.seq
 (.region false [
 ⟨some 2, .mov (.const (.int .i64 0)), none⟩] [])
 .ret))))
abbrev v_rivuletref5_Valid : List RV := [.tmp 2]
abbrev f_rivuletref5_Valid : FuncId := 36
theorem k_rivuletref5_Valid : closedOf Tryz.prog Tryz.f36 = (false, some true, some v_rivuletref5_Valid, some c_rivuletref5_Valid.plain, 36) := by kernel_rfl
theorem ac_rivuletref5_Valid {args : List AV} {r : AV} (h : aw Tryz.prog c_rivuletref5_Valid (env0 args) (endQ v_rivuletref5_Valid r)) (hargs : args.length ≤ 36 := by decide) (hok : resOK r = true := by rfl) : AC Tryz.prog f_rivuletref5_Valid args r :=
  AC_mk (by kernel_rfl) Tryz.func36 k_rivuletref5_Valid hargs hok (by decide) h
end Go.Proofs.YtobofhbklfallaaGreatDoor.VL
end

