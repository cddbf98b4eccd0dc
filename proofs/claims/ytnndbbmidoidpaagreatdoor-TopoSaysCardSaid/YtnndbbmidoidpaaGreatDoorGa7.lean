import Derived.ProofKit
import Derived.Test.YtnndbbmidoidpaaGreatDoorRows
import Derived.Test.YtnndbbmidoidpaaGreatDoorCards
import Derived.Test.YtnndbbmidoidpaaGreatDoorTie
import Derived.LaidMore
import Derived.OpenShut
import Derived.Stop.Joined
import Derived.HandedShaped
import Derived.Shelf.Vars
import Derived.Lib.LaidTab
import Derived.SevenTiedAt
import Derived.Stop.LaidErr
import Derived.JoinedOf
import Derived.Laws.BitsAllLaws
import Derived.Laws.Entries
import Derived.Test.YtnndbbmidoidpaaGreatDoorGa6
set_option linter.unusedVariables false
set_option linter.unusedSimpArgs false
section
namespace Go.Proofs.YtnndbbmidoidpaaGreatDoor.VL
open Go.RowKit
section
variable {P : Program} {E : Env} {Q : AExit → Env → Prop} {K : Env → Prop} {D : Bool} {s : List (Nat × AV)} {c : List (Nat × List AV)} {os : List AOper} {d : Nat}
def shiftX (P : Program) (a : ACode) (s : List (Nat × AV)) (c : List (Nat × List AV)) (Q : AExit → Env → Prop) : Prop:= aw P (.shift a) (mkE s c) Q
@[go_sem] theorem aw_shift (a : ACode) : aw P (.shift a) (mkE s c) Q = shiftX P a s c Q:= rfl
theorem shiftX_of {a : ACode} {S : Env → Prop} (h : VS (mkE s c) S) (hk : ∀ E',S E' → aw P a E' Q) : shiftX P a s c Q:= ⟨S,h,hk⟩
theorem shiftX_refl {a : ACode} (hk : aw P a (mkE s c) Q) : shiftX P a s c Q:= ⟨fun E' => E' = mkE s c,VS.refl rfl,fun E' h => by rw [h]; exact hk⟩
def splitK (P : Program) (ys : List AOper) (kl : List Nat) (Q : AExit → Env → Prop) (E1 : Env) : Prop:= ∃ S,VS E1 S ∧ ∀ E2,S E2 → awOps P ys E2 fun E' => Q .normal (E'.dropS kl)
def splitX (P : Program) (ys : List AOper) (kl : List Nat) (Q : AExit → Env → Prop) (s : List (Nat × AV)) (c : List (Nat × List AV)) : Prop:= splitK P ys kl Q (mkE s c)
@[go_sem] theorem aw_split (xs ys : List AOper) (kl : List Nat) : aw P (.split xs ys kl) (mkE s c) Q = awX false P xs (mkE s c) (splitK P ys kl Q):= rfl
@[go_sem] theorem splitK_mk (ys : List AOper) (kl : List Nat) : splitK P ys kl Q (mkE s c) = splitX P ys kl Q s c:= rfl
theorem splitX_of {ys : List AOper} {kl : List Nat} {S : Env → Prop} (h : VS (mkE s c) S) (hk : ∀ E',S E' → awX false P ys E' fun E' => Q .normal (E'.dropS kl)) : splitX P ys kl Q s c:= ⟨S,h,hk⟩
def bslX (P : Program) (esz d : Nat) (os : List AOper) (s : List (Nat × AV)) (c : List (Nat × List AV)) (K : Env → Prop) : Prop:= awX false P (⟨some d,.bsl0 esz,none⟩ :: os) (mkE s c) K
@[go_sem] theorem x_bsl0 (esz : Nat) : awX false P (⟨some d,.bsl0 esz,none⟩ :: os) (mkE s c) K = bslX P esz d os s c K:= rfl
theorem bslX_own {esz : Nat} (h : awX false P os (mkE (putA s d (.sl (.own [d]) esz [])) c) K) : bslX P esz d os s c K:= by
 unfold bslX
 rw [awX_f]
 exact ⟨d,rfl,.inl (by rw [mkE_put]; exact h)⟩
theorem bslX_fr {esz : Nat} (h : awX false P os (mkE (putA s d (.sl (.fr [d]) esz [])) c) K) : bslX P esz d os s c K:= by
 unfold bslX
 rw [awX_f]
 exact ⟨d,rfl,.inr (by rw [mkE_put]; exact h)⟩
@[go_sem] theorem x_mkf (b : Bool) (e y : Nat) (z : List AV) (l q : Operand) : awX D P (⟨some d,.mkf b e y z l q,none⟩ :: os) (mkE s c) K = bindV (mkfV b e y d z (evA s l) (evA s q)) D P os d s c K:= by
 rw [x_step (by intros; simp) (by intros; simp) (by intros; simp) (by intros; simp) (by intros; simp) rfl]
 simp only [step,mkE_ev,stepMkf]
 unfold bindE bindV
 cases mkfV b e y d z (evA s l) (evA s q) <;> simp [mkE_put]
@[go_sem] theorem mkfV_n (b : Bool) (e y : Nat) (z : List AV) (k k' : IntKind) (n : Int) (h0 : 0 ≤ n) (h1 : n ≤ 4294967296) (h2 : y ≤ 32768) (h3 : z.length = e) (h4 : b = true ∨ e = 1) (h5 : oneL z = true) : mkfV b e y d z (.lit (.int k n)) (.lit (.int k' n)) = some (.sl (.fr [d]) e (List.replicate n.toNat (zRow b z))):= by
 simp [mkfV,intOfA,h0,h1,h2,h3,h4,h5]
@[go_sem] theorem x_mkm : awX D P (⟨some d,.mkm,none⟩ :: os) (mkE s c) K = awX D P os (mkE (putA s d (.mf [d] true)) c) K:= by
 rw [x_step (by intros; simp) (by intros; simp) (by intros; simp) (by intros; simp) (by intros; simp) rfl]
 simp only [step,bindE_some,mkE_put]
def mupX (str : Bool) (m k x : AV) (s : List (Nat × AV)) (c : List (Nat × List AV)) : Option Env:= stepMup str m k x (mkE s c)
@[go_sem] theorem x_mup (str : Bool) (m k x : Operand) : awX D P (⟨none,.mup str m k x,none⟩ :: os) (mkE s c) K = bindE (mupX str (evA s m) (evA s k) (evA s x) s c) D P os K:= by
 rw [x_step (by intros; simp) (by intros; simp) (by intros; simp) (by intros; simp) (by intros; simp) rfl]
 simp only [step,mkE_ev,mupX]
theorem mkE_renew (τ : List Nat) (ks : List Value) (vs : List AV) : (mkE s c).renew τ ks vs = mkE (mapV (renew τ ks vs) s) (mapV (renewL τ ks vs) c):= by
 unfold Env.renew mkE
 congr 1
 ·funext k
  exact (getA_mapV (renew τ ks vs) rfl s k).symm
 ·funext k
  exact (getC_mapV (renewL τ ks vs) c k).symm
theorem mupX_of {str : Bool} {τ : List Nat} {keys : List Value} {vals : List AV} {kv : Value} {x y : AV} {ks : List Value} {vs : List AV} (hx : closeV x = some y) (h : mapPut str keys vals kv y = some (ks,vs)) :
  mupX str (.mu τ keys vals) (.lit kv) x s c = some (mkE (mapV (renew τ ks vs) s) (mapV (renewL τ ks vs) c)):= by
 simp only [mupX,stepMup,hx,h,mkE_renew]
def avLkp (str : Bool) (z : AV) (ok : Bool) (m k : AV) : Option AV:= match m,k with
 | .mp keys vals,.lit kv => mapGet str z ok keys vals kv
 | .mu _ keys vals,.lit kv => mapGet str z ok keys vals kv
 | _,_ => none
@[go_sem] theorem avLkp_mp (str : Bool) (z : AV) (ok : Bool) (keys : List Value) (vals : List AV) (kv : Value) : avLkp str z ok (.mp keys vals) (.lit kv) = mapGet str z ok keys vals kv:= rfl
@[go_sem] theorem avLkp_mu (str : Bool) (z : AV) (ok : Bool) (τ : List Nat) (keys : List Value) (vals : List AV) (kv : Value) : avLkp str z ok (.mu τ keys vals) (.lit kv) = mapGet str z ok keys vals kv:= rfl
@[go_sem] theorem x_lkp (str : Bool) (z : AV) (ok : Bool) (m k : Operand) : awX D P (⟨some d,.lkp str z ok m k,none⟩ :: os) (mkE s c) K = bindV (avLkp str z ok (evA s m) (evA s k)) D P os d s c K:= by
 rw [x_val rfl (by intros; simp) (by intros; simp)]
 first | (congr 1; done) | (congr 1; simp only [aval,mkE_ev,avLkp]; done) | (congr 1; simp only [aval,mkE_ev,avLkp]; rfl)
def clrX (z : List AV) (x : AV) (c : List (Nat × List AV)) : Option (List (Nat × List AV)):= match x with
 | .sl _ _ [] => some c
 | .ml k off n _ _ e => match getC c k with
  | some cs => if e = z.length ∧ off + n * e ≤ cs.length ∧ oneL z = true then some (putA c k (cs.take off ++ (List.replicate n z).flatten ++ cs.drop (off + n * e))) else none
  | none => none
 | _ => none
@[go_sem] theorem x_clr (z : List AV) (x : Operand) : awX D P (⟨none,.clr z x,none⟩ :: os) (mkE s c) K = bindC (clrX z (evA s x) c) D P os s K:= by
 rw [x_step (by intros; simp) (by intros; simp) (by intros; simp) (by intros; simp) (by intros; simp) rfl]
 simp only [step,mkE_ev]
 unfold bindE bindC stepClr clrX
 cases evA s x with
 | sl t e rows => cases rows <;> rfl
 | ml k off n cap g e =>
  simp only [mkE_c]
  cases getC c k with
  | none => rfl
  | some cs =>
   simp only [mkE_putc]
   by_cases h : e = z.length ∧ off + n * e ≤ cs.length ∧ oneL z = true
   ·simp only [if_pos h]
   ·simp only [if_neg h]
 | _ => rfl
@[go_sem] theorem clrX_nil (z : List AV) (t : Tok) (e : Nat) : clrX z (.sl t e []) c = some c:= rfl
def clrM (z : List AV) (k off n e : Nat) (c : List (Nat × List AV)) (o : Option (List AV)) : Option (List (Nat × List AV)):= match o with
 | some cs => if e = z.length ∧ off + n * e ≤ cs.length ∧ oneL z = true then some (putA c k (cs.take off ++ (List.replicate n z).flatten ++ cs.drop (off + n * e))) else none
 | none => none
@[go_sem] theorem clrX_ml (z : List AV) (k off n cap : Nat) (g : Bool) (e : Nat) : clrX z (.ml k off n cap g e) c = clrM z k off n e c (getC c k):= by
 simp only [clrX,clrM]
theorem clrM_some (z : List AV) (k off n e : Nat) (cs : List AV) (h : e = z.length ∧ off + n * e ≤ cs.length ∧ oneL z = true) : clrM z k off n e c (some cs) = some (putA c k (cs.take off ++ (List.replicate n z).flatten ++ cs.drop (off + n * e))):= by
 simp only [clrM,if_pos h]
def avI2s (x : AV) : Option AV:= match x with
 | .lit (.int _ n) => if 0 ≤ n ∧ n < 128 then some (.lit (.string ⟨#[UInt8.ofNat n.toNat]⟩)) else none
 | _ => none
@[go_sem] theorem x_i2s (x : Operand) : awX D P (⟨some d,.i2s x,none⟩ :: os) (mkE s c) K = bindV (avI2s (evA s x)) D P os d s c K:= by
 rw [x_val rfl (by intros; simp) (by intros; simp)]
 first | (congr 1; done) | (congr 1; simp only [aval,mkE_ev,avI2s]; done) | (congr 1; simp only [aval,mkE_ev,avI2s]; rfl)
def avEqs (neg : Bool) (x : AV) : Option AV:= match x with
 | .sl t _ rows => match t,rows with
  | .nil,[] => some (.lit (.bool !neg))
  | .gone,_ => none
  | _,_ :: _ => some (.lit (.bool neg))
  | _,_ => none
 | .ml _ _ _ _ _ _ => some (.lit (.bool neg))
 | .lit (.slice A _ _) => some (.lit (.bool (if neg then !A.isNone else A.isNone)))
 | _ => none
@[go_sem] theorem avEqs_lit (neg : Bool) (A : Option Addr) (n k : Nat) : avEqs neg (.lit (.slice A n k)) = some (.lit (.bool (if neg then !A.isNone else A.isNone))):= rfl
@[go_sem] theorem avEqs_nil (neg : Bool) (e : Nat) : avEqs neg (.sl .nil e []) = some (.lit (.bool !neg)):= rfl
@[go_sem] theorem avEqs_cons (neg : Bool) (e : Nat) (r : AV) (rs : List AV) : avEqs neg (.sl .none e (r :: rs)) = some (.lit (.bool neg)):= rfl
@[go_sem] theorem avEqs_own (neg : Bool) (τ : List Nat) (e : Nat) (r : AV) (rs : List AV) : avEqs neg (.sl (.own τ) e (r :: rs)) = some (.lit (.bool neg)):= rfl
@[go_sem] theorem avEqs_ml (neg : Bool) (k o n cap : Nat) (g : Bool) (e : Nat) : avEqs neg (.ml k o n cap g e) = some (.lit (.bool neg)):= rfl
theorem avEqs_ne (neg : Bool) (e : Nat) (rows : List AV) (h : rows ≠ []) : avEqs neg (.sl .none e rows) = some (.lit (.bool neg)):= by
 cases rows with
 | nil => exact absurd rfl h
 | cons => rfl
@[go_sem] theorem x_eqs (neg : Bool) (x : Operand) : awX D P (⟨some d,.eqs neg x,none⟩ :: os) (mkE s c) K = bindV (avEqs neg (evA s x)) D P os d s c K:= by
 rw [x_val rfl (by intros; simp) (by intros; simp)]
 first | (congr 1; done) | (congr 1; simp only [aval,mkE_ev,avEqs]; done) | (congr 1; simp only [aval,mkE_ev,avEqs]; rfl)
end
@[go_sem] theorem kill_mu (d : Nat) (τ : List Nat) (k : List Value) (v : List AV) : kill d (.mu τ k v) = .mu τ k v:= rfl
@[go_sem] theorem kill_mf (d : Nat) (τ : List Nat) (al : Bool) : kill d (.mf τ al) = .mf τ al:= rfl
@[go_sem] theorem strip_fr (τ t : List Nat) (e : Nat) (r : List AV) : strip τ (.sl (.fr t) e r) = if t = τ then .sl .gone e r else .sl (.fr t) e r:= rfl
@[go_sem] theorem strip_gone (τ : List Nat) (e : Nat) (r : List AV) : strip τ (.sl .gone e r) = .sl .gone e r:= rfl
@[go_sem] theorem strip_mu (τ t : List Nat) (k : List Value) (v : List AV) : strip τ (.mu t k v) = .mu t k v:= rfl
@[go_sem] theorem strip_mf (τ t : List Nat) (al : Bool) : strip τ (.mf t al) = .mf t (al && decide (t ≠ τ)):= rfl
@[go_sem] theorem lowTok_fr (τ : List Nat) : lowTok (.fr τ) = .bor:= rfl
@[go_sem] theorem lowTok_gone : lowTok .gone = .gone:= rfl
@[go_sem] theorem retag_fr (d : Nat) (t : List Nat) (e : Nat) (r : List AV) : retag d (.sl (.fr t) e r) = .sl (.fr (d :: t)) e r:= rfl
@[go_sem] theorem retag_mf (d : Nat) (t : List Nat) (al : Bool) : retag d (.mf t al) = .mf (d :: t) al:= rfl
@[go_sem] theorem retag_lp (d k o : Nat) : retag d (.lp k o) = .lp k o:= rfl
@[go_sem] theorem retag_ml (d k o n cap : Nat) (g : Bool) (e : Nat) : retag d (.ml k o n cap g e) = .ml k o n cap g e:= rfl
@[go_sem] theorem retag_clo (d : Nat) (f : Fn) (a b : List AV) : retag d (.clo f a b) = .clo f (retagL d a) (retagL d b):= rfl
@[go_sem] theorem unlend_lit (m : List (Nat × Nat)) (v : Value) : unlend m (.lit v) = .lit v:= rfl
@[go_sem] theorem unlend_sl (m : List (Nat × Nat)) (t : Tok) (e : Nat) (r : List AV) : unlend m (.sl t e r) = .sl t e r:= rfl
@[go_sem] theorem unlend_agg (m : List (Nat × Nat)) (cs : List AV) : unlend m (.agg cs) = .agg (unlendL m cs):= rfl
@[go_sem] theorem unlend_tup (m : List (Nat × Nat)) (cs : List AV) : unlend m (.tup cs) = .tup (unlendL m cs):= rfl
@[go_sem] theorem unlend_ifc (m : List (Nat × Nat)) (t : TypeId) (v : AV) : unlend m (.ifc t v) = .ifc t (unlend m v):= rfl
@[go_sem] theorem unlend_gl (m : List (Nat × Nat)) (i : Nat) : unlend m (.gl i) = .gl i:= rfl
@[go_sem] theorem unlend_rp (m : List (Nat × Nat)) (cs : List AV) : unlend m (.rp cs) = .rp cs:= rfl
@[go_sem] theorem unlend_mp (m : List (Nat × Nat)) (k : List Value) (v : List AV) : unlend m (.mp k v) = .mp k v:= rfl
@[go_sem] theorem unlend_dead (m : List (Nat × Nat)) : unlend m .dead = .dead:= rfl
@[go_sem] theorem unlend_clo (m : List (Nat × Nat)) (f : Fn) (a b : List AV) : unlend m (.clo f a b) = .clo f (unlendL m a) (unlendL m b):= rfl
def unlP (o : Nat) : Option Nat → AV
 | some c => .lp c o
 | none => .dead
@[go_sem] theorem unlP_some (o c : Nat) : unlP o (some c) = .lp c o:= rfl
@[go_sem] theorem unlend_lp (m : List (Nat × Nat)) (k o : Nat) : unlend m (.lp k o) = unlP o (lentOf m k):= by simp only [unlend,unlP]; cases lentOf m k <;> rfl
def unlM (o n cap : Nat) (g : Bool) (e : Nat) : Option Nat → AV
 | some c => .ml c o n cap g e
 | none => .dead
@[go_sem] theorem unlM_some (o n cap : Nat) (g : Bool) (e c : Nat) : unlM o n cap g e (some c) = .ml c o n cap g e:= rfl
@[go_sem] theorem unlend_ml (m : List (Nat × Nat)) (k o n cap : Nat) (g : Bool) (e : Nat) : unlend m (.ml k o n cap g e) = unlM o n cap g e (lentOf m k):= by simp only [unlend,unlM]; cases lentOf m k <;> rfl
@[go_sem] theorem unlendL_nil (m : List (Nat × Nat)) : unlendL m [] = []:= rfl
@[go_sem] theorem unlendL_cons (m : List (Nat × Nat)) (x : AV) (xs : List AV) : unlendL m (x :: xs) = unlend m x :: unlendL m xs:= rfl
@[go_sem] theorem lentOf_nil (k : Nat) : lentOf [] k = none:= rfl
@[go_sem] theorem lentOf_cons (c k' : Nat) (r : List (Nat × Nat)) (k : Nat) : lentOf ((c,k') :: r) k = if k = k' then some c else lentOf r k:= rfl
@[go_sem] theorem closeV_dead : closeV .dead = some .dead:= rfl
@[go_sem] theorem plainV_lit (v : Value) : plainV (.lit v) = true:= rfl
@[go_sem] theorem plainV_none (e : Nat) (r : List AV) : plainV (.sl .none e r) = true:= rfl
@[go_sem] theorem plainV_nil (e : Nat) (r : List AV) : plainV (.sl .nil e r) = true:= rfl
@[go_sem] theorem plainV_own (τ : List Nat) (e : Nat) (r : List AV) : plainV (.sl (.own τ) e r) = true:= rfl
@[go_sem] theorem plainV_agg (cs : List AV) : plainV (.agg cs) = plainL cs:= rfl
@[go_sem] theorem plainV_clo (f : Fn) (a b : List AV) : plainV (.clo f a b) = (plainL a && plainL b):= rfl
@[go_sem] theorem plainV_rp (cs : List AV) : plainV (.rp cs) = true:= rfl
@[go_sem] theorem plainL_nil : plainL [] = true:= rfl
@[go_sem] theorem plainL_cons (x : AV) (xs : List AV) : plainL (x :: xs) = (plainV x && plainL xs):= rfl
@[go_sem] theorem unownV_lit (v : Value) : unownV (.lit v) = .lit v:= rfl
@[go_sem] theorem unownV_none (e : Nat) (r : List AV) : unownV (.sl .none e r) = .sl .none e r:= rfl
@[go_sem] theorem unownV_nil (e : Nat) (r : List AV) : unownV (.sl .nil e r) = .sl .nil e r:= rfl
@[go_sem] theorem unownV_own (τ : List Nat) (e : Nat) (r : List AV) : unownV (.sl (.own τ) e r) = .sl .none e r:= rfl
@[go_sem] theorem unownV_agg (cs : List AV) : unownV (.agg cs) = .agg (unownL cs):= rfl
@[go_sem] theorem unownV_clo (f : Fn) (a b : List AV) : unownV (.clo f a b) = .clo f (unownL a) (unownL b):= rfl
@[go_sem] theorem unownV_rp (cs : List AV) : unownV (.rp cs) = .rp cs:= rfl
@[go_sem] theorem unownL_nil : unownL [] = []:= rfl
@[go_sem] theorem unownL_cons (x : AV) (xs : List AV) : unownL (x :: xs) = unownV x :: unownL xs:= rfl
@[go_sem] theorem closeV1_clo (f : Fn) (a b : List AV) : closeV.closeV1 (.clo f a b) = if (plainL a && plainL b) = true then some (.clo f (unownL a) (unownL b)) else none:= rfl
@[go_sem] theorem closeV_clo (f : Fn) (a b : List AV) : closeV (.clo f a b) = if (plainL a && plainL b) = true then some (.clo f (unownL a) (unownL b)) else none:= rfl
section
variable {C : Nat → Option (List AV)} {n : Nat}
@[go_sem] theorem retv_frt (τ : List Nat) (e : Nat) (r : List AV) : retv C true (n + 1) (.sl (.fr τ) e r) = some (.sl (.fr τ) e r):= rfl
@[go_sem] theorem retv_dead (k : Bool) : retv C k (n + 1) .dead = some .dead:= rfl
@[go_sem] theorem retv_mu (k : Bool) (τ : List Nat) (a : List Value) (v : List AV) : retv C k (n + 1) (.mu τ a v) = some (.mp a v):= rfl
@[go_sem] theorem retv_mft (τ : List Nat) (al : Bool) : retv C true (n + 1) (.mf τ al) = some (.mf τ al):= rfl
@[go_sem] theorem retv_clo (k : Bool) (f : Fn) (a b : List AV) : retv C k (n + 1) (.clo f a b) = cloO f (mapO (retv C k n) a) (mapO (retv C k n) b):= by
 simp only [retv,cloO]
 cases mapO (retv C k n) a <;> cases mapO (retv C k n) b <;> rfl
def retM (C : Nat → Option (List AV)) (n : Nat) (o len cap : Nat) (g : Bool) (e : Nat) (x : Option (List AV)) : Option AV:= match x with
 | some cs => if o + len * e ≤ cs.length ∧ len ≤ cap ∧ (g = true ∨ e = 1) then match mapO (retv C false n) ((cs.drop o).take (len * e)) with
  | some l => some (.sl .none e (chunk g e len l))
  | none => none
  else none
 | none => none
@[go_sem] theorem retv_ml (k : Bool) (c o len cap : Nat) (g : Bool) (e : Nat) : retv C k (n + 1) (.ml c o len cap g e) = if 100000 ≤ c then (if k = true then some (.ml c o len cap g e) else none) else retM C n o len cap g e (C c):= by
 simp only [retv,retM]
 split
 ·rfl
 ·cases C c <;> rfl
theorem retM_some (o len cap : Nat) (g : Bool) (e : Nat) (cs l : List AV) (h : o + len * e ≤ cs.length ∧ len ≤ cap ∧ (g = true ∨ e = 1)) (hl : mapO (retv C false n) ((cs.drop o).take (len * e)) = some l) : retM C n o len cap g e (some cs) = some (.sl .none e (chunk g e len l)):= by
 simp only [retM,if_pos h,hl]
def lowM (len cap o : Nat) (g : Bool) (e : Nat) (x : Option (List AV)) : Option AV:= match x with
 | some cs => if o + len * e ≤ cs.length ∧ len ≤ cap ∧ (g = true ∨ e = 1) then match mapO closeV ((cs.drop o).take (len * e)) with
  | some l => some (.sl .bor e (chunk g e len l))
  | none => none
  else none
 | none => none
@[go_sem] theorem lower_ml (k o len cap : Nat) (g : Bool) (e : Nat) : lower C (n + 1) (.ml k o len cap g e) = lowM len cap o g e (C k):= by
 simp only [lower,lowerM,lentAs,lowM]
 cases C k <;> rfl
end
@[go_sem] theorem killn_lit (p : List Nat → Bool) (v : Value) : killn p (.lit v) = .lit v:= rfl
section
variable {d : Option Nat} {g : Option (Nat × Bool)} {os : List AOper}
@[go_sem] theorem allocs_mkf (b : Bool) (n e : Nat) (z : List AV) (x i : Operand) : allocs (⟨d,.mkf b n e z x i,g⟩ :: os) = allocs os:= rfl
@[go_sem] theorem allocs_mkm : allocs (⟨d,.mkm,g⟩ :: os) = allocs os:= rfl
@[go_sem] theorem allocs_mup (b : Bool) (m k x : Operand) : allocs (⟨d,.mup b m k x,g⟩ :: os) = allocs os:= rfl
@[go_sem] theorem allocs_lkp (b : Bool) (z : AV) (ok : Bool) (m k : Operand) : allocs (⟨d,.lkp b z ok m k,g⟩ :: os) = allocs os:= rfl
@[go_sem] theorem allocs_clr (z : List AV) (x : Operand) : allocs (⟨d,.clr z x,g⟩ :: os) = allocs os:= rfl
@[go_sem] theorem allocs_i2s (x : Operand) : allocs (⟨d,.i2s x,g⟩ :: os) = allocs os:= rfl
@[go_sem] theorem allocs_eqs (n : Bool) (x : Operand) : allocs (⟨d,.eqs n x,g⟩ :: os) = allocs os:= rfl
@[go_sem] theorem allocs_bsl0 (e : Nat) : allocs (⟨d,.bsl0 e,g⟩ :: os) = allocs os:= rfl
end
end Go.Proofs.YtnndbbmidoidpaaGreatDoor.VL
end

section
namespace Go.Proofs.YtnndbbmidoidpaaGreatDoor.VL
open Go.RowKit Go.ChangeShapes
def gOf (W : World) (g : Nat) : TypeId × Addr:= match W.cell? ⟨g,0,none⟩ with
 | some (.iface t (.pointer (some a))) => (t,a)
 | _ => (0,default)
def R0 (W : World) : RE:= ⟨W,fun b _ => b < W.heap.size,fun b => b < W.heap.size,fun _ => none,fun _ _ => False,gOf W,fun _ => none⟩
structure SentAt (W : World) : Prop where
 cell : ∀ g ∈ GS,∃ a cs ty,W.cell? ⟨g,0,none⟩ = some (.iface GT (.pointer (some a))) ∧ W.heap[a.block]? = some (.cells cs ty (0,0))
 dist : ∀ g ∈ GS,∀ k ∈ GS,∀ a t u,W.cell? ⟨g,0,none⟩ = some (.iface t (.pointer (some a))) → W.cell? ⟨k,0,none⟩ = some (.iface u (.pointer (some a))) → g = k
theorem SentAt.none {W : World} (h : GS = []) : SentAt W:= ⟨fun g hg => by (rw [h] at hg; cases hg),fun g hg => by (rw [h] at hg; cases hg)⟩
theorem R0_start (W : World) (hg : SentAt W) (hd : GOK fun g => W.heap[g]?) : (R0 W).Start :=
 ⟨fun _ _ h => h,fun _ _ h => h,fun _ h => ⟨h,fun ⟨c,hc⟩ => (nomatch hc)⟩,fun _ ⟨c,hc⟩ => (nomatch hc),fun _ ⟨c,hc⟩ => (nomatch hc),fun _ _ _ h => (nomatch h),fun _ _ h => (nomatch h),fun _ => rfl,fun g h => by
  obtain ⟨a,_,_,e,_⟩:= hg.cell g h
  show W.cell? ⟨g,0,none⟩ = _
  simp only [R0,gOf,e],fun _ _ ⟨c,hc⟩ => (nomatch hc),hd,fun _ _ ⟨c,hc⟩ => (nomatch hc),fun g h => by
  obtain ⟨a,cs,ty,e,e2⟩:= hg.cell g h
  have h1 : (R0 W).G g = (GT,a):= by simp only [R0,gOf,e]
  rw [h1]
  exact ⟨rfl,⟨cs,ty,e2⟩,fun ⟨c,hc⟩ => (nomatch hc)⟩,fun g h k h2 e => by
  obtain ⟨a,_,_,e1,_⟩:= hg.cell g h
  obtain ⟨b,_,_,e2,_⟩:= hg.cell k h2
  have h3 : (R0 W).G g = (GT,a):= by simp only [R0,gOf,e1]
  have h4 : (R0 W).G k = (GT,b):= by simp only [R0,gOf,e2]
  rw [h3,h4] at e
  subst e
  exact hg.dist g h k h2 _ _ _ e1 e2⟩
theorem R0_ext (W : World) : Ext (R0 W).closed (R0 W) :=
 ⟨fun _ _ h => h,fun _ h => h.elim,fun _ _ _ _ h => h,fun _ _ _ _ h => h,fun c b h => by simp [RE.closed] at h,fun g τ h => (h : False).elim,rfl,fun c b h => by simp [RE.closed] at h⟩
inductive SC where
 | int (k : IntKind)
 | bool
 | str
 | sl (agg : Bool) (row : List SC)
def fieldTys (f : TypeId → Option (List SC)) (P : Program) : List Field → Nat → Option (List SC)
 | [],_ => some []
 | fd :: fs,off => match f fd.type,fieldTys f P fs (off + P.cellsOf fd.type) with
  | some l,some r => if fd.offset = off ∧ l.length = P.cellsOf fd.type then some (l ++ r) else none
  | _,_ => none
def cellTys (P : Program) : Nat → TypeId → Option (List SC)
 | 0,_ => none
 | n + 1,t => match P.underlying t with
  | some .bool => some [.bool]
  | some (.int k) => some [.int k]
  | some .string => some [.str]
  | some (.slice e) => match cellTys P n e,isAggB P e with
   | some row,some b => if row.length = P.cellsOf e ∧ 0 < row.length ∧ (b = true ∨ row.length = 1) then some [.sl b row] else none
   | _,_ => none
  | some (.struct fs) => match fieldTys (cellTys P n) P fs.toList 0 with
   | some l => if l.length = P.cellsOf t then some l else none
   | none => none
  | _ => none
def mkRow (agg : Bool) (cs : List AV) : AV:= match agg with | true => .agg cs | false => cs.headD .dead
mutual
def Fit : SC → AV → Prop
 | .int k,x => ∃ n,x = .lit (.int k n) ∧ (Lit.int k n).wf = true
 | .bool,x => ∃ b,x = .lit (.bool b)
 | .str,x => ∃ s,x = .lit (.string s) ∧ s.size ≤ maxLen
 | .sl agg row,x => ∃ rows : List (List AV),x = .sl .none row.length (rows.map (mkRow agg)) ∧ rows.length ≤ maxLen ∧ ∀ cs ∈ rows,FitL row cs
def FitL : List SC → List AV → Prop
 | [],xs => xs = []
 | c :: cs,xs => ∃ y ys,xs = y :: ys ∧ Fit c y ∧ FitL cs ys
end
theorem FitL.length : ∀ {cs : List SC} {xs : List AV},FitL cs xs → xs.length = cs.length
 | [],xs,h => by simp only [FitL] at h; simp [h]
 | c :: cs,xs,h => by
  simp only [FitL] at h
  obtain ⟨y,ys,rfl,_,h⟩:= h
  simp [FitL.length h]
theorem FitL.append {ds : List SC} {ys : List AV} (h' : FitL ds ys) : ∀ {cs : List SC} {xs : List AV},FitL cs xs → FitL (cs ++ ds) (xs ++ ys)
 | [],xs,h => by simp only [FitL] at h; subst h; exact h'
 | c :: cs,xs,h => by
  simp only [FitL] at h
  obtain ⟨y,zs,rfl,h1,h2⟩:= h
  simp only [List.cons_append,FitL]
  exact ⟨y,zs ++ ys,rfl,h1,FitL.append h' h2⟩
section
variable {H : Type} {enc : TypeId × Value → H} {P : Program} {W : World} {base : Nat} {sp : Nat → Bool} {held : Bool}
theorem cells?_at {a : Addr} {n : Nat} {cs : List Value} (h : W.cells? base a n = some cs) : cs.length = n ∧ ∀ r,r < n → W.cell? (a.add r) = cs[r]?:= by
 unfold World.cells? at h
 split at h
 ·refine ⟨by simpa using mapM_some_length h,fun r hr => mapM_some_get h r r (by simp [hr])⟩
 ·cases h
theorem cell_spot {a : Addr} {u : Value} (h : W.cell? a = some u) : a.spot = none:= by
 unfold World.cell? at h
 split at h
 ·split at h
  ·cases h
  ·rename_i hs
   simpa using hs
 ·cases h
theorem cell_lt {b o : Nat} {u : Value} (h : W.cell? ⟨b,o,none⟩ = some u) : b < W.heap.size:= by
 unfold World.cell? at h
 split at h
 ·rename_i hc
  exact (Array.getElem?_eq_some_iff.1 hc).1
 ·cases h
theorem open_rows {agg : Bool} {row : List SC} {b o : Nat} (hpos : 0 < row.length) (hagg : agg = true ∨ row.length = 1) :
  ∀ len : Nat,(∀ i,i < len → ∃ (cs : List Value) (xs : List AV),cs.length = row.length ∧ (∀ r,r < row.length → W.cell? ⟨b,o + i * row.length + r,none⟩ = cs[r]?) ∧ RepL (R0 W).closed xs cs ∧ FitL row xs ∧ ∀ u ∈ cs,u.oneCell' = true) →
   ∃ (rows : List (List AV)) (vs : List Value),rows.length = len ∧ RepL (R0 W).closed (rows.map (mkRow agg)) vs ∧ (∀ cs ∈ rows,FitL row cs) ∧ (∀ u ∈ vs,u.cells.size = row.length) ∧ (∀ u ∈ flat vs,u.oneCell' = true) ∧
    (flat vs).length = len * row.length ∧ ∀ (j : Nat) (u : Value),(flat vs)[j]? = some u → W.cell? ⟨b,o + j,none⟩ = some u
 | 0,_ => ⟨[],[],rfl,by simp [RepL],by simp,by simp,by simp [flat],by simp [flat],by simp [flat]⟩
 | len + 1,h => by
  obtain ⟨rows,vs,h1,h2,h3,h4,h5,h6,h7⟩:= open_rows hpos hagg len fun i hi => h i (by omega)
  obtain ⟨cs,xs,g1,g2,g3,g4,g5⟩:= h len (by omega)
  have hx : xs.length = row.length:= g4.length
  have key : ∃ v : Value,v.cells.toList = cs ∧ Rep (R0 W).closed (mkRow agg xs) v:= by
   cases agg with
   | true => exact ⟨.agg cs.toArray,by simp [Value.cells],by simp only [mkRow,Rep]; exact ⟨cs,rfl,g3⟩⟩
   | false =>
    have hl : row.length = 1:= by simpa using hagg
    match xs,cs,(by omega : xs.length = 1),(by omega : cs.length = 1),g3,g5 with
    | [x],[c],_,_,g3,g5 =>
     simp only [RepL] at g3
     obtain ⟨v,ws,e,hr,hw⟩:= g3
     simp only [List.cons.injEq] at e
     obtain ⟨rfl,_⟩:= e
     have:= g5 c (by simp)
     refine ⟨c,?_,hr⟩
     cases c <;> simp [Value.cells,Value.oneCell'] at this ⊢
  obtain ⟨v,hv,hr⟩:= key
  have hflat : flat (vs ++ [v]) = flat vs ++ cs:= by simp [flat,hv]
  refine ⟨rows ++ [xs],vs ++ [v],by simp [h1],?_,?_,?_,?_,?_,?_⟩
  ·rw [List.map_append]
   exact h2.append (by simp only [List.map_cons,List.map_nil,RepL]; exact ⟨v,[],rfl,hr,rfl⟩)
  ·intro c hc
   rcases List.mem_append.1 hc with hc | hc
   ·exact h3 c hc
   ·rw [List.mem_singleton.1 hc]; exact g4
  ·intro u hu
   rcases List.mem_append.1 hu with hu | hu
   ·exact h4 u hu
   ·rw [List.mem_singleton.1 hu,← Array.length_toList,hv,g1]
  ·rw [hflat]
   intro u hu
   rcases List.mem_append.1 hu with hu | hu
   ·exact h5 u hu
   ·exact g5 u hu
  ·rw [hflat,List.length_append,h6,g1,Nat.succ_mul]
  ·rw [hflat]
   intro j u hj
   by_cases hlt : j < len * row.length
   ·rw [List.getElem?_append_left (by omega)] at hj
    exact h7 j u hj
   ·rw [List.getElem?_append_right (by omega),h6] at hj
    have hr2 : j - len * row.length < cs.length:= (List.getElem?_eq_some_iff.1 hj).1
    have:= g2 (j - len * row.length) (by omega)
    rw [hj] at this
    rw [← this]
    congr 2
    omega
theorem open_fields {f : TypeId → Option (List SC)} {n : Nat}
  (ih : ∀ (t : TypeId) (scs : List SC) (cs : List Value) (x : DataW H × List MemPlace),f t = some scs → DataW.trod enc P W base sp held n t cs = some x → ∃ xs,RepL (R0 W).closed xs cs ∧ FitL scs xs ∧ ∀ u ∈ cs,u.oneCell' = true) :
  ∀ (fs : List Field) (off : Nat) (scs : List SC) (cs : List Value),fieldTys f P fs off = some scs → cs.length = off + scs.length →
   (∀ fd ∈ fs,∃ x,DataW.trod enc P W base sp held n fd.type ((cs.drop fd.offset).take (P.cellsOf fd.type)) = some x) → ∃ xs,RepL (R0 W).closed xs (cs.drop off) ∧ FitL scs xs ∧ ∀ u ∈ cs.drop off,u.oneCell' = true
 | [],off,scs,cs,h,hl,_ => by
  simp only [fieldTys] at h
  injection h with h
  subst h
  have : cs.drop off = []:= List.drop_eq_nil_of_le (by simp at hl; omega)
  rw [this]
  exact ⟨[],by simp [RepL],by simp [FitL],by simp⟩
 | fd :: fs,off,scs,cs,h,hl,ht => by
  simp only [fieldTys] at h
  split at h
  case h_2 => cases h
  rename_i l r h1 h2
  split at h
  case isFalse => cases h
  rename_i hc
  injection h with h
  subst h
  obtain ⟨x,hx⟩:= ht fd (by simp)
  rw [hc.1] at hx
  obtain ⟨xs,a1,a2,a3⟩:= ih fd.type l _ x h1 hx
  rw [← hc.2] at h2
  obtain ⟨ys,b1,b2,b3⟩:= open_fields ih fs (off + l.length) r cs h2 (by simp at hl; omega) fun fd' h' => ht fd' (by simp [h'])
  have e : cs.drop off = (cs.drop off).take (P.cellsOf fd.type) ++ cs.drop (off + l.length):= by
   rw [hc.2,← List.drop_drop,List.take_append_drop]
  rw [e]
  exact ⟨xs ++ ys,a1.append b1,b2.append a2,fun u hu => (List.mem_append.1 hu).elim (a3 u) (b3 u)⟩
theorem open_cells (hcell : ∀ t e,P.underlying t = some (.slice e) → True:= fun _ _ _ => trivial) : ∀ (n m : Nat) (t : TypeId) (scs : List SC) (cs : List Value) (x : DataW H × List MemPlace),cellTys P n t = some scs → DataW.trod enc P W base sp held m t cs = some x →
  ∃ xs,RepL (R0 W).closed xs cs ∧ FitL scs xs ∧ ∀ u ∈ cs,u.oneCell' = true
 | 0,m,t,scs,cs,x,h,_ => by simp [cellTys] at h
 | n + 1,0,t,scs,cs,x,_,hx => by simp [DataW.trod] at hx
 | n + 1,m + 1,t,scs,cs,x,h,hx => by
  simp only [cellTys] at h
  split at h
  ·rename_i hu
   injection h with h
   subst h
   unfold DataW.trod at hx
   rw [hu] at hx
   split at hx <;> simp_all
   rename_i b
   exact ⟨[.lit (.bool b)],by simp [RepL,Rep],by simp [FitL,Fit],rfl⟩
  ·rename_i k hu
   injection h with h
   subst h
   obtain ⟨z,hz,_,hw⟩:= DataW.trod_int hu hx
   subst hz
   exact ⟨[.lit (.int k z)],by simp [RepL,Rep],by simp only [FitL,Fit]; exact ⟨_,[],rfl,⟨z,rfl,hw⟩,rfl⟩,by simp [Value.oneCell']⟩
  ·rename_i hu
   injection h with h
   subst h
   obtain ⟨z,hz,_,hw⟩:= DataW.trod_string hu hx
   subst hz
   exact ⟨[.lit (.string z)],by simp [RepL,Rep],by simp only [FitL,Fit]; exact ⟨_,[],rfl,⟨z,rfl,hw⟩,rfl⟩,by simp [Value.oneCell']⟩
  ·rename_i e hu
   split at h
   case h_2 => cases h
   rename_i row b hrow hb
   split at h
   case isFalse => cases h
   rename_i hc
   injection h with h
   subst h
   rcases DataW.trod_slice hu hx with ⟨rfl,_⟩ | ⟨a,len,cap,elems,rest,m',hm',rfl,_,hba,hlc,hcm,hel,hall,_,_⟩
   ·refine ⟨[.sl .none row.length []],?_,?_,by simp [Value.oneCell']⟩
    ·simp only [RepL,Rep]
     refine ⟨_,[],rfl,⟨none,0,[],rfl,by simp,by simp [RepL],by simp,by simp [flat],by simp⟩,rfl⟩
    ·simp only [FitL,Fit]
     exact ⟨_,[],rfl,⟨[],rfl,by simp,by simp⟩,rfl⟩
   ·have each : ∀ i,i < len → ∃ (cs' : List Value) (x' : DataW H × List MemPlace),W.cells? base (a.add (i * P.cellsOf e)) (P.cellsOf e) = some cs' ∧ DataW.trod enc P W base sp held m' e cs' = some x':= by
     intro i hi
     have h1:= hall i hi
     rw [List.getElem?_eq_getElem (by omega)] at h1
     obtain ⟨cs',h2,h3⟩:= Option.bind_eq_some_iff.1 h1
     exact ⟨cs',_,h2,h3⟩
    have spot : 0 < len → a.spot = none:= by
     intro hl
     obtain ⟨cs',_,h1,_⟩:= each 0 hl
     obtain ⟨hlen,hget⟩:= cells?_at h1
     have h2:= hget 0 (by omega)
     rw [List.getElem?_eq_getElem (by omega)] at h2
     have:= cell_spot h2
     simpa [Addr.add] using this
    obtain ⟨rows,vs,r1,r2,r3,r4,r5,r6,r7⟩:= open_rows (W:= W) (agg:= b) (row:= row) (b:= a.block) (o:= a.off) hc.2.1 hc.2.2 len (fun i hi => by
     obtain ⟨cs',x',h1,h2⟩:= each i hi
     obtain ⟨hlen,hget⟩:= cells?_at h1
     obtain ⟨xs,i1,i2,i3⟩:= open_cells hcell n m' e row cs' x' hrow h2
     refine ⟨cs',xs,by omega,fun r hr => ?_,i1,i2,i3⟩
     rw [← hget r (by omega),hc.1]
     have hsp:= spot (by omega)
     obtain ⟨ab,ao,asp⟩:= a
     simp only at hsp
     subst hsp
     by_cases hi0 : i * P.cellsOf e = 0
     ·by_cases hr0 : r = 0
      ·subst hr0; simp [Addr.add,hi0]
      ·simp [Addr.add,hi0,hr0]
     ·by_cases hr0 : r = 0
      ·subst hr0; simp [Addr.add,hi0]
      ·simp [Addr.add,hi0,hr0])
    refine ⟨[.sl .none row.length (rows.map (mkRow b))],?_,?_,by simp [Value.oneCell']⟩
    ·simp only [RepL,Rep]
     refine ⟨_,[],rfl,⟨some a,cap,vs,by rw [List.length_map,r1],by rw [List.length_map]; omega,r2,r4,r5,?_⟩,rfl⟩
     intro hne
     have hpos : 0 < len:= by
      rcases Nat.eq_zero_or_pos len with h0 | h0
      ·have : rows = []:= List.eq_nil_of_length_eq_zero (by omega)
       subst this
       exact absurd rfl hne
      ·exact h0
     have hsp:= spot hpos
     refine ⟨a.block,a.off,?_,fun j u hj => ⟨?_,r7 j u hj⟩⟩
     ·obtain ⟨ab,ao,asp⟩:= a
      simp only at hsp
      subst hsp
      rfl
     ·exact cell_lt (r7 j u hj)
    ·simp only [FitL,Fit]
     exact ⟨_,[],rfl,⟨rows,rfl,by omega,r3⟩,rfl⟩
  ·rename_i fs hu
   split at h
   case h_2 => cases h
   rename_i l hl
   split at h
   case isFalse => cases h
   rename_i hlen
   injection h with h
   subst h
   obtain ⟨xs,m',hm',_,hcl,hxl,hf⟩:= DataW.trod_struct hu hx
   have hmm : m' = m:= by omega
   subst hmm
   have:= open_fields (H:= H) (enc:= enc) (P:= P) (W:= W) (base:= base) (sp:= sp) (held:= held) (n:= m') (f:= cellTys P n) (fun t scs cs x h1 h2 => open_cells hcell n m' t scs cs x h1 h2) fs.toList 0 l cs hl (by omega) (by
    intro fd hfd
    obtain ⟨i,hi,e⟩:= List.mem_iff_getElem.1 hfd
    have hi' : fs[i]? = some fd:= by
     rw [← e]
     simp only [Array.length_toList] at hi
     simp [hi]
    have h1:= hf i fd hi'
    rw [List.getElem?_eq_getElem (by have:= (Array.getElem?_eq_some_iff.1 hi').1; omega)] at h1
    exact ⟨_,h1⟩)
   simpa using this
  ·cases h
theorem okWide_flat {r : Reach} {t : TypeId} {v : Value} (h : Value.okWide P W r base t v) (ht : isAggB P t = some false) : v.cells.toList = [v]:= by
 unfold isAggB at ht
 unfold Value.okWide at h
 cases hu : P.underlying t with
 | none => rw [hu] at ht; cases ht
 | some d =>
  cases d <;> simp only [hu,Option.some.injEq,Bool.true_eq_false] at ht h
  all_goals
   unfold Cell.okWide at h
   rw [hu] at h
   cases v <;> first | rfl | (exfalso; simp [Cell.ok,hu] at h)
theorem okWide_agg {r : Reach} {t : TypeId} {v : Value} (h : Value.okWide P W r base t v) (ht : isAggB P t = some true) : ∃ cs : Array Value,v = .agg cs:= by
 unfold isAggB at ht
 unfold Value.okWide at h
 cases hu : P.underlying t with
 | none => rw [hu] at ht; cases ht
 | some d =>
  cases d <;> simp only [hu,Option.some.injEq,Bool.false_eq_true] at ht h
  all_goals (obtain ⟨cs,rfl,_⟩:= h; exact ⟨cs,rfl⟩)
theorem open_arg {r : Reach} {n : Nat} {t : TypeId} {v : Value} {d : DataW H} {p : List MemPlace} {scs : List SC} {b : Bool} (hc : cellTys P n t = some scs) (hb : isAggB P t = some b) (hok : Value.okWide P W r base t v) {base' : Nat}
  (h : DataW.Trod enc P W base' sp held t v d p) : ∃ cs,Rep (R0 W) (mkRow b cs) v ∧ FitL scs cs:= by
 obtain ⟨m,h⟩:= h
 obtain ⟨xs,h1,h2,h3⟩:= open_cells (fun _ _ _ => trivial) n m t scs _ _ hc h
 refine ⟨xs,?_,h2⟩
 cases b with
 | true =>
  obtain ⟨cs,rfl⟩:= okWide_agg hok hb
  have : Rep (R0 W).closed (.agg xs) (.agg cs):= by simp only [Rep]; exact ⟨cs.toList,by simp,h1⟩
  exact this.mono (R0_ext W)
 | false =>
  rw [okWide_flat hok hb] at h1
  match xs,h1 with
  | [],h1 => simp [RepL] at h1
  | x :: xs,h1 =>
   simp only [RepL] at h1
   obtain ⟨w,ws,e,hr,_⟩:= h1
   simp only [List.cons.injEq] at e
   obtain ⟨rfl,_⟩:= e
   exact hr.mono (R0_ext W)
theorem trodAll_stays (hl : laidOutB P = true) {W' : World} (hb : Below W.heap.size W W') {sp' : Nat → Bool} : ∀ {ts : List TypeId} {vs : List Value} {ds : List (DataW H)} {ps : List MemPlace},(∀ t ∈ ts,P.readableRec t = true ∧ t < P.types.size) →
  DataW.TrodAll enc P W 0 (fun _ => true) true ts vs ds ps → (∀ p ∈ ps,p.block < W.heap.size) → (∀ p ∈ ps,sp' p.block = true) → DataW.TrodAll enc P W' 0 sp' true ts vs ds ps
 | [],_,_,_,_,h,_,_ => by
  obtain ⟨rfl,rfl,rfl⟩:= trodAll_nil h
  exact trodAll_mk0
 | t :: ts,_,_,_,ht,h,hlt,hs => by
  obtain ⟨v,vs,d,ds,a,b,rfl,rfl,rfl,h1,h2⟩:= trodAll_cons h
  exact ⟨a,b,WideElems.Trod_stays hl (ht t (by simp)).1 (ht t (by simp)).2 h1 (fun x hx => hb.same (hlt x (by simp [hx]))) (fun x hx => hs x (by simp [hx])),
   trodAll_stays hl hb (fun t' h' => ht t' (by simp [h'])) h2 (fun x hx => hlt x (by simp [hx])) (fun x hx => hs x (by simp [hx])),rfl⟩
theorem post_of_below {f : Func} {s : ChangeSpec} {apart fresh handsOn again : Bool} {W' : World} {args : Array Value} {v : Value} {ds gs : List (DataW H)} {before pa pv : List MemPlace}
  (hW : DataW.Whole enc P f.params.toList s.vars apart W args.toList ds gs before) (hb : Below W.heap.size W W')
  (hres : ∀ (b : Nat) (sp : Nat → Bool) (hd : Bool),DataW.TrodAll enc P W' b sp hd f.resultTypes.toList (v.resultList f.resultTypes.size) (s.fn H (ds ++ gs)).results [])
  (hargs : ∀ sp : Nat → Bool,(∀ p ∈ before,sp p.block = true) → DataW.TrodAll enc P W' 0 sp true f.params.toList args.toList (s.fn H (ds ++ gs)).args pa)
  (hvars : ∀ sp : Nat → Bool,(∀ p ∈ before,sp p.block = true) → DataW.TrodVars enc P W' sp s.vars (s.fn H (ds ++ gs)).vars pv)
  (hps : before = pa ++ pv)
  (hok : ∀ (j : Nat) (t : TypeId) (r : Value),f.resultTypes[j]? = some t → (v.resultList f.resultTypes.size)[j]? = some r → Value.okWide P W' .any 0 t r) :
  s.post enc P f apart fresh handsOn again W args v W':= by
 have hold : ∀ p ∈ before,(fun b => decide (b < W.heap.size)) p.block = true:= fun p hp => by simpa using hW.lt p hp
 refine ⟨ds,gs,before,[],pa,pv,hW,hres _ _ _,hargs _ hold,hvars _ hold,World.keptBut_mono (fun p hp => ⟨hp,?_⟩) (hb.frame (· ∈ before)),fun _ => ?_⟩
 ·rw [hps,List.mem_append] at hp
  exact Or.inr hp
 ·have hlt:= hW.lt
  obtain ⟨_,_,_,_,_,hz,hn⟩:= hW
  refine ⟨hok,_,_,([] ++ pa) ++ pv,⟨[] ++ pa,pv,trodAll_append (hargs _ (fun _ _ => rfl)) (hres _ _ _),hvars _ (fun _ _ => rfl),rfl,?_,?_⟩,?_⟩
  ·intro b off hp
   have hp' : MemPlace.cell b off ∈ before:= by rw [hps]; simpa using hp
   rw [hb.frozen (hlt _ hp')]
   exact hz b off hp'
  ·intro ha
   have:= hn ha
   rw [hps] at this
   simpa using this
  ·intro p hp _
   rw [hps]
   simpa using hp
theorem calls_true {f : FuncId} {fn : Func} {s : ChangeSpec} {apart fresh handsOn again : Bool} {args : Array Value} {ds gs : List (DataW H)} {before : List MemPlace} {xs : List AV} {tb : TypeId}
  (hl : laidOutB P = true) (hp : ∀ t ∈ fn.params.toList,P.readableRec t = true ∧ t < P.types.size) (hres : fn.resultTypes = #[tb]) (htb : P.underlying tb = some .bool) (hvars : s.vars = [])
  (hs : s.fn H ds = { results:= [.lit (.bool true)],args:= ds })
  (hW : DataW.Whole enc P fn.params.toList s.vars apart W args.toList ds gs before) (hg : SentAt W) (hgd : GOK fun g => W.heap[g]?)
  (hAC : AC P f xs (.lit (.bool true))) (hrep : RepL (R0 W) xs args.toList) : Calls P f args W fun e W' => ∃ v,e = .returned v ∧ s.post enc P fn apart fresh handsOn again W args v W':= by
 have hc:= AM.calls hAC (R0 W) args.toList (R0_start W hg hgd) (fun c b h => by cases h) (fun c cs h => by cases h) hrep
 have e : args.toList.toArray = args:= by simp
 rw [e] at hc
 refine hc.mono fun e W' ⟨v,E',he,hw,hr,ha,_⟩ => ⟨v,he,?_⟩
 simp only [Rep] at hr
 subst hr hw
 have hb : Below W.heap.size W E'.w:= ha.below.below fun k ⟨c,hc⟩ => by cases hc
 have hlt:= hW.lt
 obtain ⟨p,q,hA,hV,hpq,hz,hn⟩:= hW
 have hV':= hV
 rw [hvars] at hV'
 have hgq : gs = [] ∧ q = []:= by
  cases gs with
  | nil => exact ⟨rfl,hV'⟩
  | cons g gs => exact (hV' : False).elim
 obtain ⟨rfl,rfl⟩:= hgq
 rw [List.append_nil] at hpq
 subst hpq
 refine post_of_below (pa:= before) (pv:= []) ⟨before,[],hA,hV,by simp,hz,hn⟩ hb (fun b sp hd => ?_) (fun sp hsp => ?_) (fun sp _ => ?_) (by simp) (ok_one hres rfl (okWide_bool_mk htb _))
 ·rw [List.append_nil,hs,hres]
  exact trodAll_mk1 ⟨1,by simp [DataW.trod,htb,Value.cells]⟩
 ·rw [List.append_nil,hs]
  exact trodAll_stays hl hb hp hA hlt hsp
 ·rw [List.append_nil,hs,hvars]
  rfl
def argTys (P : Program) (n : Nat) : List TypeId → Option (List (List SC × Bool))
 | [] => some []
 | t :: ts => match cellTys P n t,isAggB P t,argTys P n ts with
  | some l,some b,some r => some ((l,b) :: r)
  | _,_,_ => none
def ArgsFit : List (List SC × Bool) → List AV → Prop
 | [],xs => xs = []
 | (scs,b) :: ts,xs => ∃ cs r,xs = mkRow b cs :: r ∧ FitL scs cs ∧ ArgsFit ts r
theorem open_args {n : Nat} : ∀ {ts : List TypeId} {tys : List (List SC × Bool)} {vs : List Value} {ds : List (DataW H)} {ps : List MemPlace},argTys P n ts = some tys → DataW.TrodAll enc P W 0 sp held ts vs ds ps →
  (∀ (j : Nat) t v,ts[j]? = some t → vs[j]? = some v → Value.okWide P W .any base t v) → ∃ xs,RepL (R0 W) xs vs ∧ ArgsFit tys xs
 | [],tys,_,_,_,ht,h,_ => by
  obtain ⟨rfl,rfl,rfl⟩:= trodAll_nil h
  simp only [argTys] at ht
  injection ht with ht
  subst ht
  exact ⟨[],by simp [RepL],by simp [ArgsFit]⟩
 | t :: ts,tys,_,_,_,ht,h,hok => by
  obtain ⟨v,vs,d,ds,a,b,rfl,rfl,rfl,h1,h2⟩:= trodAll_cons h
  simp only [argTys] at ht
  split at ht
  case h_2 => cases ht
  rename_i l b r e1 e2 e3
  injection ht with ht
  subst ht
  obtain ⟨cs,g1,g2⟩:= open_arg e1 e2 (hok 0 t v rfl rfl) h1
  obtain ⟨xs,g3,g4⟩:= open_args e3 h2 fun j t v ht hv => hok (j + 1) t v (by simpa using ht) (by simpa using hv)
  exact ⟨mkRow b cs :: xs,by simp only [RepL]; exact ⟨v,vs,rfl,g1,g3⟩,by simp only [ArgsFit]; exact ⟨cs,xs,rfl,g2,g4⟩⟩
def lawOf (P : Program) (fn : Func) (n : Nat) : Bool × Option (List (List SC × Bool)) × Bool :=
 (laidOutB P,argTys P n fn.params.toList,(fn.params.toList.all fun t => P.readableRec t && decide (t < P.types.size)) && (match fn.resultTypes.toList with
  | [t] => (match P.underlying t with
   | some .bool => true
   | _ => false)
  | _ => false))
theorem law_calls {f : FuncId} {fn : Func} {s : ChangeSpec} {apart fresh handsOn again : Bool} {args : Array Value} {ds gs : List (DataW H)} {before : List MemPlace} {n : Nat} {tys : List (List SC × Bool)} (hc : lawOf P fn n = (true,some tys,true)) (hvars : s.vars = [])
  (hs : ∀ ds : List (DataW H),ds.length = tys.length → s.fn H ds = { results:= [.lit (.bool true)],args:= ds })
  (hval : ∀ (j : Nat) t v,fn.params[j]? = some t → args[j]? = some v → Value.okWide P W .any base t v)
  (hW : DataW.Whole enc P fn.params.toList s.vars apart W args.toList ds gs before) (hg : SentAt W) (hgd : GOK fun g => W.heap[g]?)
  (hAC : ∀ xs,ArgsFit tys xs → AC P f xs (.lit (.bool true))) : Calls P f args W fun e W' => ∃ v,e = .returned v ∧ s.post enc P fn apart fresh handsOn again W args v W':= by
 simp only [lawOf,Prod.mk.injEq,Bool.and_eq_true,List.all_eq_true,decide_eq_true_eq] at hc
 obtain ⟨h1,h2,h3,h4⟩:= hc
 obtain ⟨p,q,hA,hV,hpq,hz,hn⟩:= hW
 obtain ⟨xs,hr,hf⟩:= open_args h2 hA fun j t v ht hv => hval j t v (by simpa using ht) (by simpa using hv)
 have hlen : ds.length = tys.length:= by
  have e1:= trods hA
  have e2:= argTys_length h2
  omega
 split at h4
 case h_2 => cases h4
 rename_i tb hrt
 split at h4
 case h_2 => cases h4
 rename_i hb
 exact calls_true h1 h3 (by rw [← Array.toList_inj]; simpa using hrt) hb hvars (hs ds hlen) ⟨p,q,hA,hV,hpq,hz,hn⟩ hg hgd (hAC xs hf) hr
where
 argTys_length : ∀ {ts : List TypeId} {tys : List (List SC × Bool)},argTys P n ts = some tys → tys.length = ts.length
  | [],tys,h => by simp only [argTys] at h; injection h with h; subst h; rfl
  | t :: ts,tys,h => by
   simp only [argTys] at h
   split at h
   case h_2 => cases h
   rename_i e
   injection h with h
   subst h
   simp [argTys_length e]
 trods : ∀ {ts : List TypeId} {vs : List Value} {ds : List (DataW H)} {ps : List MemPlace},DataW.TrodAll enc P W 0 (fun _ => true) true ts vs ds ps → ds.length = ts.length
  | [],_,_,_,h => by
   obtain ⟨rfl,rfl,rfl⟩:= trodAll_nil h
   rfl
  | t :: ts,_,_,_,h => by
   obtain ⟨v,vs,d,ds,a,b,rfl,rfl,rfl,h1,h2⟩:= trodAll_cons h
   simp [trods h2]
end
end Go.Proofs.YtnndbbmidoidpaaGreatDoor.VL
end

section
namespace Go.Proofs.YtnndbbmidoidpaaGreatDoor
open Go.RowKit VL
theorem ownK : ownKnob Tryz.prog.godebug = none:= by kernel_rfl
theorem returns_laid {H : Type} {enc : TypeId × Value → H} {a : Assume} {C : Checked} {os : Os} {f : FuncId} {fn : Func} {s : ChangeSpec} {conds : List PathCond} {apart fresh handsOn again : Bool} {X : World → Array Value → Prop}
  (hX : ∀ (w w' : World) (args : Array Value),w.heap = w'.heap → X w args → X w' args)
  (own : ownKnob C.prog.godebug = none) (started : os.Started) (noInit : C.prog.inits.idxOf? f = none) (hfn : C.prog.funcs[f]? = some fn)
  (witness : ∃ (w : World) (tape : Tape) (i : Input),w.os = os ∧ (w.forCall tape i).Shaped C.prog ∧ i.vars = [] ∧ Input.okWide C.prog (w.forCall tape i) .any w.heap.size f i ∧
   ((s.pre enc C.prog fn conds apart (w.forCall tape i).memory i.args ∧ X (w.forCall tape i).memory i.args) ∧ sizedMet enc C.prog fn (OpenSpec.ofChange s) apart (w.forCall tape i).memory i.args) ∧ a.holds C.prog (lone (Frame.enter C.prog f i.args .normal) [] (w.forCall tape i)))
  (contract : ∀ (W : World) (base : Nat) (args : Array Value) (ds gs : List (DataW H)) (before : List MemPlace),
   (∀ (j : Nat) t v,fn.params[j]? = some t → args[j]? = some v → Value.okWide C.prog W .any base t v) →
   DataW.Whole enc C.prog fn.params.toList s.vars apart W args.toList ds gs before →
   conds.all (PathCond.test C.prog ⟨fn.params.toList,ds,s.plain.varTypes C.prog,gs⟩) = true →
   (DataW.weightsEach C.prog (fn.params.toList ++ s.plain.varTypes C.prog) (ds ++ gs)).all (· ≤ reachBytes) = true → X W args →
   W.ShapedOpen C.prog →
   a.holds C.prog (lone (Frame.enter C.prog f args .normal) [] W) →
   Calls C.prog f args W fun e W' => ∃ v,e = .returned v ∧ s.post enc C.prog fn apart fresh handsOn again W args v W') :
  ReturnsInHanded a C os f .any (fun w args => (s.pre enc C.prog fn conds apart w args ∧ X w args) ∧ sizedMet enc C.prog fn (OpenSpec.ofChange s) apart w args) (s.post enc C.prog fn apart fresh handsOn again):= by
 refine returnsInHanded_of_calls own started noInit witness ?_
 intro w tape i _ hsh _ hok hpre hholds
 obtain ⟨_,_,_,fn',hfn',_,_,_,_,hval⟩:= hok
 have e : fn' = fn:= Option.some.inj (hfn'.symm.trans hfn)
 subst e
 obtain ⟨⟨⟨ds,gs,before,hw,hc⟩,hx⟩,hz⟩:= hpre
 have hw':= DataW.Whole.of_heap (w':= w.forCall tape i) (by rfl) hw
 refine (contract (w.forCall tape i) w.heap.size i.args ds gs before hval hw' hc (hz.weights hw) (hX _ _ _ (by rfl) hx) hsh hholds).mono fun e W' ⟨v,he,hp⟩ => ?_
 subst he
 exact ChangeSpec.post_blind hp
namespace VL
theorem fit_int {k : IntKind} {cs : List AV} (h : FitL [.int k] cs) : ∃ n : Int,(Lit.int k n).wf = true ∧ mkRow false cs = .lit (.int k n):= by
 simp only [FitL,Fit] at h
 obtain ⟨_,_,rfl,⟨n,rfl,hw⟩,rfl⟩:= h
 exact ⟨n,hw,rfl⟩
theorem fit_u32 {cs : List AV} (h : FitL [.int .u32] cs) : ∃ n : Nat,n < 4294967296 ∧ mkRow false cs = .lit (.int .u32 (n : Nat)):= by
 obtain ⟨n,hw,e⟩:= fit_int h
 have hr : 0 ≤ n ∧ n < 4294967296:= by
  simp [Lit.wf,IntKind.min,IntKind.max,IntKind.bits,IntKind.signed] at hw
  omega
 exact ⟨n.toNat,by omega,by rw [e,Int.toNat_of_nonneg hr.1]⟩
theorem fit_rows {α : Type} (f : α → AV) {agg : Bool} {row : List SC} (hf : ∀ cs,FitL row cs → ∃ a,mkRow agg cs = f a) : ∀ rows : List (List AV),(∀ cs ∈ rows,FitL row cs) → ∃ l : List α,rows.map (mkRow agg) = l.map f
 | [],_ => ⟨[],rfl⟩
 | cs :: rows,h => by
  obtain ⟨a,ha⟩:= hf cs (h cs (by simp))
  obtain ⟨l,hl⟩:= fit_rows f hf rows fun c hc => h c (by simp [hc])
  exact ⟨a :: l,by simp [ha,hl]⟩
theorem fit_slice {α : Type} (f : α → AV) {agg : Bool} {row : List SC} {cs : List AV} (hf : ∀ cs,FitL row cs → ∃ a,mkRow agg cs = f a) (h : FitL [.sl agg row] cs) : ∃ l : List α,l.length ≤ maxLen ∧ mkRow false cs = .sl .none row.length (l.map f):= by
 simp only [FitL,Fit] at h
 obtain ⟨_,_,rfl,⟨rows,rfl,hm,hr⟩,rfl⟩:= h
 obtain ⟨l,hl⟩:= fit_rows f hf rows hr
 have hlen : l.length = rows.length:= by have:= congrArg List.length hl; simpa using this.symm
 exact ⟨l,by omega,by simp only [mkRow,List.headD_cons,hl]⟩
theorem fit_rowsP {α : Type} (f : α → AV) (Q : α → Prop) {agg : Bool} {row : List SC} (hf : ∀ cs,FitL row cs → ∃ a,Q a ∧ mkRow agg cs = f a) : ∀ rows : List (List AV),(∀ cs ∈ rows,FitL row cs) → ∃ l : List α,(∀ a ∈ l,Q a) ∧ rows.map (mkRow agg) = l.map f
 | [],_ => ⟨[],by simp,rfl⟩
 | cs :: rows,h => by
  obtain ⟨a,hq,ha⟩:= hf cs (h cs (by simp))
  obtain ⟨l,hql,hl⟩:= fit_rowsP f Q hf rows fun c hc => h c (by simp [hc])
  exact ⟨a :: l,by simpa using ⟨hq,hql⟩,by simp [ha,hl]⟩
theorem fit_sliceP {α : Type} (f : α → AV) (Q : α → Prop) {agg : Bool} {row : List SC} {cs : List AV} (hf : ∀ cs,FitL row cs → ∃ a,Q a ∧ mkRow agg cs = f a) (h : FitL [.sl agg row] cs) : ∃ l : List α,l.length ≤ maxLen ∧ (∀ a ∈ l,Q a) ∧ mkRow false cs = .sl .none row.length (l.map f):= by
 simp only [FitL,Fit] at h
 obtain ⟨_,_,rfl,⟨rows,rfl,hm,hr⟩,rfl⟩:= h
 obtain ⟨l,hq,hl⟩:= fit_rowsP f Q hf rows hr
 have hlen : l.length = rows.length:= by have:= congrArg List.length hl; simpa using this.symm
 exact ⟨l,by omega,hq,by simp only [mkRow,List.headD_cons,hl]⟩
end VL
end Go.Proofs.YtnndbbmidoidpaaGreatDoor
end

section
namespace Go.Proofs.YtnndbbmidoidpaaGreatDoor
open Go.RowKit VL
def isS : String × DataW Unit → Option String
 | (n,.iface nm (.ptr (.agg [.lit (.string _)]))) => if nm = "*errors.errorString" then some n else none
 | _ => none
theorem isS_some {e : String × DataW Unit} {n : String} (h : isS e = some n) : ∃ text,e = (n,.iface "*errors.errorString" (.ptr (.agg [.lit (.string text)]))):= by
 unfold isS at h
 split at h
 ·split at h
  ·rename_i hn
   injection h with h
   subst h hn
   exact ⟨_,rfl⟩
  ·cases h
 ·cases h
theorem row_err (u : TypeId) (h : Tryz.prog.typeName? 3 u = some "*errors.errorString") : u = GT :=
 typeName_ptr_named (nm:= "errors.errorString") (by rw [show "*" ++ "errors.errorString" = "*errors.errorString" by decide]; kernel_rfl) (by kernel_rfl) (by decide) u (by rw [show "*" ++ "errors.errorString" = "*errors.errorString" by decide]; exact h)
def SOK (P : Program) (W : World) (n : String) (a : Addr) : Prop :=
 ∃ g,P.globalNamed n = some g ∧ W.cell? ⟨g,0,none⟩ = some (.iface GT (.pointer (some a))) ∧ ∃ cs ty,W.heap[a.block]? = some (.cells cs ty (0,0))
def SRel (P : Program) (W : World) : List String → List Addr → Prop
 | [],[] => True
 | n :: ns,a :: al => SOK P W n a ∧ SRel P W ns al
 | _,_ => False
theorem srel_get {P : Program} {W : World} : ∀ {ns : List String} {al : List Addr},SRel P W ns al → ∀ (i : Nat) (n : String),ns[i]? = some n → ∃ a,al[i]? = some a ∧ SOK P W n a
 | [],_,_,i,n,h => by simp at h
 | _ :: _,[],h,_,_,_ => by simp [SRel] at h
 | m :: ns,a :: al,h,0,n,hn => by
  simp only [List.getElem?_cons_zero,Option.some.injEq] at hn
  subst hn
  exact ⟨a,rfl,h.1⟩
 | m :: ns,a :: al,h,i + 1,n,hn => by
  simp only [List.getElem?_cons_succ] at hn ⊢
  exact srel_get h.2 i n hn
noncomputable def entB (P : Program) (e : String × DataW Unit) : Bool:= match isS e with
 | some n => (match P.globalNamed n with
  | some g => decide ((P.globals[g]?).map (·.type) = some 37)
  | none => false)
 | none => true
theorem laid_sents {P : Program} {te ts : TypeId} {ms : Array (String × TypeId)} {f : Field} (hi : P.underlying 37 = some (.interface ms)) (hrow : ∀ u,P.typeName? 3 u = some "*errors.errorString" → u = GT) (hp : P.underlying GT = some (.pointer te))
  (he : P.underlying te = some (.struct #[f])) (hft : f.type = ts) (hfo : f.offset = 0) (hs' : P.underlying ts = some .string) (hc : P.cellsOf te = 1) (hcs : P.cellsOf ts = 1) {W : World} : ∀ (L : List (String × DataW Unit)) (ps : List MemPlace),DataW.LaidVars P W L ps → ps.Nodup →
  (∀ b off,MemPlace.cell b off ∈ ps → (∃ c t,W.heap[b]? = some (.cells c t (0,0))) ∧ ∀ u v,W.cell? ⟨b,off,none⟩ = some (.iface u v) → Value.okWide P W .any 0 u v) →
  L.all (entB P) = true →
  ∃ al,SRel P W (L.filterMap isS) al ∧ al.Nodup ∧ ∀ a ∈ al,MemPlace.cell a.block a.off ∈ ps
 | [],ps,h,_,_,_ => ⟨[],by simp [SRel],List.nodup_nil,fun a ha => by cases ha⟩
 | e :: r,ps,h,hnd,hrows,hty => by
  obtain ⟨n,d⟩:= e
  obtain ⟨g,t,cs,fuel,p,q,hg,ht,hv,hd,hq,rfl⟩:= h
  simp only [List.all_cons,Bool.and_eq_true] at hty
  have hndq : q.Nodup:= List.Nodup.sublist (List.sublist_append_right _ _) hnd
  obtain ⟨al,h1,h2,h3⟩:= laid_sents hi hrow hp he hft hfo hs' hc hcs r q hq hndq (fun b off hm => hrows b off (List.mem_append_right _ hm)) hty.2
  cases hs : isS (n,d) with
  | none =>
   refine ⟨al,?_,h2,fun a ha => List.mem_append_right _ (h3 a ha)⟩
   rw [List.filterMap_cons,hs]
   exact h1
  | some m =>
   obtain ⟨text,hE⟩:= isS_some hs
   injection hE with hE1 hE2
   subst hE1 hE2
   have hti:= hty.1
   simp only [entB,hs,hg,decide_eq_true_eq] at hti
   obtain rfl:= Option.some.inj (hti.symm.trans ht)
   obtain ⟨l0⟩:= cs
   have ok0 : ∀ u v,l0 = [.iface u v] → Value.okWide P W .any 0 u v:= fun u v e => by
    subst e
    exact (hrows g 0 (by simp [MemPlace.row])).2 u v (by simpa using World.var?_cell hg hv 0)
   obtain ⟨a0,s0,rfl,hc0,hs0,hz0,rfl⟩:= errorString_of_trod hi hrow hp he hft hfo hs' hc hcs hd ok0
   have hcell : W.cell? ⟨g,0,none⟩ = some (.iface GT (.pointer (some a0))):= by simpa using World.var?_cell hg hv 0
   have hm0 : MemPlace.cell a0.block a0.off ∈ MemPlace.row a0 1:= by simp [MemPlace.row]
   refine ⟨a0 :: al,?_,?_,?_⟩
   ·rw [List.filterMap_cons,hs]
    exact ⟨⟨g,hg,hcell,(hrows a0.block a0.off (List.mem_append_left _ (List.mem_append_right _ hm0))).1⟩,h1⟩
   ·rw [List.nodup_cons]
    refine ⟨fun hmem => ?_,h2⟩
    have hq0:= h3 a0 hmem
    have:= (List.nodup_append.1 hnd).2.2 _ (List.mem_append_right _ hm0) _ hq0
    exact this rfl
   ·intro a ha
    rcases List.mem_cons.1 ha with rfl | ha
    ·exact List.mem_append_left _ (List.mem_append_right _ hm0)
    ·exact List.mem_append_right _ (h3 a ha)
theorem cellsE : Tryz.prog.cellsOf 299 = 1:= by kernel_rfl
theorem cellsS : Tryz.prog.cellsOf 9 = 1:= by kernel_rfl
noncomputable def sentB (L : List (String × DataW Unit)) : Bool :=
 L.all (entB Tryz.prog) && (GS.all fun g => (L.filterMap isS).any fun n => decide (Tryz.prog.globalNamed n = some g))
theorem sentAt_of {W : World} {L : List (String × DataW Unit)} (h : laidMet Tryz.prog L W) (hb : sentB L = true) : SentAt W:= by
 obtain ⟨ps,hv,hnd,hrows⟩:= h
 simp only [sentB,Bool.and_eq_true] at hb
 obtain ⟨al,h1,h2,_⟩:= laid_sents Tryz.underlying37 row_err Tryz.underlying297 Tryz.underlying299 rfl rfl Tryz.underlying9 cellsE cellsS L ps hv hnd hrows hb.1
 have key : ∀ g ∈ GS,∃ (i : Nat) (a : Addr),al[i]? = some a ∧ (L.filterMap isS)[i]?.bind Tryz.prog.globalNamed = some g ∧ W.cell? ⟨g,0,none⟩ = some (.iface GT (.pointer (some a))) ∧ ∃ cs ty,W.heap[a.block]? = some (.cells cs ty (0,0)):= by
  intro g hg
  have h3:= List.all_eq_true.1 hb.2 g hg
  obtain ⟨n,hn,h4⟩:= List.any_eq_true.1 h3
  have h4 : Tryz.prog.globalNamed n = some g:= by simpa using h4
  obtain ⟨i,hi⟩:= List.getElem?_of_mem hn
  obtain ⟨a,ha,g',hg',hc,hh⟩:= srel_get h1 i n hi
  obtain rfl : g' = g:= Option.some.inj (hg'.symm.trans h4)
  exact ⟨i,a,ha,by rw [hi]; exact h4,hc,hh⟩
 refine ⟨fun g hg => ?_,fun g hg k hk a t u e1 e2 => ?_⟩
 ·obtain ⟨i,a,_,_,hc,cs,ty,hh⟩:= key g hg
  exact ⟨a,cs,ty,hc,hh⟩
 ·obtain ⟨i,a1,ha1,hi,hc1,_⟩:= key g hg
  obtain ⟨j,a2,ha2,hj,hc2,_⟩:= key k hk
  rw [hc1] at e1
  rw [hc2] at e2
  injection e1 with e1
  injection e1 with _ e1
  injection e1 with e1
  injection e1 with e1
  injection e2 with e2
  injection e2 with _ e2
  injection e2 with e2
  injection e2 with e2
  subst e1 e2
  have hi1:= (List.getElem?_eq_some_iff.1 ha1).1
  have hij : i = j:= (List.getElem?_inj hi1 h2).1 (ha1.trans ha2.symm)
  subst hij
  exact Option.some.inj (hi.symm.trans hj)
end Go.Proofs.YtnndbbmidoidpaaGreatDoor
end

section
namespace Go.Proofs.YtnndbbmidoidpaaGreatDoor
open Go.RowKit VL
theorem gokN (c : Nat → Option Obj) : GOK c :=
 ⟨fun q hq => (by cases hq),fun g hg => (by cases hg),fun g hg => (by cases hg)⟩
end Go.Proofs.YtnndbbmidoidpaaGreatDoor
end

section
namespace Go.Proofs.YtnndbbmidoidpaaGreatDoor
open Go.RowKit VL
theorem fact_out : laidOutB Tryz.prog = true:= by kernel_rfl
theorem fact_rowed : mapsRowed Tryz.prog = true:= by kernel_rfl
theorem fact_stops : (Tryz.prog.stops == []) = true:= by kernel_rfl
theorem fact_knobs : (Tryz.prog.stopKnobs == []) = true:= by kernel_rfl
theorem fact_heard : Tryz.prog.stopsHeard = true:= by kernel_rfl
theorem fact_enter : Tryz.prog.mayEnter = true:= by kernel_rfl
theorem and_mk {a b : Bool} (h1 : a = true) (h2 : b = true) : (a && b) = true:= by rw [h1,h2]; rfl
theorem joined_mk {P : Program} {f : FuncId} {fn : Func} {s : ChangeSpec} {c : OpenClaim}
  (a1 : c.wf (OpenSpec.ofChange s) = true) (a2 : laidOutB P = true) (a3 : mapsRowed P = true) (a4 : fn.params.all (P.readableRec ·) = true) (a5 : namedTie P c.named s.vars = true)
  (b1 : (c.stops == []) = true) (b2 : (P.stops == []) = true) (b3 : (c.knobs == []) = true) (b4 : (P.stopKnobs == []) = true)
  (c1 : (c.inPlace == P.inPlace f) = true) (c2 : (c.unfollowed == P.unfollowed f) = true) (c3 : (c.recurses == P.recurses f) = true) (c4 : (c.named == P.varsNamed f) = true)
  (d1 : (c.maps == (fn.params.toList ++ s.plain.varTypes P).any (P.mapsRec ·)) = true) (d2 : (c.ifaces == (fn.params.toList ++ s.plain.varTypes P).any (P.ifacesRec ·)) = true) (d3 : (c.mapsOut == P.mapsAmong fn.resultTypes.toList) = true)
  (d4 : (c.loops == (fn.params.toList ++ s.plain.varTypes P).any (P.loopsFrom ·)) = true) (d5 : (c.wideKeys == (fn.params.toList ++ s.plain.varTypes P ++ fn.resultTypes.toList).any (P.wideKeysFrom ·)) = true)
  (e1 : s.vars.all (P.varReadable ·) = true) (e2 : fn.resultTypes.all (fun t => P.readableRec t && decide (t < P.types.size)) = true) (e3 : (c.ifacesOut == fn.resultTypes.toList.any (P.ifacesRec ·)) = true) (e4 : (c.loopsOut == fn.resultTypes.toList.any (P.loopsFrom ·)) = true) (e5 : (c.plainKeys == P.plainKeys) = true) (e6 : c.shortTexts.isNone = true)
  (g1 : P.stopsHeard = true) (g2 : P.mayEnter = true) (g3 : (c.lifted == P.liftsFinal) = true) (g4 : (P.make == some c.make) = true) (g5 : (c.kinds == (if c.domain.isEmpty then [] else fn.params.toList.map fun t => match P.underlying t with | some (.int k) => some k | _ => none)) = true) (g6 : (c.pinned == c.pinnedBy) = true)
  (i1 : (c.veiled == (fn.params.toList ++ s.plain.varTypes P ++ fn.resultTypes.toList).any (P.veiledRec ·)) = true) (i2 : c.veiledFits P fn.params.toList (fn.params.toList ++ s.plain.varTypes P ++ fn.resultTypes.toList) = true) : joinedFacts P f fn s c = true:= by
 unfold joinedFacts
 exact (and_mk (and_mk (and_mk (and_mk (and_mk (and_mk (and_mk (and_mk (and_mk (and_mk (and_mk (and_mk (and_mk (and_mk (and_mk (and_mk (and_mk (and_mk (and_mk (and_mk (and_mk (and_mk (and_mk (and_mk (and_mk (and_mk (and_mk (and_mk (and_mk (and_mk (and_mk a1 a2) a3) a4) a5) b1) b2) b3) b4) c1) c2) c3) c4) d1) d2) d3) d4) d5) e1) e2) e3) e4) e5) e6) g1) g2) g3) g4) g5) g6) i1) i2)
end Go.Proofs.YtnndbbmidoidpaaGreatDoor
end

section
namespace Go.Proofs.YtnndbbmidoidpaaGreatDoor.VL
open Go.RowKit Go.Proofs
section
variable (t : TypeId) (k k' : IntKind) (u v : Int)
@[go_sem] theorem avBin_and : avBin .and t (.lit (.int k u)) (.lit (.int k v)) = some (.lit (.int k (bits .and k u v))):= by simp [avBin,binOp,intBits_and,p0,Pure.pure]
@[go_sem] theorem avBin_or : avBin .or t (.lit (.int k u)) (.lit (.int k v)) = some (.lit (.int k (bits .or k u v))):= by simp [avBin,binOp,intBits_or,p0,Pure.pure]
@[go_sem] theorem avBin_xor : avBin .xor t (.lit (.int k u)) (.lit (.int k v)) = some (.lit (.int k (bits .xor k u v))):= by simp [avBin,binOp,intBits_xor,p0,Pure.pure]
@[go_sem] theorem avBin_andNot : avBin .andNot t (.lit (.int k u)) (.lit (.int k v)) = some (.lit (.int k (bits .andNot k u v))):= by simp [avBin,binOp,intBits_andNot,p0,Pure.pure]
theorem avBin_shr (h0 : 0 ≤ v) (h1 : v ≤ k.bits) : avBin .shr t (.lit (.int k u)) (.lit (.int k' v)) = some (.lit (.int k (u / 2 ^ v.toNat))):= by simp [avBin,binOp,shift_shr k k' u v h0 h1,p0,Pure.pure]
theorem avBin_shl (h0 : 0 ≤ v) (h1 : v ≤ k.bits) : avBin .shl t (.lit (.int k u)) (.lit (.int k' v)) = some (.lit (.int k (k.wrap (u * 2 ^ v.toNat)))):= by simp [avBin,binOp,shift_shl k k' u v h0 h1,p0,Pure.pure]
@[go_sem] theorem avUn_xor : avUn .xor (.lit (.int k u)) = some (.lit (.int k (bits .xor k (if k.signed then -1 else k.max) u))):= by simp [avUn,Op.unary,intBits_xor,p0,Pure.pure]
end
theorem avMm_min2 (k : IntKind) (a b : Int) : avMm false [.lit (.int k a),.lit (.int k b)] = some (.lit (.int k (if b < a then b else a))):= by
 simp [avMm,aval.litOf,Builtin.min_,Builtin.min2,p0,Pure.pure,Bind.bind,Sem.bind]
theorem avMm_max2 (k : IntKind) (a b : Int) : avMm true [.lit (.int k a),.lit (.int k b)] = some (.lit (.int k (if a < b then b else a))):= by
 simp [avMm,aval.litOf,Builtin.max_,Builtin.max2,p0,Pure.pure,Bind.bind,Sem.bind]
end Go.Proofs.YtnndbbmidoidpaaGreatDoor.VL
end

section
namespace Go.Proofs.YtnndbbmidoidpaaGreatDoor.VL
open Go.RowKit Go.Proofs
theorem xor_max (x : Nat) (hx : x < 4294967296) : 4294967295 ^^^ x = 4294967295 - x:= by
 apply Nat.eq_of_testBit_eq
 intro i
 have e : 4294967295 - x = 2 ^ 32 - (x + 1):= by omega
 rw [e,Nat.testBit_two_pow_sub_succ (by simpa using hx),Nat.testBit_xor,show (4294967295 : Nat) = 2 ^ 32 - 1 from rfl,Nat.testBit_two_pow_sub_one]
 by_cases hi : i < 32
 ·simp [hi]
 ·have : x.testBit i = false:= Nat.testBit_lt_two_pow (Nat.lt_of_lt_of_le (show x < 2 ^ 32 from hx) (Nat.pow_le_pow_right (by decide) (by omega)))
  simp [hi,this]
theorem pow32_le (k : Nat) (hk : k ≤ 32) : 1 ≤ 2 ^ k ∧ 2 ^ k ≤ 4294967296:= ⟨Nat.one_le_two_pow,Nat.pow_le_pow_right (by decide) hk⟩
theorem and_high (a k : Nat) (ha : a < 4294967296) (hk : k ≤ 32) : a &&& (4294967296 - 2 ^ k) = a - a % 2 ^ k:= by
 have hp:= pow32_le k hk
 have e : a - a % 2 ^ k = (a >>> k) <<< k:= by
  rw [Nat.shiftRight_eq_div_pow,Nat.shiftLeft_eq]
  have:= Nat.div_add_mod a (2 ^ k)
  rw [Nat.mul_comm]
  omega
 rw [e]
 apply Nat.eq_of_testBit_eq
 intro i
 have e2 : 4294967296 - 2 ^ k = 2 ^ 32 - ((2 ^ k - 1) + 1):= by omega
 rw [e2,Nat.testBit_and,Nat.testBit_two_pow_sub_succ (show 2 ^ k - 1 < 2 ^ 32 by omega),Nat.testBit_two_pow_sub_one,Nat.testBit_shiftLeft,Nat.testBit_shiftRight]
 by_cases hi : i < 32
 ·by_cases hki : k ≤ i
  ·have : k + (i - k) = i:= by omega
   simp [hi,hki,this]
  ·simp [hi,hki,Nat.lt_of_not_le hki]
 ·have : a.testBit i = false:= Nat.testBit_lt_two_pow (Nat.lt_of_lt_of_le (show a < 2 ^ 32 from ha) (Nat.pow_le_pow_right (by decide) (by omega)))
  have hki : k ≤ i:= by omega
  have e3 : k + (i - k) = i:= by omega
  simp [hi,hki,this,e3]
def mskN (n : Nat) : Nat:= 4294967296 - 2 ^ (32 - n)
theorem mskN_lt (n : Nat) : mskN n < 4294967296:= by
 have:= Nat.one_le_two_pow (n:= 32 - n)
 unfold mskN
 omega
theorem u32_msk (a n : Nat) (ha : a < 4294967296) : bits .and .u32 (a : Int) (mskN n : Nat) = ((a - a % 2 ^ (32 - n) : Nat) : Int):= by
 rw [u32_and_nat a (mskN n) ha (mskN_lt n),mskN,and_high a _ ha (by omega)]
theorem u32_nmsk (a n : Nat) (ha : a < 4294967296) : bits .andNot .u32 (a : Int) (mskN n : Nat) = ((a % 2 ^ (32 - n) : Nat) : Int):= by
 rw [u32_andNot_nat a (mskN n) ha (mskN_lt n)]
 have hp:= pow32_le (32 - n) (by omega)
 have e : 4294967295 - mskN n = 2 ^ (32 - n) - 1:= by unfold mskN; omega
 rw [e,Nat.and_two_pow_sub_one_eq_mod]
end Go.Proofs.YtnndbbmidoidpaaGreatDoor.VL
end

