import Derived.Test.YtnndbbmidoidpaaGreatDoorGa5
set_option linter.unusedVariables false
set_option linter.unusedSimpArgs false
section
namespace Go.Proofs.YtnndbbmidoidpaaGreatDoor.VL
open Go.RowKit
def condX (v : AV) (P : Program) (a b : ACode) (E : Env) (Q : AExit → Env → Prop) : Prop:= ∃ t,v = .lit (.bool t) ∧ (t = true → aw P a E Q) ∧ (t = false → aw P b E Q)
@[congr] theorem condX_congr {v v' : AV} {P : Program} {a b : ACode} {E : Env} {Q : AExit → Env → Prop} (h : v = v') : condX v P a b E Q = condX v' P a b E Q:= by rw [h]
@[go_sem] theorem condX_t (P : Program) (a b : ACode) (E : Env) (Q : AExit → Env → Prop) : condX (.lit (.bool true)) P a b E Q = aw P a E Q:= by simp [condX]
@[go_sem] theorem condX_f (P : Program) (a b : ACode) (E : Env) (Q : AExit → Env → Prop) : condX (.lit (.bool false)) P a b E Q = aw P b E Q:= by simp [condX]
theorem condX_of {t : Bool} {P : Program} {a b : ACode} {E : Env} {Q : AExit → Env → Prop} (h1 : t = true → aw P a E Q) (h2 : t = false → aw P b E Q) : condX (.lit (.bool t)) P a b E Q:= ⟨t,rfl,h1,h2⟩
def awX (D : Bool) (P : Program) (l : List AOper) (E : Env) (K : Env → Prop) : Prop:= if D then awOpsD P l E K else awOps P l E K
@[congr] theorem awX_congr {D : Bool} {P : Program} {l : List AOper} {E E' : Env} {K : Env → Prop} (h : E = E') : awX D P l E K = awX D P l E' K:= by rw [h]
@[congr] theorem aw_congr {P : Program} {a : ACode} {E E' : Env} {Q : AExit → Env → Prop} (h : E = E') : aw P a E Q = aw P a E' Q:= by rw [h]
@[congr] theorem thenQ_congr {K : Env → Prop} {Q : AExit → Env → Prop} {x : AExit} {E E' : Env} (h : E = E') : thenQ K Q x E = thenQ K Q x E':= by rw [h]
@[congr] theorem blockQ_congr {i : Nat} {kl : List Nat} {Q : AExit → Env → Prop} {x : AExit} {E E' : Env} (h : E = E') : blockQ i kl Q x E = blockQ i kl Q x E':= by rw [h]
def bindV (o : Option AV) (D : Bool) (P : Program) (os : List AOper) (d : Nat) (s : List (Nat × AV)) (c : List (Nat × List AV)) (K : Env → Prop) : Prop:= match o with
 | some x => awX D P os (mkE (putA s d x) c) K
 | none => False
@[go_sem] theorem bindV_some (x : AV) (D : Bool) (P : Program) (os : List AOper) (d : Nat) (s : List (Nat × AV)) (c : List (Nat × List AV)) (K : Env → Prop) : bindV (some x) D P os d s c K = awX D P os (mkE (putA s d x) c) K:= rfl
def bindE (o : Option Env) (D : Bool) (P : Program) (os : List AOper) (K : Env → Prop) : Prop:= match o with
 | some E => awX D P os E K
 | none => False
@[go_sem] theorem bindE_some (E : Env) (D : Bool) (P : Program) (os : List AOper) (K : Env → Prop) : bindE (some E) D P os K = awX D P os E K:= rfl
def bindC (o : Option (List (Nat × List AV))) (D : Bool) (P : Program) (os : List AOper) (s : List (Nat × AV)) (K : Env → Prop) : Prop:= match o with
 | some c => awX D P os (mkE s c) K
 | none => False
@[go_sem] theorem bindC_some (c : List (Nat × List AV)) (D : Bool) (P : Program) (os : List AOper) (s : List (Nat × AV)) (K : Env → Prop) : bindC (some c) D P os s K = awX D P os (mkE s c) K:= rfl
def guardX (v : AV) (want D : Bool) (P : Program) (dst : Option Nat) (op : AOp) (os : List AOper) (s : List (Nat × AV)) (c : List (Nat × List AV)) (K : Env → Prop) : Prop :=
 ∃ t,v = .lit t ∧ (t = .bool want → awX D P (⟨dst,op,none⟩ :: os) (mkE s c) K) ∧ (t ≠ .bool want → awX D P os ((mkE s c).putO dst (.lit undef)) K)
section
variable (D : Bool) (P : Program) (dst : Option Nat) (op : AOp) (os : List AOper) (s : List (Nat × AV)) (c : List (Nat × List AV)) (K : Env → Prop)
@[go_sem] theorem guardX_tt : guardX (.lit (.bool true)) true D P dst op os s c K = awX D P (⟨dst,op,none⟩ :: os) (mkE s c) K:= by simp [guardX]
@[go_sem] theorem guardX_ff : guardX (.lit (.bool false)) false D P dst op os s c K = awX D P (⟨dst,op,none⟩ :: os) (mkE s c) K:= by simp [guardX]
@[go_sem] theorem guardX_tf : guardX (.lit (.bool true)) false D P dst op os s c K = awX D P os ((mkE s c).putO dst (.lit undef)) K:= by simp [guardX]
@[go_sem] theorem guardX_ft : guardX (.lit (.bool false)) true D P dst op os s c K = awX D P os ((mkE s c).putO dst (.lit undef)) K:= by simp [guardX]
@[go_sem] theorem guardX_un (want : Bool) : guardX (.lit undef) want D P dst op os s c K = awX D P os ((mkE s c).putO dst (.lit undef)) K:= by simp [guardX,undef]
end
section
variable (D : Bool) (P : Program) (dst : Option Nat) (op : AOp) (os : List AOper) (s : List (Nat × AV)) (c : List (Nat × List AV)) (K : Env → Prop)
def callX (f : FuncId) (raw : List AV) (args : Option (List AV)) : Prop := (∃ as r, args = some as ∧ AC P f as r ∧ awX D P os ((mkE s c).putO dst (retag (dst.getD 0) r)) K) ∨
  (D = false ∧ ∃ m as c0 r c1, mOK m = true ∧ mapO (lowerM m (getC c) 8) raw = some as ∧ lentC m (getC c) = some c0 ∧ AM P f as c0 r c1 ∧ awX D P os ((backC m c1 (mkE s c)).putO dst (retag (dst.getD 0) (unlend m r))) K)
theorem callX_of {D : Bool} {P : Program} {dst : Option Nat} {os : List AOper} {s : List (Nat × AV)} {c : List (Nat × List AV)} {K : Env → Prop} {f : FuncId} {raw as : List AV} {r : AV} (h : AC P f as r)
    (hk : awX D P os ((mkE s c).putO dst (retag (dst.getD 0) r)) K) : callX D P dst os s c K f raw (some as) := .inl ⟨as, r, rfl, h, hk⟩
theorem callM_of {P : Program} {dst : Option Nat} {os : List AOper} {s : List (Nat × AV)} {c : List (Nat × List AV)} {K : Env → Prop} {f : FuncId} {raw as : List AV} {args : Option (List AV)} {r : AV} (m : List (Nat × Nat)) {c0 c1 : List (Nat × List AV)} (hm : mOK m = true) (hl : mapO (lowerM m (getC c) 8) raw = some as) (hc : lentC m (getC c) = some c0) (h : AM P f as c0 r c1)
    (hk : awX false P os ((backC m c1 (mkE s c)).putO dst (retag (dst.getD 0) (unlend m r))) K) : callX false P dst os s c K f raw args := .inr ⟨rfl, m, as, c0, r, c1, hm, hl, hc, h, hk⟩
def callFX (g : AV) (args : List AV) : Prop:= ∃ f fst caps,g = .clo (.func f) fst caps ∧ callX D P dst os s c K f (fst ++ args ++ caps) (mapO (lower (getC c) 8) (fst ++ args ++ caps))
@[go_sem] theorem callFX_clo (f : FuncId) (fst caps args : List AV) : callFX D P dst os s c K (.clo (.func f) fst caps) args = callX D P dst os s c K f (fst ++ args ++ caps) (mapO (lower (getC c) 8) (fst ++ args ++ caps)):= by
 apply propext
 constructor
 ·rintro ⟨f',p,q,h,h1⟩
  injection h with h4 h5 h6
  injection h4 with h4
  subst h4 h5 h6
  exact h1
 ·intro h1
  exact ⟨f,fst,caps,rfl,h1⟩
end
section
variable {P : Program} {E : Env} {Q : AExit → Env → Prop} {K : Env → Prop} {D : Bool} {s : List (Nat × AV)} {c : List (Nat × List AV)}
@[go_sem] theorem aw_skip : aw P .skip (mkE s c) Q = Q .normal (mkE s c):= rfl
@[go_sem] theorem aw_ret : aw P .ret (mkE s c) Q = Q .ret (mkE s c):= rfl
@[go_sem] theorem aw_exit (i : Nat) : aw P (.exit i) (mkE s c) Q = Q (.exit i) (mkE s c):= rfl
@[go_sem] theorem aw_seq (a b : ACode) : aw P (.seq a b) (mkE s c) Q = aw P a (mkE s c) (thenQ (fun E' => aw P b E' Q) Q):= rfl
@[go_sem] theorem aw_cond (x : Operand) (a b : ACode) : aw P (.cond x a b) (mkE s c) Q = condX ((mkE s c).ev x) P a b (mkE s c) Q:= rfl
@[go_sem] theorem aw_block (i : Nat) (a : ACode) (kl : List Nat) : aw P (.block i a kl) (mkE s c) Q = aw P a (mkE s c) (blockQ i kl Q):= rfl
@[go_sem] theorem aw_regD (ops : List AOper) (kl : List Nat) : aw P (.region true ops kl) (mkE s c) Q = awX true P ops ((mkE s c).freshL (allocs ops)) fun E' => Q .normal (E'.dropS kl):= rfl
@[go_sem] theorem aw_regT (ops : List AOper) (kl : List Nat) : aw P (.region false ops kl) (mkE s c) Q = awX false P ops (mkE s c) fun E' => Q .normal (E'.dropS kl):= rfl
theorem aw_loop {a : ACode} {kl dl : List Nat} (I : Nat → Env → Prop) (n : Nat) (h0 : I n ((E.dropS kl).freshL dl)) (h : ∀ m E',I m E' → aw P a E' (thenQ (fun E'' => ∃ k,k < m ∧ I k ((E''.dropS kl).freshL dl)) Q)) : aw P (.loop a kl dl) E Q:= ⟨I,n,h0,h⟩
@[go_sem] theorem thenQ_n (K : Env → Prop) : thenQ K Q .normal E = K E:= rfl
@[go_sem] theorem thenQ_r (K : Env → Prop) : thenQ K Q .ret E = Q .ret E:= rfl
@[go_sem] theorem thenQ_e (K : Env → Prop) (i : Nat) : thenQ K Q (.exit i) E = Q (.exit i) E:= rfl
@[go_sem] theorem blockQ_n (i : Nat) (kl : List Nat) : blockQ i kl Q .normal E = Q .normal (E.dropS kl):= rfl
@[go_sem] theorem blockQ_r (i : Nat) (kl : List Nat) : blockQ i kl Q .ret E = Q .ret E:= rfl
@[go_sem] theorem blockQ_e (i j : Nat) (kl : List Nat) : blockQ i kl Q (.exit j) E = if j = i then Q .normal (E.dropS kl) else Q (.exit j) E:= rfl
@[go_sem] theorem endQ_n (v : List RV) (r : AV) : endQ v r .normal E = (retR E v = some r):= rfl
@[go_sem] theorem endQ_r (v : List RV) (r : AV) : endQ v r .ret E = (retR E v = some r):= rfl
@[go_sem] theorem endQ_e (v : List RV) (r : AV) (i : Nat) : endQ v r (.exit i) E = False:= rfl
theorem awX_f (o : AOper) (os : List AOper) : awX false P (o :: os) E K = awG P o E fun E' => awX false P os E' K:= by
 show awOps P (o :: os) E K = _
 rw [awOps_cons]
 rfl
theorem awX_t (o : AOper) (os : List AOper) : awX true P (o :: os) E K = (clean o E ∧ awG P o E fun E' => awX true P os E' K):= rfl
@[go_sem] theorem awX_nil : awX D P [] E K = K E:= by cases D <;> rfl
def evA (s : List (Nat × AV)) : Operand → AV
 | .tmp t => getA s t
 | .const v => ofVal v
 | .global g => .gp g
 | .func f => .clo (.func f) [] []
@[go_sem] theorem evA_tmp (s : List (Nat × AV)) (t : Nat) : evA s (.tmp t) = getA s t:= rfl
@[go_sem] theorem evA_const (s : List (Nat × AV)) (v : Value) : evA s (.const v) = ofVal v:= rfl
@[go_sem] theorem evA_global (s : List (Nat × AV)) (g : Nat) : evA s (.global g) = .gp g:= rfl
@[go_sem] theorem evA_func (s : List (Nat × AV)) (f : Nat) : evA s (.func f) = .clo (.func f) [] []:= rfl
theorem mkE_ev0 (s : List (Nat × AV)) (c : List (Nat × List AV)) : (mkE s c).ev = evA s:= by funext o; cases o <;> rfl
@[go_sem] theorem mkE_ev (s : List (Nat × AV)) (c : List (Nat × List AV)) (o : Operand) : (mkE s c).ev o = evA s o:= by rw [mkE_ev0]
@[go_sem] theorem mkE_dropS' (s : List (Nat × AV)) (c : List (Nat × List AV)) (kl : List Nat) : (mkE s c).dropS kl = mkE (dropL kl s) c:= mkE_dropS s c kl
@[go_sem] theorem freshL_nil (s : List (Nat × AV)) (c : List (Nat × List AV)) : (mkE s c).freshL [] = mkE s c:= rfl
def frE (d : Nat) (s : List (Nat × AV)) (c : List (Nat × List AV)) : Option (List AV) → Env
 | none => mkE s c
 | some _ => mkE (mapV (kill d) s) (mapV (killL d) (dropL [d] c))
@[go_sem] theorem frE_none (d : Nat) (s : List (Nat × AV)) (c : List (Nat × List AV)) : frE d s c none = mkE s c:= rfl
@[go_sem] theorem frE_some (d : Nat) (s : List (Nat × AV)) (c : List (Nat × List AV)) (x : List AV) : frE d s c (some x) = mkE (mapV (kill d) s) (mapV (killL d) (dropL [d] c)):= rfl
theorem fresh_frE (s : List (Nat × AV)) (c : List (Nat × List AV)) (d : Nat) : (mkE s c).fresh d = frE d s c (getC c d):= by
 rw [mkE_fresh]
 cases getC c d <;> rfl
@[go_sem] theorem freshL_cons (s : List (Nat × AV)) (c : List (Nat × List AV)) (d : Nat) (ds : List Nat) : (mkE s c).freshL (d :: ds) = (frE d s c (getC c d)).freshL ds:= by
 show ((mkE s c).fresh d).freshL ds = _
 rw [fresh_frE]
@[go_sem] theorem getA_nil (k : Nat) : getA [] k = .dead:= rfl
@[go_sem] theorem getA_cons (j : Nat) (x : AV) (r : List (Nat × AV)) (k : Nat) : getA ((j,x) :: r) k = if k = j then x else getA r k:= rfl
@[go_sem] theorem getC_nil (k : Nat) : getC [] k = none:= rfl
@[go_sem] theorem getC_cons (j : Nat) (x : List AV) (r : List (Nat × List AV)) (k : Nat) : getC ((j,x) :: r) k = if k = j then some x else getC r k:= rfl
@[go_sem] theorem putA_nil {α : Type} (k : Nat) (x : α) : putA [] k x = [(k,x)]:= rfl
@[go_sem] theorem putA_cons {α : Type} (j : Nat) (y : α) (r : List (Nat × α)) (k : Nat) (x : α) : putA ((j,y) :: r) k x = if k < j then (k,x) :: (j,y) :: r else if k = j then (k,x) :: r else (j,y) :: putA r k x:= rfl
@[go_sem] theorem dropL_nil {α : Type} (kl : List Nat) : dropL (α:= α) kl [] = []:= rfl
@[go_sem] theorem dropL_cons {α : Type} (kl : List Nat) (j : Nat) (x : α) (r : List (Nat × α)) : dropL kl ((j,x) :: r) = if kl.contains j = true then dropL kl r else (j,x) :: dropL kl r:= rfl
@[go_sem] theorem mapV_nil {α : Type} (f : α → α) : mapV f [] = []:= rfl
@[go_sem] theorem mapV_cons {α : Type} (f : α → α) (j : Nat) (x : α) (r : List (Nat × α)) : mapV f ((j,x) :: r) = (j,f x) :: mapV f r:= rfl
@[go_sem] theorem contains_nil (k : Nat) : ([] : List Nat).contains k = false:= rfl
@[go_sem] theorem contains_cons (k j : Nat) (l : List Nat) : (j :: l).contains k = (k == j || l.contains k):= rfl
attribute [go_sem] Bool.or_true Bool.true_or Bool.or_false Bool.false_or
@[go_sem] theorem kill_lit (d : Nat) (v : Value) : kill d (.lit v) = .lit v:= rfl
@[go_sem] theorem kill_sl (d : Nat) (t : Tok) (e : Nat) (r : List AV) : kill d (.sl t e r) = .sl t e r:= rfl
@[go_sem] theorem kill_rp (d : Nat) (cs : List AV) : kill d (.rp cs) = .rp cs:= rfl
@[go_sem] theorem kill_bp (d : Nat) (cs : List AV) : kill d (.bp cs) = .bp cs:= rfl
@[go_sem] theorem kill_gl (d i : Nat) : kill d (.gl i) = .gl i:= rfl
@[go_sem] theorem kill_gp (d i : Nat) : kill d (.gp i) = .gp i:= rfl
@[go_sem] theorem kill_mp (d : Nat) (k : List Value) (v : List AV) : kill d (.mp k v) = .mp k v:= rfl
@[go_sem] theorem kill_dead (d : Nat) : kill d .dead = .dead:= rfl
@[go_sem] theorem kill_lp (d c o : Nat) : kill d (.lp c o) = if c = d then .dead else .lp c o:= rfl
@[go_sem] theorem kill_agg (d : Nat) (cs : List AV) : kill d (.agg cs) = .agg (killL d cs):= rfl
@[go_sem] theorem kill_tup (d : Nat) (cs : List AV) : kill d (.tup cs) = .tup (killL d cs):= rfl
@[go_sem] theorem kill_clo (d : Nat) (f : Fn) (a b : List AV) : kill d (.clo f a b) = .clo f (killL d a) (killL d b):= rfl
@[go_sem] theorem kill_ifc (d : Nat) (t : TypeId) (v : AV) : kill d (.ifc t v) = .ifc t (kill d v):= rfl
@[go_sem] theorem killL_nil (d : Nat) : killL d [] = []:= rfl
@[go_sem] theorem killL_cons (d : Nat) (x : AV) (xs : List AV) : killL d (x :: xs) = kill d x :: killL d xs:= rfl
@[go_sem] theorem strip_lit (τ : List Nat) (v : Value) : strip τ (.lit v) = .lit v:= rfl
@[go_sem] theorem strip_own (τ t : List Nat) (e : Nat) (r : List AV) : strip τ (.sl (.own t) e r) = if t = τ then .sl .none e r else .sl (.own t) e r:= rfl
@[go_sem] theorem strip_tnone (τ : List Nat) (e : Nat) (r : List AV) : strip τ (.sl .none e r) = .sl .none e r:= rfl
@[go_sem] theorem strip_tnil (τ : List Nat) (e : Nat) (r : List AV) : strip τ (.sl .nil e r) = .sl .nil e r:= rfl
@[go_sem] theorem strip_bor (τ : List Nat) (e : Nat) (r : List AV) : strip τ (.sl .bor e r) = .sl .bor e r:= rfl
@[go_sem] theorem strip_rp (τ : List Nat) (cs : List AV) : strip τ (.rp cs) = .rp cs:= rfl
@[go_sem] theorem strip_bp (τ : List Nat) (cs : List AV) : strip τ (.bp cs) = .bp cs:= rfl
@[go_sem] theorem kill_ml (d c o n k : Nat) (g : Bool) (e : Nat) : kill d (.ml c o n k g e) = if c = d then .dead else .ml c o n k g e:= rfl
@[go_sem] theorem strip_ml (τ : List Nat) (c o n k : Nat) (g : Bool) (e : Nat) : strip τ (.ml c o n k g e) = .ml c o n k g e:= rfl
@[go_sem] theorem strip_lp (τ : List Nat) (c o : Nat) : strip τ (.lp c o) = .lp c o:= rfl
@[go_sem] theorem strip_gl (τ : List Nat) (i : Nat) : strip τ (.gl i) = .gl i:= rfl
@[go_sem] theorem strip_gp (τ : List Nat) (i : Nat) : strip τ (.gp i) = .gp i:= rfl
@[go_sem] theorem strip_mp (τ : List Nat) (k : List Value) (v : List AV) : strip τ (.mp k v) = .mp k v:= rfl
@[go_sem] theorem strip_dead (τ : List Nat) : strip τ .dead = .dead:= rfl
@[go_sem] theorem strip_agg (τ : List Nat) (cs : List AV) : strip τ (.agg cs) = .agg (stripL τ cs):= rfl
@[go_sem] theorem strip_tup (τ : List Nat) (cs : List AV) : strip τ (.tup cs) = .tup (stripL τ cs):= rfl
@[go_sem] theorem strip_clo (τ : List Nat) (f : Fn) (a b : List AV) : strip τ (.clo f a b) = .clo f (stripL τ a) (stripL τ b):= rfl
@[go_sem] theorem strip_ifc (τ : List Nat) (t : TypeId) (v : AV) : strip τ (.ifc t v) = .ifc t (strip τ v):= rfl
@[go_sem] theorem stripL_nil (τ : List Nat) : stripL τ [] = []:= rfl
@[go_sem] theorem stripL_cons (τ : List Nat) (x : AV) (xs : List AV) : stripL τ (x :: xs) = strip τ x :: stripL τ xs:= rfl
@[go_sem] theorem ofVal_int (k : IntKind) (n : Int) : ofVal (.int k n) = .lit (.int k n):= rfl
@[go_sem] theorem ofVal_bool (b : Bool) : ofVal (.bool b) = .lit (.bool b):= rfl
@[go_sem] theorem ofVal_string (b : ByteArray) : ofVal (.string b) = .lit (.string b):= rfl
@[go_sem] theorem ofVal_nilIface : ofVal .nilIface = .lit .nilIface:= rfl
@[go_sem] theorem ofVal_nilFunc : ofVal .nilFunc = .lit .nilFunc:= rfl
@[go_sem] theorem ofVal_nilp : ofVal (.pointer none) = .lit (.pointer none):= rfl
@[go_sem] theorem ofVal_nilm : ofVal (.map none) = .lit (.map none):= rfl
@[go_sem] theorem ofVal_nils : ofVal (.slice none 0 0) = .sl .nil 0 []:= rfl
@[go_sem] theorem ofVal_agg (cs : Array Value) : ofVal (.agg cs) = .agg (cs.toList.map ofVal1):= rfl
@[go_sem] theorem ofVal1_int (k : IntKind) (n : Int) : ofVal1 (.int k n) = .lit (.int k n):= rfl
@[go_sem] theorem ofVal1_bool (b : Bool) : ofVal1 (.bool b) = .lit (.bool b):= rfl
@[go_sem] theorem ofVal1_string (b : ByteArray) : ofVal1 (.string b) = .lit (.string b):= rfl
@[go_sem] theorem ofVal1_nilIface : ofVal1 .nilIface = .lit .nilIface:= rfl
@[go_sem] theorem ofVal1_nilp : ofVal1 (.pointer none) = .lit (.pointer none):= rfl
@[go_sem] theorem ofVal1_nils : ofVal1 (.slice none 0 0) = .sl .nil 0 []:= rfl
attribute [go_sem] List.length_cons List.length_nil List.drop_succ_cons List.drop_zero List.take_succ_cons List.take_zero List.map_cons List.map_nil List.nil_append List.cons_append List.append_nil if_true if_false List.all_cons List.all_nil Bool.and_true Bool.true_and Bool.and_false Bool.false_and Bool.not_true Bool.not_false Value.oneCell' decide_true decide_false decide_not beq_self_eq_true eq_self Bool.false_eq_true List.getElem?_map Option.map_some List.length_map Option.getD_some List.cons.injEq and_true true_and and_false false_and
attribute [go_sem] oneL cellsOf AV.one AV.row
section
variable {os : List AOper} {s : List (Nat × AV)} {c : List (Nat × List AV)} {d : Nat}
@[go_sem] theorem x_guard (dst : Option Nat) (op : AOp) (g : Nat) (want : Bool) : awX false P (⟨dst,op,some (g,want)⟩ :: os) (mkE s c) K =
  guardX (getA s g) want false P dst op os s c K:= by
 unfold guardX
 rw [awX_f,awX_f]
 rfl
theorem cls_none {dst : Option Nat} {op : AOp} {g : Nat} {want : Bool} (h : (AOper.mk dst op (some (g,want))).cls = .a) : False:= by
 obtain ⟨h,_⟩:= cls_a h
 cases h
theorem x_guardD (dst : Option Nat) (op : AOp) (g : Nat) (want : Bool) (hop : allocs [⟨dst,op,none⟩] = []) : awX true P (⟨dst,op,some (g,want)⟩ :: os) (mkE s c) K =
  guardX (getA s g) want true P dst op os s c K:= by
 have hc : clean ⟨dst,op,some (g,want)⟩ (mkE s c):= fun h => (cls_none h).elim
 have hc' : clean ⟨dst,op,none⟩ (mkE s c):= by
  intro h
  obtain ⟨_,⟨d,hd⟩,⟨z,hz⟩ | ⟨z,hz⟩⟩:= cls_a h <;> simp only at hd hz <;> subst hd hz <;> simp [allocs] at hop
 have e : awX true P (⟨dst,op,none⟩ :: os) (mkE s c) K = awG P ⟨dst,op,none⟩ (mkE s c) fun E' => awX true P os E' K:= by
  rw [awX_t,eq_true hc',true_and]
 unfold guardX
 rw [awX_t,eq_true hc,true_and,e]
 rfl
@[go_sem] theorem x_gD_mov (dst : Option Nat) (x : Operand) (gq : Nat) (wq : Bool) : awX true P (⟨dst,.mov x,some (gq,wq)⟩ :: os) (mkE s c) K = guardX (getA s gq) wq true P dst (.mov x) os s c K:= x_guardD dst _ gq wq rfl
@[go_sem] theorem x_gD_pick (dst : Option Nat) (x y z : Operand) (gq : Nat) (wq : Bool) : awX true P (⟨dst,.pick x y z,some (gq,wq)⟩ :: os) (mkE s c) K = guardX (getA s gq) wq true P dst (.pick x y z) os s c K:= x_guardD dst _ gq wq rfl
@[go_sem] theorem x_gD_build (dst : Option Nat) (z : List AV) (p : List (Nat × Nat × Operand)) (gq : Nat) (wq : Bool) : awX true P (⟨dst,.build z p,some (gq,wq)⟩ :: os) (mkE s c) K = guardX (getA s gq) wq true P dst (.build z p) os s c K:= x_guardD dst _ gq wq rfl
@[go_sem] theorem x_gD_bslice (dst : Option Nat) (n e : Nat) (p : List Operand) (gq : Nat) (wq : Bool) : awX true P (⟨dst,.bslice n e p,some (gq,wq)⟩ :: os) (mkE s c) K = guardX (getA s gq) wq true P dst (.bslice n e p) os s c K:= x_guardD dst _ gq wq rfl
@[go_sem] theorem x_gD_load (dst : Option Nat) (a : Bool) (n : Nat) (x : Operand) (gq : Nat) (wq : Bool) : awX true P (⟨dst,.load a n x,some (gq,wq)⟩ :: os) (mkE s c) K = guardX (getA s gq) wq true P dst (.load a n x) os s c K:= x_guardD dst _ gq wq rfl
@[go_sem] theorem x_gD_store (dst : Option Nat) (n : Nat) (x y : Operand) (gq : Nat) (wq : Bool) : awX true P (⟨dst,.store n x y,some (gq,wq)⟩ :: os) (mkE s c) K = guardX (getA s gq) wq true P dst (.store n x y) os s c K:= x_guardD dst _ gq wq rfl
@[go_sem] theorem x_gD_nilchk (dst : Option Nat) (x : Operand) (gq : Nat) (wq : Bool) : awX true P (⟨dst,.nilchk x,some (gq,wq)⟩ :: os) (mkE s c) K = guardX (getA s gq) wq true P dst (.nilchk x) os s c K:= x_guardD dst _ gq wq rfl
@[go_sem] theorem x_gD_bin (dst : Option Nat) (o : BinOp) (t : TypeId) (x y : Operand) (gq : Nat) (wq : Bool) : awX true P (⟨dst,.bin o t x y,some (gq,wq)⟩ :: os) (mkE s c) K = guardX (getA s gq) wq true P dst (.bin o t x y) os s c K:= x_guardD dst _ gq wq rfl
@[go_sem] theorem x_gD_eqb (dst : Option Nat) (n : Bool) (t : TypeId) (x y : Operand) (gq : Nat) (wq : Bool) : awX true P (⟨dst,.eqb n t x y,some (gq,wq)⟩ :: os) (mkE s c) K = guardX (getA s gq) wq true P dst (.eqb n t x y) os s c K:= x_guardD dst _ gq wq rfl
@[go_sem] theorem x_gD_eqa (dst : Option Nat) (n : Bool) (ks : List CK) (x y : Operand) (gq : Nat) (wq : Bool) : awX true P (⟨dst,.eqa n ks x y,some (gq,wq)⟩ :: os) (mkE s c) K = guardX (getA s gq) wq true P dst (.eqa n ks x y) os s c K:= x_guardD dst _ gq wq rfl
@[go_sem] theorem x_gD_eqi (dst : Option Nat) (n : Bool) (x y : Operand) (gq : Nat) (wq : Bool) : awX true P (⟨dst,.eqi n x y,some (gq,wq)⟩ :: os) (mkE s c) K = guardX (getA s gq) wq true P dst (.eqi n x y) os s c K:= x_guardD dst _ gq wq rfl
@[go_sem] theorem x_gD_tas (dst : Option Nat) (t : TypeId) (z : AV) (x : Operand) (gq : Nat) (wq : Bool) : awX true P (⟨dst,.tas t z x,some (gq,wq)⟩ :: os) (mkE s c) K = guardX (getA s gq) wq true P dst (.tas t z x) os s c K:= x_guardD dst _ gq wq rfl
@[go_sem] theorem x_gD_b2s (dst : Option Nat) (x : Operand) (gq : Nat) (wq : Bool) : awX true P (⟨dst,.b2s x,some (gq,wq)⟩ :: os) (mkE s c) K = guardX (getA s gq) wq true P dst (.b2s x) os s c K:= x_guardD dst _ gq wq rfl
@[go_sem] theorem x_gD_eqn (dst : Option Nat) (n : Bool) (x : Operand) (gq : Nat) (wq : Bool) : awX true P (⟨dst,.eqn n x,some (gq,wq)⟩ :: os) (mkE s c) K = guardX (getA s gq) wq true P dst (.eqn n x) os s c K:= x_guardD dst _ gq wq rfl
@[go_sem] theorem x_gD_eqp (dst : Option Nat) (n : Bool) (x : Operand) (gq : Nat) (wq : Bool) : awX true P (⟨dst,.eqp n x,some (gq,wq)⟩ :: os) (mkE s c) K = guardX (getA s gq) wq true P dst (.eqp n x) os s c K:= x_guardD dst _ gq wq rfl
@[go_sem] theorem x_gD_un (dst : Option Nat) (o : UnOp) (x : Operand) (gq : Nat) (wq : Bool) : awX true P (⟨dst,.un o x,some (gq,wq)⟩ :: os) (mkE s c) K = guardX (getA s gq) wq true P dst (.un o x) os s c K:= x_guardD dst _ gq wq rfl
@[go_sem] theorem x_gD_cint (dst : Option Nat) (k : IntKind) (x : Operand) (gq : Nat) (wq : Bool) : awX true P (⟨dst,.cint k x,some (gq,wq)⟩ :: os) (mkE s c) K = guardX (getA s gq) wq true P dst (.cint k x) os s c K:= x_guardD dst _ gq wq rfl
@[go_sem] theorem x_gD_cid (dst : Option Nat) (x : Operand) (gq : Nat) (wq : Bool) : awX true P (⟨dst,.cid x,some (gq,wq)⟩ :: os) (mkE s c) K = guardX (getA s gq) wq true P dst (.cid x) os s c K:= x_guardD dst _ gq wq rfl
@[go_sem] theorem x_gD_mkif (dst : Option Nat) (t : TypeId) (x : Operand) (gq : Nat) (wq : Bool) : awX true P (⟨dst,.mkif t x,some (gq,wq)⟩ :: os) (mkE s c) K = guardX (getA s gq) wq true P dst (.mkif t x) os s c K:= x_guardD dst _ gq wq rfl
@[go_sem] theorem x_gD_mkfn (dst : Option Nat) (f : Fn) (a b : List Operand) (gq : Nat) (wq : Bool) : awX true P (⟨dst,.mkfn f a b,some (gq,wq)⟩ :: os) (mkE s c) K = guardX (getA s gq) wq true P dst (.mkfn f a b) os s c K:= x_guardD dst _ gq wq rfl
@[go_sem] theorem x_gD_slc (dst : Option Nat) (e : Nat) (x : Operand) (l h : Option Operand) (gq : Nat) (wq : Bool) : awX true P (⟨dst,.slc e x l h,some (gq,wq)⟩ :: os) (mkE s c) K = guardX (getA s gq) wq true P dst (.slc e x l h) os s c K:= x_guardD dst _ gq wq rfl
@[go_sem] theorem x_gD_slcs (dst : Option Nat) (x : Operand) (l h : Option Operand) (gq : Nat) (wq : Bool) : awX true P (⟨dst,.slcs x l h,some (gq,wq)⟩ :: os) (mkE s c) K = guardX (getA s gq) wq true P dst (.slcs x l h) os s c K:= x_guardD dst _ gq wq rfl
@[go_sem] theorem x_gD_faddr (dst : Option Nat) (o n : Nat) (x : Operand) (gq : Nat) (wq : Bool) : awX true P (⟨dst,.faddr o n x,some (gq,wq)⟩ :: os) (mkE s c) K = guardX (getA s gq) wq true P dst (.faddr o n x) os s c K:= x_guardD dst _ gq wq rfl
@[go_sem] theorem x_gD_fld (dst : Option Nat) (a : Bool) (o n : Nat) (x : Operand) (gq : Nat) (wq : Bool) : awX true P (⟨dst,.fld a o n x,some (gq,wq)⟩ :: os) (mkE s c) K = guardX (getA s gq) wq true P dst (.fld a o n x) os s c K:= x_guardD dst _ gq wq rfl
@[go_sem] theorem x_gD_iaddr (dst : Option Nat) (e : Nat) (x i : Operand) (gq : Nat) (wq : Bool) : awX true P (⟨dst,.iaddr e x i,some (gq,wq)⟩ :: os) (mkE s c) K = guardX (getA s gq) wq true P dst (.iaddr e x i) os s c K:= x_guardD dst _ gq wq rfl
@[go_sem] theorem x_gD_iadra (dst : Option Nat) (n e : Nat) (x i : Operand) (gq : Nat) (wq : Bool) : awX true P (⟨dst,.iadra n e x i,some (gq,wq)⟩ :: os) (mkE s c) K = guardX (getA s gq) wq true P dst (.iadra n e x i) os s c K:= x_guardD dst _ gq wq rfl
@[go_sem] theorem x_gD_idxa (dst : Option Nat) (b : Bool) (n e : Nat) (x i : Operand) (gq : Nat) (wq : Bool) : awX true P (⟨dst,.idxa b n e x i,some (gq,wq)⟩ :: os) (mkE s c) K = guardX (getA s gq) wq true P dst (.idxa b n e x i) os s c K:= x_guardD dst _ gq wq rfl
@[go_sem] theorem x_gD_idxs (dst : Option Nat) (x i : Operand) (gq : Nat) (wq : Bool) : awX true P (⟨dst,.idxs x i,some (gq,wq)⟩ :: os) (mkE s c) K = guardX (getA s gq) wq true P dst (.idxs x i) os s c K:= x_guardD dst _ gq wq rfl
@[go_sem] theorem x_gD_ext (dst : Option Nat) (x : Operand) (i : Nat) (gq : Nat) (wq : Bool) : awX true P (⟨dst,.ext x i,some (gq,wq)⟩ :: os) (mkE s c) K = guardX (getA s gq) wq true P dst (.ext x i) os s c K:= x_guardD dst _ gq wq rfl
@[go_sem] theorem x_gD_lens (dst : Option Nat) (x : Operand) (gq : Nat) (wq : Bool) : awX true P (⟨dst,.lens x,some (gq,wq)⟩ :: os) (mkE s c) K = guardX (getA s gq) wq true P dst (.lens x) os s c K:= x_guardD dst _ gq wq rfl
@[go_sem] theorem x_gD_lenl (dst : Option Nat) (x : Operand) (gq : Nat) (wq : Bool) : awX true P (⟨dst,.lenl x,some (gq,wq)⟩ :: os) (mkE s c) K = guardX (getA s gq) wq true P dst (.lenl x) os s c K:= x_guardD dst _ gq wq rfl
@[go_sem] theorem x_gD_mnmx (dst : Option Nat) (m : Bool) (l : List Operand) (gq : Nat) (wq : Bool) : awX true P (⟨dst,.mnmx m l,some (gq,wq)⟩ :: os) (mkE s c) K = guardX (getA s gq) wq true P dst (.mnmx m l) os s c K:= x_guardD dst _ gq wq rfl
@[go_sem] theorem x_gD_app (dst : Option Nat) (e b : Nat) (l : List Nat) (x y : Operand) (gq : Nat) (wq : Bool) : awX true P (⟨dst,.app e b l x y,some (gq,wq)⟩ :: os) (mkE s c) K = guardX (getA s gq) wq true P dst (.app e b l x y) os s c K:= x_guardD dst _ gq wq rfl
@[go_sem] theorem x_gD_loadc (dst : Option Nat) (a : Bool) (n : Nat) (x : Operand) (gq : Nat) (wq : Bool) : awX true P (⟨dst,.loadc a n x,some (gq,wq)⟩ :: os) (mkE s c) K = guardX (getA s gq) wq true P dst (.loadc a n x) os s c K:= x_guardD dst _ gq wq rfl
@[go_sem] theorem x_gD_call (dst : Option Nat) (f : FuncId) (l : List Operand) (gq : Nat) (wq : Bool) : awX true P (⟨dst,.call f l,some (gq,wq)⟩ :: os) (mkE s c) K = guardX (getA s gq) wq true P dst (.call f l) os s c K:= x_guardD dst _ gq wq rfl
@[go_sem] theorem x_gD_callv (dst : Option Nat) (f : Operand) (l : List Operand) (gq : Nat) (wq : Bool) : awX true P (⟨dst,.callv f l,some (gq,wq)⟩ :: os) (mkE s c) K = guardX (getA s gq) wq true P dst (.callv f l) os s c K:= x_guardD dst _ gq wq rfl
@[go_sem] theorem putO_some (x : AV) : (mkE s c).putO (some d) x = mkE (putA s d x) c:= mkE_put s c d x
@[go_sem] theorem putO_none (x : AV) : (mkE s c).putO none x = mkE s c:= rfl
theorem x_step {op : AOp} {dst : Option Nat} (h1 : ∀ f l,op ≠ .call f l) (h2 : ∀ f l,op ≠ .callv f l) (h3 : ∀ f l,op ≠ .callm f l:= by intros; simp) (h4 : ∀ f l,op ≠ .callvm f l:= by intros; simp) (h5 : ∀ e,op ≠ .bsl0 e:= by intros; simp) (hop : allocs [⟨dst,op,none⟩] = []) : awX D P (⟨dst,op,none⟩ :: os) E K = bindE (step dst op E) D P os K:= by
 have hc' : clean ⟨dst,op,none⟩ E:= by
  intro h
  obtain ⟨_,⟨d,hd⟩,⟨z,hz⟩ | ⟨z,hz⟩⟩:= cls_a h <;> simp only at hd hz <;> subst hd hz <;> simp [allocs] at hop
 have hw : ∀ K : Env → Prop,awOp P ⟨dst,op,none⟩ E K = ∃ E',step dst op E = some E' ∧ K E':= by
  intro K
  unfold awOp
  split <;> rename_i h
  ·exact absurd h (h1 _ _)
  ·exact absurd h (h2 _ _)
  ·exact absurd h (h3 _ _)
  ·exact absurd h (h4 _ _)
  ·exact absurd h (h5 _)
  ·rfl
 have hb : ∀ D,(∃ E',step dst op E = some E' ∧ awX D P os E' K) = bindE (step dst op E) D P os K:= by
  intro D
  unfold bindE
  cases step dst op E <;> simp
 cases D
 ·rw [awX_f,← hb]
  exact hw fun E' => awX false P os E' K
 ·rw [awX_t,eq_true hc',true_and,← hb]
  exact hw fun E' => awX true P os E' K
theorem x_val {op : AOp} (hp : plain op = true) (h1 : ∀ f l,op ≠ .call f l) (h2 : ∀ f l,op ≠ .callv f l) (h3 : ∀ f l,op ≠ .callm f l:= by intros; simp) (h4 : ∀ f l,op ≠ .callvm f l:= by intros; simp) : awX D P (⟨some d,op,none⟩ :: os) (mkE s c) K = bindV (aval (mkE s c) op) D P os d s c K:= by
 rw [x_step h1 h2 h3 h4 (by rintro e rfl; cases hp) (by cases op <;> first | rfl | cases hp)]
 rw [step_plain hp]
 unfold bindE bindV
 cases aval (mkE s c) op with
 | none => rfl
 | some x => simp only [putO_some]
@[go_sem] theorem x_mov (x : Operand) : awX D P (⟨some d,.mov x,none⟩ :: os) (mkE s c) K = awX D P os (mkE (putA s d (evA s x)) c) K:= by
 rw [x_val rfl (by intros; simp) (by intros; simp)]
 simp only [aval,bindV_some,mkE_ev]
def avPick (v a b : AV) : Option AV:= match v with
 | .lit (.bool t) => some (match t with | true => a | false => b)
 | _ => none
@[go_sem] theorem avPick_t (a b : AV) : avPick (.lit (.bool true)) a b = some a:= rfl
@[go_sem] theorem avPick_f (a b : AV) : avPick (.lit (.bool false)) a b = some b:= rfl
@[go_sem] theorem avPick_lll (t p q : Bool) : avPick (.lit (.bool t)) (.lit (.bool p)) (.lit (.bool q)) = some (.lit (.bool (if t then p else q))):= by cases t <;> rfl
@[go_sem] theorem x_pick (x a b : Operand) : awX D P (⟨some d,.pick x a b,none⟩ :: os) (mkE s c) K = bindV (avPick (evA s x) (evA s a) (evA s b)) D P os d s c K:= by
 rw [x_val rfl (by intros; simp) (by intros; simp)]
 first | (congr 1; done) | (congr 1; simp only [aval,mkE_ev,avPick]; done) | (congr 1; simp only [aval,mkE_ev,avPick]; rfl)
def avLd (c : List (Nat × List AV)) (agg : Bool) (size : Nat) (p : AV) : Option AV:= match p with
 | .rp cs => aval.ld agg size cs
 | .bp cs => aval.ld agg size cs
 | .lp k o => match getC c k with
  | some cs => aval.ld agg size (cs.drop o)
  | none => none
 | .gp g => if agg = false then if g ∈ GS then some (.gl g) else none else none
 | _ => none
def avLd1 (agg : Bool) (size o : Nat) (x : Option (List AV)) : Option AV:= match x with
 | some cs => aval.ld agg size (cs.drop o)
 | none => none
@[go_sem] theorem avLd1_some (agg : Bool) (size o : Nat) (cs : List AV) : avLd1 agg size o (some cs) = aval.ld agg size (cs.drop o):= rfl
@[go_sem] theorem avLd_rp (agg : Bool) (size : Nat) (cs : List AV) : avLd c agg size (.rp cs) = aval.ld agg size cs:= rfl
@[go_sem] theorem avLd_bp (agg : Bool) (size : Nat) (cs : List AV) : avLd c agg size (.bp cs) = aval.ld agg size cs:= rfl
@[go_sem] theorem avLd_lp (agg : Bool) (size k o : Nat) : avLd c agg size (.lp k o) = avLd1 agg size o (getC c k):= rfl
@[go_sem] theorem avLd_gp (size g : Nat) : avLd c false size (.gp g) = if g ∈ GS then some (.gl g) else none:= rfl
@[go_sem] theorem ld_f (size : Nat) (x : AV) (cs : List AV) : aval.ld false size (x :: cs) = some x:= rfl
@[go_sem] theorem ld_t (size : Nat) (cs : List AV) : aval.ld true size cs = if size ≤ cs.length then some (.agg (cs.take size)) else none:= rfl
@[go_sem] theorem x_load (agg : Bool) (size : Nat) (x : Operand) : awX D P (⟨some d,.load agg size x,none⟩ :: os) (mkE s c) K = bindV (avLd c agg size (evA s x)) D P os d s c K:= by
 rw [x_step (by intros; simp) (by intros; simp) (by intros; simp) (by intros; simp) (by intros; simp) rfl]
 simp only [step,mkE_ev,aval,mkE_c]
 unfold bindE bindV avLd
 cases evA s x with
 | lp k o =>
  simp only []
  cases getC c k with
  | none => rfl
  | some cs => simp only []; cases aval.ld agg size (cs.drop o) <;> simp [putO_some]
 | rp cs => simp only []; cases aval.ld agg size cs <;> simp [putO_some]
 | bp cs => simp only []; cases aval.ld agg size cs <;> simp [putO_some]
 | gp g =>
  simp only []
  by_cases h1 : agg = false
  ·by_cases h2 : g ∈ GS
   ·simp [h1,h2,putO_some]
   ·simp [h1,h2]
  ·simp [h1]
 | _ => rfl
def avLdc (c : List (Nat × List AV)) (agg : Bool) (size : Nat) (p : AV) : Option AV:= match p with
 | .rp cs => chkTok (aval.ld agg size cs)
 | .bp cs => chkTok (aval.ld agg size cs)
 | .lp k o => avLd1 agg size o (getC c k)
 | .gp g => if agg = false then if g ∈ GS then some (.gl g) else none else none
 | _ => none
@[go_sem] theorem avLdc_rp (agg : Bool) (size : Nat) (cs : List AV) : avLdc c agg size (.rp cs) = chkTok (aval.ld agg size cs):= rfl
@[go_sem] theorem avLdc_bp (agg : Bool) (size : Nat) (cs : List AV) : avLdc c agg size (.bp cs) = chkTok (aval.ld agg size cs):= rfl
@[go_sem] theorem avLdc_lp (agg : Bool) (size k o : Nat) : avLdc c agg size (.lp k o) = avLd1 agg size o (getC c k):= rfl
@[go_sem] theorem avLdc_gp (size g : Nat) : avLdc c false size (.gp g) = if g ∈ GS then some (.gl g) else none:= rfl
@[go_sem] theorem chkTok_s (x : AV) : chkTok (some x) = if tokFree x = true then some x else none:= rfl
attribute [go_sem] tokFree tokFreeL
@[go_sem] theorem x_loadc (agg : Bool) (size : Nat) (x : Operand) : awX D P (⟨some d,.loadc agg size x,none⟩ :: os) (mkE s c) K = bindV (avLdc c agg size (evA s x)) D P os d s c K:= by
 rw [x_step (by intros; simp) (by intros; simp) (by intros; simp) (by intros; simp) (by intros; simp) rfl]
 simp only [step,mkE_ev,aval,mkE_c]
 unfold bindE bindV avLdc
 cases evA s x with
 | lp k o =>
  simp only [avLd1]
  cases getC c k with
  | none => rfl
  | some cs => simp only []; cases aval.ld agg size (cs.drop o) <;> simp [putO_some]
 | rp cs => simp only []; cases chkTok (aval.ld agg size cs) <;> simp [putO_some]
 | bp cs => simp only []; cases chkTok (aval.ld agg size cs) <;> simp [putO_some]
 | gp g =>
  simp only []
  by_cases h1 : agg = false
  ·by_cases h2 : g ∈ GS
   ·simp [h1,h2,putO_some]
   ·simp [h1,h2]
  ·simp [h1]
 | _ => rfl
def avUn (op : UnOp) (x : AV) : Option AV:= match x with
 | .lit u => match p0 (Op.unary op u) with
  | some r => some (.lit r)
  | none => none
 | _ => none
@[go_sem] theorem avUn_not (b : Bool) : avUn .not (.lit (.bool b)) = some (.lit (.bool (!b))):= rfl
@[go_sem] theorem x_un (op : UnOp) (x : Operand) : awX D P (⟨some d,.un op x,none⟩ :: os) (mkE s c) K = bindV (avUn op (evA s x)) D P os d s c K:= by
 rw [x_val rfl (by intros; simp) (by intros; simp)]
 first | (congr 1; done) | (congr 1; simp only [aval,mkE_ev,avUn]; done) | (congr 1; simp only [aval,mkE_ev,avUn]; rfl)
def avBin (op : BinOp) (t : TypeId) (x y : AV) : Option AV:= match x,y with
 | .lit (.int k u),.lit (.int k' v) => match p0 (binOp op t (.int k u) (.int k' v)) with
  | some r => some (.lit r)
  | none => none
 | .lit (.string u),.lit (.string v) => match p0 (binOp op t (.string u) (.string v)) with
  | some r => some (.lit r)
  | none => none
 | _,_ => none
section
variable (t : TypeId) (k : IntKind) (u v : Int)
@[go_sem] theorem avBin_eql : avBin .eql t (.lit (.int k u)) (.lit (.int k v)) = some (.lit (.bool (u == v))):= by simp [avBin,binOp,Op.intCmp,p0,Pure.pure]
@[go_sem] theorem avBin_neq : avBin .neq t (.lit (.int k u)) (.lit (.int k v)) = some (.lit (.bool (u != v))):= by simp [avBin,binOp,Op.intCmp,p0,Pure.pure]
@[go_sem] theorem avBin_lss : avBin .lss t (.lit (.int k u)) (.lit (.int k v)) = some (.lit (.bool (decide (u < v)))):= by simp [avBin,binOp,Op.intCmp,p0,Pure.pure]
@[go_sem] theorem avBin_leq : avBin .leq t (.lit (.int k u)) (.lit (.int k v)) = some (.lit (.bool (decide (u ≤ v)))):= by simp [avBin,binOp,Op.intCmp,p0,Pure.pure]
@[go_sem] theorem avBin_gtr : avBin .gtr t (.lit (.int k u)) (.lit (.int k v)) = some (.lit (.bool (decide (v < u)))):= by simp [avBin,binOp,Op.intCmp,p0,Pure.pure]
@[go_sem] theorem avBin_geq : avBin .geq t (.lit (.int k u)) (.lit (.int k v)) = some (.lit (.bool (decide (v ≤ u)))):= by simp [avBin,binOp,Op.intCmp,p0,Pure.pure]
@[go_sem] theorem avBin_add : avBin .add t (.lit (.int k u)) (.lit (.int k v)) = some (.lit (.int k (k.wrap (u + v)))):= by simp [avBin,binOp,Op.intArith,p0,Pure.pure]
@[go_sem] theorem avBin_sub : avBin .sub t (.lit (.int k u)) (.lit (.int k v)) = some (.lit (.int k (k.wrap (u - v)))):= by simp [avBin,binOp,Op.intArith,p0,Pure.pure]
@[go_sem] theorem avBin_mul : avBin .mul t (.lit (.int k u)) (.lit (.int k v)) = some (.lit (.int k (k.wrap (u * v)))):= by simp [avBin,binOp,Op.intArith,p0,Pure.pure]
@[go_sem] theorem avBin_quo (h : (v == 0) = false) : avBin .quo t (.lit (.int k u)) (.lit (.int k v)) = some (.lit (.int k (k.wrap (u.tdiv v)))):= by
 have h' : ¬ v = 0:= by simpa using h
 simp [avBin,binOp,Op.intDiv,p0,Pure.pure,h']
@[go_sem] theorem avBin_seql (p q : ByteArray) : avBin .eql t (.lit (.string p)) (.lit (.string q)) = some (.lit (.bool (p.toList == q.toList))):= by simp [avBin,binOp,Op.stringOp,p0,Pure.pure]
end
@[go_sem] theorem x_bin (op : BinOp) (t : TypeId) (x y : Operand) : awX D P (⟨some d,.bin op t x y,none⟩ :: os) (mkE s c) K = bindV (avBin op t (evA s x) (evA s y)) D P os d s c K:= by
 rw [x_val rfl (by intros; simp) (by intros; simp)]
 first | (congr 1; done) | (congr 1; simp only [aval,mkE_ev,avBin]; done) | (congr 1; simp only [aval,mkE_ev,avBin]; rfl)
def avEqb (neg : Bool) (x y : AV) : Option AV:= match x,y with
 | .lit (.bool a),.lit (.bool b) => some (.lit (.bool (if neg then !(a == b) else a == b)))
 | _,_ => none
@[go_sem] theorem bbeq_tt : (true == true) = true:= rfl
@[go_sem] theorem bbeq_tf : (true == false) = false:= rfl
@[go_sem] theorem bbeq_ft : (false == true) = false:= rfl
@[go_sem] theorem bbeq_ff : (false == false) = true:= rfl
@[go_sem] theorem avEqb_f (a b : Bool) : avEqb false (.lit (.bool a)) (.lit (.bool b)) = some (.lit (.bool (a == b))):= rfl
@[go_sem] theorem avEqb_t (a b : Bool) : avEqb true (.lit (.bool a)) (.lit (.bool b)) = some (.lit (.bool (!(a == b)))):= rfl
@[go_sem] theorem x_eqb (neg : Bool) (t : TypeId) (x y : Operand) : awX D P (⟨some d,.eqb neg t x y,none⟩ :: os) (mkE s c) K = bindV (avEqb neg (evA s x) (evA s y)) D P os d s c K:= by
 rw [x_val rfl (by intros; simp) (by intros; simp)]
 first | (congr 1; done) | (congr 1; simp only [aval,mkE_ev,avEqb]; done) | (congr 1; simp only [aval,mkE_ev,avEqb]; rfl)
def eqR (neg : Bool) : Option Bool → Option AV
 | some r => some (.lit (.bool (if neg then !r else r)))
 | none => none
@[go_sem] theorem eqR_f (r : Bool) : eqR false (some r) = some (.lit (.bool r)):= rfl
@[go_sem] theorem eqR_t (r : Bool) : eqR true (some r) = some (.lit (.bool (!r))):= rfl
def andO (a : Bool) : Option Bool → Option Bool
 | some b => some (a && b)
 | none => none
@[go_sem] theorem andO_some (a b : Bool) : andO a (some b) = some (a && b):= rfl
@[go_sem] theorem eqCells_nil : eqCells [] [] [] = some true:= rfl
@[go_sem] theorem eqCells_int (ks : List CK) (k : IntKind) (a b : Int) (xs ys : List AV) : eqCells (.int :: ks) (.lit (.int k a) :: xs) (.lit (.int k b) :: ys) = andO (a == b) (eqCells ks xs ys):= by
 simp only [eqCells,eq1,if_true]
 rfl
@[go_sem] theorem eqCells_bool (ks : List CK) (a b : Bool) (xs ys : List AV) : eqCells (.bool :: ks) (.lit (.bool a) :: xs) (.lit (.bool b) :: ys) = andO (a == b) (eqCells ks xs ys):= rfl
@[go_sem] theorem eqCells_str (ks : List CK) (a b : ByteArray) (xs ys : List AV) : eqCells (.str :: ks) (.lit (.string a) :: xs) (.lit (.string b) :: ys) = andO (a == b) (eqCells ks xs ys):= rfl
def avEqa (neg : Bool) (ks : List CK) (x y : AV) : Option AV:= match x,y with
 | .agg cs,.agg ds => eqR neg (eqCells ks cs ds)
 | _,_ => none
@[go_sem] theorem avEqa_agg (neg : Bool) (ks : List CK) (cs ds : List AV) : avEqa neg ks (.agg cs) (.agg ds) = eqR neg (eqCells ks cs ds):= rfl
@[go_sem] theorem x_eqa (neg : Bool) (ks : List CK) (x y : Operand) : awX D P (⟨some d,.eqa neg ks x y,none⟩ :: os) (mkE s c) K = bindV (avEqa neg ks (evA s x) (evA s y)) D P os d s c K:= by
 rw [x_val rfl (by intros; simp) (by intros; simp)]
 first | (congr 1; done) | (congr 1; simp only [aval,mkE_ev,avEqa,eqR]; done) | (congr 1; simp only [aval,mkE_ev,avEqa,eqR]; rfl)
def avEqi (neg : Bool) (x y : AV) : Option AV:= match x,y with
 | .gl i,.gl j => some (.lit (.bool (if neg then !(i == j) else i == j)))
 | _,_ => none
@[go_sem] theorem avEqi_f (i j : Nat) : avEqi false (.gl i) (.gl j) = some (.lit (.bool (i == j))):= rfl
@[go_sem] theorem avEqi_t (i j : Nat) : avEqi true (.gl i) (.gl j) = some (.lit (.bool (!(i == j)))):= rfl
@[go_sem] theorem x_eqi (neg : Bool) (x y : Operand) : awX D P (⟨some d,.eqi neg x y,none⟩ :: os) (mkE s c) K = bindV (avEqi neg (evA s x) (evA s y)) D P os d s c K:= by
 rw [x_val rfl (by intros; simp) (by intros; simp)]
 first | (congr 1; done) | (congr 1; simp only [aval,mkE_ev,avEqi]; done) | (congr 1; simp only [aval,mkE_ev,avEqi]; rfl)
def avTas (t : TypeId) (z x : AV) : Option AV:= match x with
 | .lit .nilIface => some (.tup [z,.lit (.bool false)])
 | .gl _ => if t = GT then none else some (.tup [z,.lit (.bool false)])
 | .ifc u v => if u = t then some (.tup [v,.lit (.bool true)]) else some (.tup [z,.lit (.bool false)])
 | _ => none
attribute [go_sem] GT
@[go_sem] theorem avTas_nil (t : TypeId) (z : AV) : avTas t z (.lit .nilIface) = some (.tup [z,.lit (.bool false)]):= rfl
@[go_sem] theorem avTas_gl (t : TypeId) (z : AV) (i : Nat) : avTas t z (.gl i) = if t = GT then none else some (.tup [z,.lit (.bool false)]):= rfl
@[go_sem] theorem avTas_ifc (t : TypeId) (z : AV) (u : TypeId) (v : AV) : avTas t z (.ifc u v) = if u = t then some (.tup [v,.lit (.bool true)]) else some (.tup [z,.lit (.bool false)]):= rfl
@[go_sem] theorem x_tas (t : TypeId) (z : AV) (x : Operand) : awX D P (⟨some d,.tas t z x,none⟩ :: os) (mkE s c) K = bindV (avTas t z (evA s x)) D P os d s c K:= by
 rw [x_val rfl (by intros; simp) (by intros; simp)]
 first | (congr 1; done) | (congr 1; simp only [aval,mkE_ev,avTas]; done) | (congr 1; simp only [aval,mkE_ev,avTas]; rfl)
def strR : Option (List UInt8) → Option AV
 | some l => some (.lit (.string ⟨l.toArray⟩))
 | none => none
@[go_sem] theorem strR_some (l : List UInt8) : strR (some l) = some (.lit (.string ⟨l.toArray⟩)):= rfl
def b2sM (o n : Nat) : Option (List AV) → Option AV
 | some cs => if o + n ≤ cs.length then strR (bytesA ((cs.drop o).take n)) else none
 | none => none
@[go_sem] theorem b2sM_some (o n : Nat) (cs : List AV) : b2sM o n (some cs) = if o + n ≤ cs.length then strR (bytesA ((cs.drop o).take n)) else none:= rfl
def avB2s (c : List (Nat × List AV)) (x : AV) : Option AV:= match x with
 | .sl t e rows => if goneB t = false ∧ e = 1 then strR (bytesA rows) else none
 | .ml k o n _ _ e => if e = 1 then b2sM o n (getC c k) else none
 | _ => none
@[go_sem] theorem avB2s_ml (k o n cap : Nat) (a : Bool) : avB2s c (.ml k o n cap a 1) = b2sM o n (getC c k):= rfl
@[go_sem] theorem x_b2s (x : Operand) : awX D P (⟨some d,.b2s x,none⟩ :: os) (mkE s c) K = bindV (avB2s c (evA s x)) D P os d s c K:= by
 rw [x_val rfl (by intros; simp) (by intros; simp)]
 first | (congr 1; done) | (congr 1; simp only [aval,mkE_ev,avB2s,strR,b2sM,mkE_c]; done) | (congr 1; simp only [aval,mkE_ev,avB2s,strR,b2sM,mkE_c]; rfl)
def avEqn (neg : Bool) (x : AV) : Option AV:= match x with
 | .lit .nilIface => some (.lit (.bool !neg))
 | .ifc _ _ => some (.lit (.bool neg))
 | .gl _ => some (.lit (.bool neg))
 | _ => none
@[go_sem] theorem avEqn_nil (neg : Bool) : avEqn neg (.lit .nilIface) = some (.lit (.bool !neg)):= rfl
@[go_sem] theorem avEqn_ifc (neg : Bool) (t : TypeId) (v : AV) : avEqn neg (.ifc t v) = some (.lit (.bool neg)):= rfl
@[go_sem] theorem avEqn_gl (neg : Bool) (i : Nat) : avEqn neg (.gl i) = some (.lit (.bool neg)):= rfl
@[go_sem] theorem x_eqn (neg : Bool) (x : Operand) : awX D P (⟨some d,.eqn neg x,none⟩ :: os) (mkE s c) K = bindV (avEqn neg (evA s x)) D P os d s c K:= by
 rw [x_val rfl (by intros; simp) (by intros; simp)]
 first | (congr 1; done) | (congr 1; simp only [aval,mkE_ev,avEqn]; done) | (congr 1; simp only [aval,mkE_ev,avEqn]; rfl)
def avEqp (neg : Bool) (x : AV) : Option AV:= match x with
 | .lit (.pointer none) => some (.lit (.bool !neg))
 | .rp _ => some (.lit (.bool neg))
 | .bp _ => some (.lit (.bool neg))
 | .lp _ _ => some (.lit (.bool neg))
 | _ => none
@[go_sem] theorem avEqp_nil (neg : Bool) : avEqp neg (.lit (.pointer none)) = some (.lit (.bool !neg)):= rfl
@[go_sem] theorem avEqp_rp (neg : Bool) (cs : List AV) : avEqp neg (.rp cs) = some (.lit (.bool neg)):= rfl
@[go_sem] theorem avEqp_bp (neg : Bool) (cs : List AV) : avEqp neg (.bp cs) = some (.lit (.bool neg)):= rfl
@[go_sem] theorem avEqp_lp (neg : Bool) (k o : Nat) : avEqp neg (.lp k o) = some (.lit (.bool neg)):= rfl
@[go_sem] theorem x_eqp (neg : Bool) (x : Operand) : awX D P (⟨some d,.eqp neg x,none⟩ :: os) (mkE s c) K = bindV (avEqp neg (evA s x)) D P os d s c K:= by
 rw [x_val rfl (by intros; simp) (by intros; simp)]
 first | (congr 1; done) | (congr 1; simp only [aval,mkE_ev,avEqp]; done) | (congr 1; simp only [aval,mkE_ev,avEqp]; rfl)
def avNil (x : AV) : Option AV:= match x with
 | .rp cs => some (.rp cs)
 | .bp cs => some (.bp cs)
 | .lp c o => some (.lp c o)
 | .clo (.func f) a b => some (.clo (.func f) a b)
 | _ => none
@[go_sem] theorem avNil_rp (cs : List AV) : avNil (.rp cs) = some (.rp cs):= rfl
@[go_sem] theorem avNil_bp (cs : List AV) : avNil (.bp cs) = some (.bp cs):= rfl
@[go_sem] theorem avNil_lp (k o : Nat) : avNil (.lp k o) = some (.lp k o):= rfl
@[go_sem] theorem avNil_clo (f : FuncId) (a b : List AV) : avNil (.clo (.func f) a b) = some (.clo (.func f) a b):= rfl
@[go_sem] theorem x_nilchk (x : Operand) : awX D P (⟨some d,.nilchk x,none⟩ :: os) (mkE s c) K = bindV (avNil (evA s x)) D P os d s c K:= by
 rw [x_val rfl (by intros; simp) (by intros; simp)]
 first | (congr 1; done) | (congr 1; simp only [aval,mkE_ev,avNil]; done) | (congr 1; simp only [aval,mkE_ev,avNil]; rfl)
def avCint (k : IntKind) (x : AV) : Option AV:= match x with
 | .lit (.int _ n) => some (.lit (.int k (k.wrap n)))
 | _ => none
@[go_sem] theorem avCint_int (k k' : IntKind) (n : Int) : avCint k (.lit (.int k' n)) = some (.lit (.int k (k.wrap n))):= rfl
@[go_sem] theorem x_cint (k : IntKind) (x : Operand) : awX D P (⟨some d,.cint k x,none⟩ :: os) (mkE s c) K = bindV (avCint k (evA s x)) D P os d s c K:= by
 rw [x_val rfl (by intros; simp) (by intros; simp)]
 first | (congr 1; done) | (congr 1; simp only [aval,mkE_ev,avCint]; done) | (congr 1; simp only [aval,mkE_ev,avCint]; rfl)
def avCid (x : AV) : Option AV:= match x with
 | .lit (.string s) => some (.lit (.string s))
 | _ => none
@[go_sem] theorem avCid_s (b : ByteArray) : avCid (.lit (.string b)) = some (.lit (.string b)):= rfl
@[go_sem] theorem x_cid (x : Operand) : awX D P (⟨some d,.cid x,none⟩ :: os) (mkE s c) K = bindV (avCid (evA s x)) D P os d s c K:= by
 rw [x_val rfl (by intros; simp) (by intros; simp)]
 first | (congr 1; done) | (congr 1; simp only [aval,mkE_ev,avCid]; done) | (congr 1; simp only [aval,mkE_ev,avCid]; rfl)
@[go_sem] theorem x_mkfn (f : Fn) (a b : List Operand) : awX D P (⟨some d,.mkfn f a b,none⟩ :: os) (mkE s c) K = awX D P os (mkE (putA s d (.clo f (a.map (evA s)) (b.map (evA s)))) c) K:= by
 rw [x_val rfl (by intros; simp) (by intros; simp)]
 simp only [aval,bindV_some,mkE_ev0]
def avBnd (s : List (Nat × AV)) (d : Nat) : Option Operand → Option Int
 | none => some d
 | some x => intOfA (evA s x)
theorem avBnd_eq (s : List (Nat × AV)) (c : List (Nat × List AV)) (d : Nat) (x : Option Operand) : aval.bnd (mkE s c) d x = avBnd s d x:= by
 cases x <;> simp only [aval.bnd,avBnd,mkE_ev]
@[go_sem] theorem avBnd_none (d : Nat) : avBnd s d none = some (d : Int):= rfl
@[go_sem] theorem avBnd_some (d : Nat) (x : Operand) : avBnd s d (some x) = intOfA (evA s x):= rfl
@[go_sem] theorem intOfA_int (k : IntKind) (n : Int) : intOfA (.lit (.int k n)) = some n:= rfl
def avSlcs (x : AV) (lo hi : Option Int) (b : ByteArray) : Option AV:= match lo,hi with
 | some l,some h => if 0 ≤ l ∧ l ≤ h ∧ h ≤ b.size then some (.lit (.string (b.extract l.toNat h.toNat))) else none
 | _,_ => none
def avSl (esz : Nat) (t : Tok) (e : Nat) (rows : List AV) (lo hi : Option Int) : Option AV:= match lo,hi with
 | some l,some h => if frB t = false then if e = esz then if 0 ≤ l ∧ l ≤ h ∧ h ≤ rows.length then some (.sl (aval.cutTok t) e ((rows.take h.toNat).drop l.toNat)) else none else none else none
 | _,_ => none
@[go_sem] theorem avSl_some (esz : Nat) (t : Tok) (rows : List AV) (l h : Int) (hf : frB t = false) (h1 : 0 ≤ l ∧ l ≤ h ∧ h ≤ rows.length) : avSl esz t esz rows (some l) (some h) = some (.sl (aval.cutTok t) esz ((rows.take h.toNat).drop l.toNat)):= by
 simp only [avSl,if_true,h1,hf,and_self]
attribute [go_sem] aval.cutTok
def avSlM (esz c off n cap : Nat) (g : Bool) (e : Nat) (lo hi : Option Int) : Option AV:= match lo,hi with
 | some l,some h => if e = esz then if 0 ≤ l ∧ l ≤ h ∧ h ≤ n ∧ (l < cap ∨ l = 0) ∧ n ≤ cap then some (.ml c (off + l.toNat * e) (h.toNat - l.toNat) (cap - l.toNat) g e) else none else none
 | _,_ => none
@[go_sem] theorem avSlM_some (esz c off n cap : Nat) (g : Bool) (l h : Int) (h1 : 0 ≤ l ∧ l ≤ h ∧ h ≤ n ∧ (l < cap ∨ l = 0) ∧ n ≤ cap) : avSlM esz c off n cap g esz (some l) (some h) = some (.ml c (off + l.toNat * esz) (h.toNat - l.toNat) (cap - l.toNat) g esz):= by
 simp only [avSlM,if_true,h1,and_self]
def avSlc (s : List (Nat × AV)) (esz : Nat) (x : AV) (lo hi : Option Operand) : Option AV:= match x with
 | .sl t e rows => avSl esz t e rows (avBnd s 0 lo) (avBnd s rows.length hi)
 | .ml c off n cap g e => avSlM esz c off n cap g e (avBnd s 0 lo) (avBnd s n hi)
 | _ => none
@[go_sem] theorem avSlc_ml (esz c off n cap : Nat) (g : Bool) (e : Nat) (lo hi : Option Operand) : avSlc s esz (.ml c off n cap g e) lo hi = avSlM esz c off n cap g e (avBnd s 0 lo) (avBnd s n hi):= rfl
@[go_sem] theorem avSlc_sl (esz : Nat) (t : Tok) (e : Nat) (rows : List AV) (lo hi : Option Operand) : avSlc s esz (.sl t e rows) lo hi = avSl esz t e rows (avBnd s 0 lo) (avBnd s rows.length hi):= rfl
@[go_sem] theorem x_slc (esz : Nat) (x : Operand) (lo hi : Option Operand) : awX D P (⟨some d,.slc esz x lo hi,none⟩ :: os) (mkE s c) K = bindV (avSlc s esz (evA s x) lo hi) D P os d s c K:= by
 rw [x_val rfl (by intros; simp) (by intros; simp)]
 first | (congr 1; done) | (congr 1; simp only [aval,mkE_ev,avSlc,avSl,avSlM,avBnd_eq]; done) | (congr 1; simp only [aval,mkE_ev,avSlc,avSl,avSlM,avBnd_eq]; rfl)
def avSlcS (s : List (Nat × AV)) (x : AV) (lo hi : Option Operand) : Option AV:= match x with
 | .lit (.string b) => avSlcs x (avBnd s 0 lo) (avBnd s b.size hi) b
 | _ => none
@[go_sem] theorem avSlcS_s (b : ByteArray) (lo hi : Option Operand) : avSlcS s (.lit (.string b)) lo hi = avSlcs (.lit (.string b)) (avBnd s 0 lo) (avBnd s b.size hi) b:= rfl
@[go_sem] theorem x_slcs (x : Operand) (lo hi : Option Operand) : awX D P (⟨some d,.slcs x lo hi,none⟩ :: os) (mkE s c) K = bindV (avSlcS s (evA s x) lo hi) D P os d s c K:= by
 rw [x_val rfl (by intros; simp) (by intros; simp)]
 first | (congr 1; done) | (congr 1; simp only [aval,mkE_ev,avSlcS,avSlcs,avBnd_eq]; done) | (congr 1; simp only [aval,mkE_ev,avSlcS,avSlcs,avBnd_eq]; rfl)
def avFad (off size : Nat) (x : AV) : Option AV:= match x with
 | .rp cs => if off + size ≤ cs.length then some (.rp ((cs.drop off).take size)) else none
 | .bp cs => if off + size ≤ cs.length then some (.bp ((cs.drop off).take size)) else none
 | .lp c o => some (.lp c (o + off))
 | _ => none
@[go_sem] theorem avFad_rp (off size : Nat) (cs : List AV) : avFad off size (.rp cs) = if off + size ≤ cs.length then some (.rp ((cs.drop off).take size)) else none:= rfl
@[go_sem] theorem avFad_bp (off size : Nat) (cs : List AV) : avFad off size (.bp cs) = if off + size ≤ cs.length then some (.bp ((cs.drop off).take size)) else none:= rfl
@[go_sem] theorem avFad_lp (off size k o : Nat) : avFad off size (.lp k o) = some (.lp k (o + off)):= rfl
@[go_sem] theorem x_faddr (off size : Nat) (x : Operand) : awX D P (⟨some d,.faddr off size x,none⟩ :: os) (mkE s c) K = bindV (avFad off size (evA s x)) D P os d s c K:= by
 rw [x_val rfl (by intros; simp) (by intros; simp)]
 first | (congr 1; done) | (congr 1; simp only [aval,mkE_ev,avFad]; done) | (congr 1; simp only [aval,mkE_ev,avFad]; rfl)
def avFld (agg : Bool) (off size : Nat) (x : AV) : Option AV:= match x with
 | .agg cs => aval.ld agg size (cs.drop off)
 | _ => none
@[go_sem] theorem avFld_agg (agg : Bool) (off size : Nat) (cs : List AV) : avFld agg off size (.agg cs) = aval.ld agg size (cs.drop off):= rfl
@[go_sem] theorem x_fld (agg : Bool) (off size : Nat) (x : Operand) : awX D P (⟨some d,.fld agg off size x,none⟩ :: os) (mkE s c) K = bindV (avFld agg off size (evA s x)) D P os d s c K:= by
 rw [x_val rfl (by intros; simp) (by intros; simp)]
 first | (congr 1; done) | (congr 1; simp only [aval,mkE_ev,avFld]; done) | (congr 1; simp only [aval,mkE_ev,avFld]; rfl)
def rowP (t : Tok) (x : AV) : AV:= match t with | .bor => .bp (cellsOf x) | _ => .rp (cellsOf x)
@[go_sem] theorem rowP_none (x : AV) : rowP .none x = .rp (cellsOf x):= rfl
@[go_sem] theorem rowP_nil (x : AV) : rowP .nil x = .rp (cellsOf x):= rfl
@[go_sem] theorem rowP_own (τ : List Nat) (x : AV) : rowP (.own τ) x = .rp (cellsOf x):= rfl
@[go_sem] theorem rowP_bor (x : AV) : rowP .bor x = .bp (cellsOf x):= rfl
@[go_sem] theorem avLd_row (t : Tok) (agg : Bool) (size : Nat) (x : AV) : avLd c agg size (rowP t x) = aval.ld agg size (cellsOf x):= by cases t <;> rfl
def avRow (esz e : Nat) (t : Tok) (x : Option AV) : Option AV:= match x with
 | some r => if frB t = false then if r.row = true then if e = esz then some (rowP t r) else none else none else none
 | none => none
@[go_sem] theorem avRow_some (esz : Nat) (t : Tok) (x : AV) (hf : frB t = false) : avRow esz esz t (some x) = if x.row = true then some (rowP t x) else none:= by simp [avRow,hf]
@[go_sem] theorem frB_none : frB .none = false:= rfl
@[go_sem] theorem frB_nil : frB .nil = false:= rfl
@[go_sem] theorem frB_bor : frB .bor = false:= rfl
@[go_sem] theorem frB_own (τ : List Nat) : frB (.own τ) = false:= rfl
@[go_sem] theorem goneB_none : goneB .none = false:= rfl
@[go_sem] theorem goneB_nil : goneB .nil = false:= rfl
@[go_sem] theorem goneB_bor : goneB .bor = false:= rfl
@[go_sem] theorem goneB_own (τ : List Nat) : goneB (.own τ) = false:= rfl
@[go_sem] theorem goneB_fr (τ : List Nat) : goneB (.fr τ) = false:= rfl
def avIad (esz : Nat) (x i : AV) : Option AV:= match x,i with
 | .sl t e rows,.lit (.int _ n) => if 0 ≤ n then avRow esz e t rows[n.toNat]? else none
 | .ml c off len _ _ e,.lit (.int _ n) => if 0 ≤ n ∧ n < (len : Int) then if e = esz then some (.lp c (off + n.toNat * e)) else none else none
 | _,_ => none
@[go_sem] theorem avIad_ml (esz c off len cap : Nat) (g : Bool) (k : IntKind) (n : Int) (h0 : 0 ≤ n) (h1 : n < (len : Int)) : avIad esz (.ml c off len cap g esz) (.lit (.int k n)) = some (.lp c (off + n.toNat * esz)):= by simp [avIad,h0,h1]
@[go_sem] theorem avIad_sl (esz : Nat) (t : Tok) (e : Nat) (rows : List AV) (k : IntKind) (n : Int) : avIad esz (.sl t e rows) (.lit (.int k n)) = if 0 ≤ n then avRow esz e t rows[n.toNat]? else none:= rfl
@[go_sem] theorem x_iaddr (esz : Nat) (x i : Operand) : awX D P (⟨some d,.iaddr esz x i,none⟩ :: os) (mkE s c) K = bindV (avIad esz (evA s x) (evA s i)) D P os d s c K:= by
 rw [x_val rfl (by intros; simp) (by intros; simp)]
 first | (congr 1; done) | (congr 1; simp only [aval,mkE_ev,avIad,avRow,rowP]; done) | (congr 1; simp only [aval,mkE_ev,avIad,avRow,rowP]; rfl)
def avIdra (n esz : Nat) (x i : AV) : Option AV:= match i with
 | .lit (.int _ k) => if 0 ≤ k ∧ k < (n : Int) then match x with
  | .rp cs => if k.toNat * esz + esz ≤ cs.length then some (.rp ((cs.drop (k.toNat * esz)).take esz)) else none
  | .bp cs => if k.toNat * esz + esz ≤ cs.length then some (.bp ((cs.drop (k.toNat * esz)).take esz)) else none
  | .lp c o => some (.lp c (o + k.toNat * esz))
  | _ => none
  else none
 | _ => none
@[go_sem] theorem avIdra_lp (n esz c o : Nat) (k : IntKind) (j : Int) (h0 : 0 ≤ j) (h1 : j < (n : Int)) : avIdra n esz (.lp c o) (.lit (.int k j)) = some (.lp c (o + j.toNat * esz)):= by simp [avIdra,h0,h1]
@[go_sem] theorem x_iadra (n esz : Nat) (x i : Operand) : awX D P (⟨some d,.iadra n esz x i,none⟩ :: os) (mkE s c) K = bindV (avIdra n esz (evA s x) (evA s i)) D P os d s c K:= by
 rw [x_val rfl (by intros; simp) (by intros; simp)]
 first | (congr 1; done) | (congr 1; simp only [aval,mkE_ev,avIdra]; done) | (congr 1; simp only [aval,mkE_ev,avIdra]; rfl)
def avIdxa (agg : Bool) (n esz : Nat) (x i : AV) : Option AV:= match i with
 | .lit (.int _ k) => if 0 ≤ k ∧ k < (n : Int) then match x with
  | .agg cs => aval.ld agg esz (cs.drop (k.toNat * esz))
  | _ => none
  else none
 | _ => none
@[go_sem] theorem avIdxa_agg (agg : Bool) (n esz : Nat) (cs : List AV) (k : IntKind) (j : Int) (h0 : 0 ≤ j) (h1 : j < (n : Int)) : avIdxa agg n esz (.agg cs) (.lit (.int k j)) = aval.ld agg esz (cs.drop (j.toNat * esz)):= by simp [avIdxa,h0,h1]
@[go_sem] theorem x_idxa (agg : Bool) (n esz : Nat) (x i : Operand) : awX D P (⟨some d,.idxa agg n esz x i,none⟩ :: os) (mkE s c) K = bindV (avIdxa agg n esz (evA s x) (evA s i)) D P os d s c K:= by
 rw [x_val rfl (by intros; simp) (by intros; simp)]
 first | (congr 1; done) | (congr 1; simp only [aval,mkE_ev,avIdxa]; done) | (congr 1; simp only [aval,mkE_ev,avIdxa]; rfl)
def avIxs (x i : AV) : Option AV:= match x,i with
 | .lit (.string s),.lit (.int _ n) => if 0 ≤ n then match s[n.toNat]? with
  | some b => some (.lit (.int .u8 b.toNat))
  | none => none
  else none
 | _,_ => none
@[go_sem] theorem x_idxs (x i : Operand) : awX D P (⟨some d,.idxs x i,none⟩ :: os) (mkE s c) K = bindV (avIxs (evA s x) (evA s i)) D P os d s c K:= by
 rw [x_val rfl (by intros; simp) (by intros; simp)]
 first | (congr 1; done) | (congr 1; simp only [aval,mkE_ev,avIxs]; done) | (congr 1; simp only [aval,mkE_ev,avIxs]; rfl)
theorem avIxs_at (b : ByteArray) (k : IntKind) (n : Nat) (h : n < b.size) : avIxs (.lit (.string b)) (.lit (.int k n)) = some (.lit (.int .u8 (b[n].toNat : Nat))):= by
 simp [avIxs,h]
def avExt (x : AV) (i : Nat) : Option AV:= match x with
 | .tup cs => cs[i]?
 | _ => none
@[go_sem] theorem avExt_0 (x : AV) (cs : List AV) : avExt (.tup (x :: cs)) 0 = some x:= rfl
@[go_sem] theorem avExt_1 (x y : AV) (cs : List AV) : avExt (.tup (x :: y :: cs)) 1 = some y:= rfl
@[go_sem] theorem avExt_2 (x y z : AV) (cs : List AV) : avExt (.tup (x :: y :: z :: cs)) 2 = some z:= rfl
@[go_sem] theorem avExt_3 (x y z w : AV) (cs : List AV) : avExt (.tup (x :: y :: z :: w :: cs)) 3 = some w:= rfl
@[go_sem] theorem x_ext (x : Operand) (i : Nat) : awX D P (⟨some d,.ext x i,none⟩ :: os) (mkE s c) K = bindV (avExt (evA s x) i) D P os d s c K:= by
 rw [x_val rfl (by intros; simp) (by intros; simp)]
 first | (congr 1; done) | (congr 1; simp only [aval,mkE_ev,avExt]; done) | (congr 1; simp only [aval,mkE_ev,avExt]; rfl)
def avLens (x : AV) : Option AV:= match x with
 | .lit (.string s) => some (.lit (.int .i64 s.size))
 | _ => none
def avLenl (x : AV) : Option AV:= match x with
 | .sl _ _ rows => some (.lit (.int .i64 rows.length))
 | .ml _ _ n _ _ _ => some (.lit (.int .i64 n))
 | _ => none
@[go_sem] theorem avLenl_m (c off n cap : Nat) (g : Bool) (e : Nat) : avLenl (.ml c off n cap g e) = some (.lit (.int .i64 n)):= rfl
@[go_sem] theorem avLens_s (b : ByteArray) : avLens (.lit (.string b)) = some (.lit (.int .i64 b.size)):= rfl
@[go_sem] theorem avLenl_s (t : Tok) (e : Nat) (rows : List AV) : avLenl (.sl t e rows) = some (.lit (.int .i64 rows.length)):= rfl
@[go_sem] theorem x_lens (x : Operand) : awX D P (⟨some d,.lens x,none⟩ :: os) (mkE s c) K = bindV (avLens (evA s x)) D P os d s c K:= by
 rw [x_val rfl (by intros; simp) (by intros; simp)]
 first | (congr 1; done) | (congr 1; simp only [aval,mkE_ev,avLens]; done) | (congr 1; simp only [aval,mkE_ev,avLens]; rfl)
@[go_sem] theorem x_lenl (x : Operand) : awX D P (⟨some d,.lenl x,none⟩ :: os) (mkE s c) K = bindV (avLenl (evA s x)) D P os d s c K:= by
 rw [x_val rfl (by intros; simp) (by intros; simp)]
 first | (congr 1; done) | (congr 1; simp only [aval,mkE_ev,avLenl]; done) | (congr 1; simp only [aval,mkE_ev,avLenl]; rfl)
def avMm (mx : Bool) (xs : List AV) : Option AV:= match xs.mapM aval.litOf with
 | some vs => match p0 (if mx then Builtin.max_ #[] 0 vs.toArray else Builtin.min_ #[] 0 vs.toArray) with
  | some r => some (.lit r)
  | none => none
 | none => none
@[go_sem] theorem x_mnmx (mx : Bool) (l : List Operand) : awX D P (⟨some d,.mnmx mx l,none⟩ :: os) (mkE s c) K = bindV (avMm mx (l.map (evA s))) D P os d s c K:= by
 rw [x_val rfl (by intros; simp) (by intros; simp)]
 first | (congr 1; done) | (congr 1; simp only [aval,mkE_ev0,avMm]; done) | (congr 1; simp only [aval,mkE_ev0,avMm]; rfl)
def avFill (x : Option (List AV)) : Option AV:= match x with | some cs => some (.agg cs) | none => none
@[go_sem] theorem avFill_some (cs : List AV) : avFill (some cs) = some (.agg cs):= rfl
@[go_sem] theorem x_build (z : List AV) (parts : List (Nat × Nat × Operand)) : awX D P (⟨some d,.build z parts,none⟩ :: os) (mkE s c) K = bindV (avFill (fillA z (parts.map fun q => (q.1,q.2.1,evA s q.2.2)))) D P os d s c K:= by
 rw [x_val rfl (by intros; simp) (by intros; simp)]
 first | (congr 1; done) | (congr 1; simp only [aval,mkE_ev,avFill]; done) | (congr 1; simp only [aval,mkE_ev,avFill]; rfl)
@[go_sem] theorem fillA_nil (cells : List AV) : fillA cells [] = some cells:= rfl
@[go_sem] theorem fillA_cons (cells : List AV) (off size : Nat) (x : AV) (rest : List (Nat × Nat × AV)) : fillA cells ((off,size,x) :: rest) = if x.row = true then if (cellsOf x).length = size then if off + size ≤ cells.length then fillA (cells.take off ++ cellsOf x ++ cells.drop (off + size)) rest else none else none else none:= rfl
def avSto (size : Nat) (c : List (Nat × List AV)) (p x : AV) : Option (List (Nat × List AV)):= match p with
 | .lp k o => match getC c k with
  | some cs => if x.row = true then if oneL (cellsOf x) = true then if (cellsOf x).length = size then if o + size ≤ cs.length then some (putA c k (cs.take o ++ cellsOf x ++ cs.drop (o + size))) else none else none else none else none
  | none => none
 | _ => none
def avSto1 (size k o : Nat) (c : List (Nat × List AV)) (x : AV) (t : Option (List AV)) : Option (List (Nat × List AV)):= match t with
 | some cs => if x.row = true then if oneL (cellsOf x) = true then if (cellsOf x).length = size then if o + size ≤ cs.length then some (putA c k (cs.take o ++ cellsOf x ++ cs.drop (o + size))) else none else none else none else none
 | none => none
@[go_sem] theorem avSto_lp (size k o : Nat) (x : AV) : avSto size c (.lp k o) x = avSto1 size k o c x (getC c k):= rfl
@[go_sem] theorem avSto1_some (size k o : Nat) (x : AV) (cs : List AV) : avSto1 size k o c x (some cs) = if x.row = true then if oneL (cellsOf x) = true then if (cellsOf x).length = size then if o + size ≤ cs.length then some (putA c k (cs.take o ++ cellsOf x ++ cs.drop (o + size))) else none else none else none else none:= rfl
@[go_sem] theorem x_store (size : Nat) (p x : Operand) : awX D P (⟨none,.store size p x,none⟩ :: os) (mkE s c) K = bindC (avSto size c (evA s p) (evA s x)) D P os s K:= by
 rw [x_step (by intros; simp) (by intros; simp) (by intros; simp) (by intros; simp) (by intros; simp) rfl]
 simp only [step,mkE_ev,stepStore,mkE_c]
 unfold bindE bindC avSto
 cases evA s p with
 | lp k o =>
  simp only []
  cases getC c k with
  | none => rfl
  | some cs =>
   simp only [mkE_putc]
   by_cases h1 : (evA s x).row = true
   ·by_cases h2 : oneL (cellsOf (evA s x)) = true
    ·by_cases h3 : (cellsOf (evA s x)).length = size
     ·by_cases h4 : o + size ≤ cs.length
      ·simp only [h1,h2,h3,h4,if_true]
      ·simp only [h1,h2,h3,h4,if_true,if_false]
     ·simp only [h1,h2,h3,if_true,if_false]
    ·simp [h1,h2]
   ·simp [h1]
 | _ => rfl
theorem x_alloc0 (z : List AV) : awX false P (⟨some d,.alloc z,none⟩ :: os) E K = bindE (stepAlloc d z E) false P os K:= by
 rw [awX_f]
 show (∃ E',stepAlloc d z E = some E' ∧ awX false P os E' K) = _
 unfold bindE
 cases stepAlloc d z E <;> simp
theorem x_box0 (x : Operand) : awX false P (⟨some d,.box x,none⟩ :: os) E K = bindE (stepBox d x E) false P os K:= by
 rw [awX_f]
 show (∃ E',stepBox d x E = some E' ∧ awX false P os E' K) = _
 unfold bindE
 cases stepBox d x E <;> simp
theorem x_alloc1 (z : List AV) : awX true P (⟨some d,.alloc z,none⟩ :: os) E K = (E.c d = none ∧ bindE (stepAlloc d z E) true P os K):= by
 have hc : clean ⟨some d,.alloc z,none⟩ E ↔ E.c d = none:= ⟨fun h => h rfl d rfl,fun h _ k hk => by simp only [Option.some.injEq] at hk; subst hk; exact h⟩
 rw [awX_t,hc]
 congr 1
 show (∃ E',stepAlloc d z E = some E' ∧ awX true P os E' K) = _
 unfold bindE
 cases stepAlloc d z E <;> simp
theorem x_box1 (x : Operand) : awX true P (⟨some d,.box x,none⟩ :: os) E K = (E.c d = none ∧ bindE (stepBox d x E) true P os K):= by
 have hc : clean ⟨some d,.box x,none⟩ E ↔ E.c d = none:= ⟨fun h => h rfl d rfl,fun h _ k hk => by simp only [Option.some.injEq] at hk; subst hk; exact h⟩
 rw [awX_t,hc]
 congr 1
 show (∃ E',stepBox d x E = some E' ∧ awX true P os E' K) = _
 unfold bindE
 cases stepBox d x E <;> simp
def guardN (x : Option (List AV)) (o : Option Env) : Option Env:= match x with | none => o | some _ => none
@[go_sem] theorem guardN_none (o : Option Env) : guardN none o = o:= rfl
def allocE (d : Nat) (z : List AV) (s : List (Nat × AV)) (c : List (Nat × List AV)) : Option Env:= if oneL z = true then some (mkE (putA s d (.lp d 0)) (putA c d z)) else none
@[go_sem] theorem allocE_1 (z : List AV) : allocE d z s c = if oneL z = true then some (mkE (putA s d (.lp d 0)) (putA c d z)) else none:= rfl
def allocM (d : Nat) (z : List AV) (s : List (Nat × AV)) (c : List (Nat × List AV)) : Option (List AV) → Option Env
 | none => allocE d z s c
 | some _ => allocE d z (mapV (kill d) s) (mapV (killL d) (dropL [d] c))
@[go_sem] theorem allocM_none (z : List AV) : allocM d z s c none = allocE d z s c:= rfl
@[go_sem] theorem allocM_some (z v : List AV) : allocM d z s c (some v) = allocE d z (mapV (kill d) s) (mapV (killL d) (dropL [d] c)):= rfl
theorem allocM_mk (z : List AV) (h : getC c d = none) : stepAlloc d z (mkE s c) = allocE d z s c:= by
 simp only [stepAlloc,fresh_frE,h,frE_none,mkE_putc,mkE_put,allocE]
theorem getC_forg : getC (mapV (killL d) (dropL [d] c)) d = none:= by
 rw [getC_mapV,getC_dropL]
 simp
theorem stepAlloc_fr (z : List AV) : stepAlloc d z (mkE s c) = allocM d z s c (getC c d):= by
 cases h : getC c d with
 | none => exact allocM_mk z h
 | some v =>
  rw [allocM_some,← allocM_mk z getC_forg]
  simp only [stepAlloc,fresh_frE,h,frE_some,getC_forg,frE_none]
@[go_sem] theorem x_alloc (z : List AV) : awX false P (⟨some d,.alloc z,none⟩ :: os) (mkE s c) K = bindE (allocM d z s c (getC c d)) false P os K:= by
 rw [x_alloc0,stepAlloc_fr]
@[go_sem] theorem x_allocD (z : List AV) : awX true P (⟨some d,.alloc z,none⟩ :: os) (mkE s c) K = bindE (guardN (getC c d) (allocE d z s c)) true P os K:= by
 rw [x_alloc1,stepAlloc_fr,mkE_c]
 cases h : getC c d with
 | none => simp only [true_and,allocM_none,guardN_none]
 | some v => simp [guardN,bindE]
def boxE (d : Nat) (x : AV) (s : List (Nat × AV)) (c : List (Nat × List AV)) : Option Env:= if x.row = true then if oneL (cellsOf x) = true then some (mkE (putA s d (.lp d 0)) (putA c d (cellsOf x))) else none else none
@[go_sem] theorem boxE_1 (x : AV) : boxE d x s c = if x.row = true then if oneL (cellsOf x) = true then some (mkE (putA s d (.lp d 0)) (putA c d (cellsOf x))) else none else none:= rfl
def boxM (d : Nat) (x : Operand) (s : List (Nat × AV)) (c : List (Nat × List AV)) : Option (List AV) → Option Env
 | none => boxE d (evA s x) s c
 | some _ => boxE d (evA (mapV (kill d) s) x) (mapV (kill d) s) (mapV (killL d) (dropL [d] c))
@[go_sem] theorem boxM_none (x : Operand) : boxM d x s c none = boxE d (evA s x) s c:= rfl
@[go_sem] theorem boxM_some (x : Operand) (v : List AV) : boxM d x s c (some v) = boxE d (evA (mapV (kill d) s) x) (mapV (kill d) s) (mapV (killL d) (dropL [d] c)):= rfl
theorem boxM_mk (x : Operand) (h : getC c d = none) : stepBox d x (mkE s c) = boxE d (evA s x) s c:= by
 simp only [stepBox,fresh_frE,h,frE_none,mkE_putc,mkE_put,boxE,mkE_ev]
theorem stepBox_fr (x : Operand) : stepBox d x (mkE s c) = boxM d x s c (getC c d):= by
 cases h : getC c d with
 | none => exact boxM_mk x h
 | some v =>
  rw [boxM_some,← boxM_mk x getC_forg]
  simp only [stepBox,fresh_frE,h,frE_some,getC_forg,frE_none]
@[go_sem] theorem x_box (x : Operand) : awX false P (⟨some d,.box x,none⟩ :: os) (mkE s c) K = bindE (boxM d x s c (getC c d)) false P os K:= by
 rw [x_box0,stepBox_fr]
@[go_sem] theorem x_boxD (x : Operand) : awX true P (⟨some d,.box x,none⟩ :: os) (mkE s c) K = bindE (guardN (getC c d) (boxE d (evA s x) s c)) true P os K:= by
 rw [x_box1,stepBox_fr,mkE_c]
 cases h : getC c d with
 | none => simp only [true_and,boxM_none,guardN_none]
 | some v => simp [guardN,bindE]
theorem x_mks0 (b : Bool) (e y : Nat) (z : List AV) (l q : Operand) : awX false P (⟨some d,.mks b e y z l q,none⟩ :: os) E K = bindE (stepMks b e y d z (E.ev l) (E.ev q) E) false P os K:= by
 rw [awX_f]
 show (∃ E',stepMks b e y d z (E.ev l) (E.ev q) E = some E' ∧ awX false P os E' K) = _
 unfold bindE
 cases stepMks b e y d z (E.ev l) (E.ev q) E <;> simp
theorem x_mko0 (e y : Nat) (q : Operand) : awX false P (⟨some d,.mko e y q,none⟩ :: os) E K = bindE (stepMko e y d (E.ev q) E) false P os K:= by
 rw [awX_f]
 show (∃ E',stepMko e y d (E.ev q) E = some E' ∧ awX false P os E' K) = _
 unfold bindE
 cases stepMko e y d (E.ev q) E <;> simp
def mkoM (e y d : Nat) (q : AV) (s : List (Nat × AV)) (c : List (Nat × List AV)) : Option Env:= match q with
 | .lit (.int _ n) => if 0 ≤ n ∧ n ≤ 4294967296 ∧ y ≤ 32768 then some (mkE (putA s d (.sl (.own [d]) e [])) c) else none
 | _ => none
@[go_sem] theorem mkoM_l (e y : Nat) (k : IntKind) (n : Int) (h0 : 0 ≤ n) (h1 : n ≤ 4294967296) (h2 : y ≤ 32768) : mkoM e y d (.lit (.int k n)) s c = some (mkE (putA s d (.sl (.own [d]) e [])) c):= by simp [mkoM,h0,h1,h2]
@[go_sem] theorem x_mko (e y : Nat) (q : Operand) : awX false P (⟨some d,.mko e y q,none⟩ :: os) (mkE s c) K = bindE (mkoM e y d (evA s q) s c) false P os K:= by
 rw [x_mko0,mkE_ev]
 congr 1
 unfold stepMko mkoM
 cases evA s q with
 | lit u =>
  cases u with
  | int k n => simp only [intOfA,mkE_put]
  | _ => rfl
 | _ => rfl
def mksE (b : Bool) (e d : Nat) (z : List AV) (n : Nat) (s : List (Nat × AV)) (c : List (Nat × List AV)) : Option Env:= if oneL z = true then some (mkE (putA s d (.ml d 0 n n b e)) (putA c d (List.replicate n z).flatten)) else none
@[go_sem] theorem mksE_1 (b : Bool) (e : Nat) (z : List AV) (n : Nat) : mksE b e d z n s c = if oneL z = true then some (mkE (putA s d (.ml d 0 n n b e)) (putA c d (List.replicate n z).flatten)) else none:= rfl
def mksM (b : Bool) (e y d : Nat) (z : List AV) (l q : AV) (s : List (Nat × AV)) (c : List (Nat × List AV)) (o : Option (List AV)) : Option Env:= match l,q with
 | .lit (.int _ n),.lit (.int _ n') => if n = n' ∧ 0 ≤ n ∧ n ≤ 4294967296 ∧ y ≤ 32768 then match o with
  | none => mksE b e d z n.toNat s c
  | some _ => mksE b e d z n.toNat (mapV (kill d) s) (mapV (killL d) (dropL [d] c))
  else none
 | _,_ => none
@[go_sem] theorem x_mks (b : Bool) (e y : Nat) (z : List AV) (l q : Operand) : awX false P (⟨some d,.mks b e y z l q,none⟩ :: os) (mkE s c) K = bindE (mksM b e y d z (evA s l) (evA s q) s c (getC c d)) false P os K:= by
 rw [x_mks0,mkE_ev,mkE_ev]
 congr 1
 unfold stepMks mksM
 have key : ∀ n : Nat,(if oneL z = true then some ((((mkE s c).fresh d).putc d (List.replicate n z).flatten).put d (.ml d 0 n n b e)) else none) = match getC c d with
   | none => mksE b e d z n s c
   | some _ => mksE b e d z n (mapV (kill d) s) (mapV (killL d) (dropL [d] c)):= by
  intro n
  cases h : getC c d with
  | none => simp only [fresh_frE,h,frE_none,mkE_putc,mkE_put,mksE]
  | some v => simp only [fresh_frE,h,frE_some,mkE_putc,mkE_put,mksE]
 cases evA s l with
 | lit u =>
  cases u with
  | int k n =>
   cases evA s q with
   | lit u' =>
    cases u' with
    | int k' n' =>
     simp only [intOfA]
     split
     ·exact key _
     ·rfl
    | _ => rfl
   | _ => rfl
  | _ => cases evA s q <;> rfl
 | _ => cases evA s q <;> rfl
def avBsl (esz d : Nat) (rows : Option (List AV)) : Option AV:= match rows with | some rows => some (.sl (.own [d]) esz rows) | none => none
@[go_sem] theorem avBsl_some (esz : Nat) (rows : List AV) : avBsl esz d (some rows) = some (.sl (.own [d]) esz rows):= rfl
@[go_sem] theorem x_bslice (n esz : Nat) (parts : List Operand) : awX D P (⟨some d,.bslice n esz parts,none⟩ :: os) (mkE s c) K = bindV (avBsl esz d (rowsOf esz (parts.map (evA s)))) D P os d s c K:= by
 rw [x_step (by intros; simp) (by intros; simp) (by intros; simp) (by intros; simp) (by intros; simp) rfl]
 simp only [step,mkE_ev0,stepBslice]
 unfold bindE bindV avBsl
 cases rowsOf esz (parts.map (evA s)) <;> simp [mkE_put]
@[go_sem] theorem rowsOf_nil (esz : Nat) : rowsOf esz [] = some []:= rfl
def rowsC (esz : Nat) (r : Option AV) (xs : Option (List AV)) : Option (List AV):= match r,xs with
 | some r,some rs => if r.row = true then if oneL (cellsOf r) = true then if (cellsOf r).length = esz then some (r :: rs) else none else none else none
 | _,_ => none
@[go_sem] theorem rowsOf_cons (esz : Nat) (x : AV) (xs : List AV) : rowsOf esz (x :: xs) = rowsC esz (closeV x) (rowsOf esz xs):= by
 simp only [rowsOf,rowsC]
 cases closeV x <;> cases rowsOf esz xs <;> simp
@[go_sem] theorem rowsC_some (esz : Nat) (r : AV) (rs : List AV) : rowsC esz (some r) (some rs) = if r.row = true then if oneL (cellsOf r) = true then if (cellsOf r).length = esz then some (r :: rs) else none else none else none:= rfl
@[go_sem] theorem closeV_lit (v : Value) : closeV (.lit v) = some (.lit v):= rfl
@[go_sem] theorem closeV_none (e : Nat) (r : List AV) : closeV (.sl .none e r) = some (.sl .none e r):= rfl
@[go_sem] theorem closeV_own (τ : List Nat) (e : Nat) (r : List AV) : closeV (.sl (.own τ) e r) = some (.sl .none e r):= rfl
@[go_sem] theorem closeV_nil (e : Nat) : closeV (.sl .nil e []) = some (.sl .nil e []):= rfl
@[go_sem] theorem closeV_rp (cs : List AV) : closeV (.rp cs) = some (.rp cs):= rfl
@[go_sem] theorem closeV_gl (i : Nat) : closeV (.gl i) = some (.gl i):= rfl
@[go_sem] theorem closeV1_lit (v : Value) : closeV.closeV1 (.lit v) = some (.lit v):= rfl
@[go_sem] theorem closeV1_none (e : Nat) (r : List AV) : closeV.closeV1 (.sl .none e r) = some (.sl .none e r):= rfl
@[go_sem] theorem closeV1_own (τ : List Nat) (e : Nat) (r : List AV) : closeV.closeV1 (.sl (.own τ) e r) = some (.sl .none e r):= rfl
@[go_sem] theorem closeV1_nil (e : Nat) : closeV.closeV1 (.sl .nil e []) = some (.sl .nil e []):= rfl
@[go_sem] theorem closeV1_rp (cs : List AV) : closeV.closeV1 (.rp cs) = some (.rp cs):= rfl
@[go_sem] theorem closeV1_gl (i : Nat) : closeV.closeV1 (.gl i) = some (.gl i):= rfl
def closeL : List AV → Option (List AV)
 | [] => some []
 | x :: xs => match closeV.closeV1 x,closeL xs with
  | some y,some ys => some (y :: ys)
  | _,_ => none
theorem closeL_eq : ∀ cs : List AV,cs.mapM closeV.closeV1 = closeL cs
 | [] => rfl
 | x :: xs => by
  rw [List.mapM_cons,closeL_eq xs]
  simp only [closeL]
  cases closeV.closeV1 x <;> cases closeL xs <;> rfl
def consO (x : Option AV) (xs : Option (List AV)) : Option (List AV):= match x,xs with
 | some y,some ys => some (y :: ys)
 | _,_ => none
@[go_sem] theorem consO_some (x : AV) (xs : List AV) : consO (some x) (some xs) = some (x :: xs):= rfl
@[go_sem] theorem closeL_nil : closeL [] = some []:= rfl
@[go_sem] theorem closeL_cons (x : AV) (xs : List AV) : closeL (x :: xs) = consO (closeV.closeV1 x) (closeL xs):= by
 simp only [closeL,consO]
@[go_sem] theorem closeV_agg (cs : List AV) : closeV (.agg cs) = avFill (closeL cs):= by
 simp only [closeV,closeL_eq,avFill]
 cases closeL cs <;> rfl
def avApp (esz bytes : Nat) (bs : List Nat) (d : Nat) (s : List (Nat × AV)) (c : List (Nat × List AV)) (x y : AV) : Option Env:= if okBs bs x then stepApp esz bytes d x y (mkE s c) else none
@[go_sem] theorem x_app (esz bytes : Nat) (bs : List Nat) (x y : Operand) : awX D P (⟨some d,.app esz bytes bs x y,none⟩ :: os) (mkE s c) K = bindE (avApp esz bytes bs d s c (evA s x) (evA s y)) D P os K:= by
 rw [x_step (by intros; simp) (by intros; simp) (by intros; simp) (by intros; simp) (by intros; simp) rfl]
 simp only [step,mkE_ev,avApp]
theorem avApp_nil (esz bytes e : Nat) (bs : List Nat) (rows rows' : List AV) (tk : Tok) (h : rows'.length ≤ 4294967296) (hb : bytes ≤ 32768) (hg : goneB tk = false:= by rfl) : avApp esz bytes bs d s c (.sl .nil e rows) (.sl tk esz rows') = some (mkE (putA s d (.sl (.own [d]) esz rows')) c):= by
 simp [avApp,okBs,stepApp,h,hb,hg,mkE_put]
theorem avApp_own (esz bytes : Nat) (bs : List Nat) (τ : List Nat) (rows rows' : List AV) (tk : Tok) (h : rows.length + rows'.length ≤ 4294967296) (hb : bytes ≤ 32768) (ho : okBs bs (.sl (.own τ) esz rows) = true) (hg : goneB tk = false:= by rfl) :
  avApp esz bytes bs d s c (.sl (.own τ) esz rows) (.sl tk esz rows') = some (mkE (putA (mapV (strip τ) s) d (.sl (.own [d]) esz (rows ++ rows'))) (mapV (stripL τ) c)):= by
 simp [avApp,ho,stepApp,h,hb,hg,mkE_strip,mkE_put]
theorem avApp_fr (esz bytes : Nat) (bs : List Nat) (τ : List Nat) (rows rows' : List AV) (tk : Tok) (h : rows.length + rows'.length ≤ 4294967296) (hb : bytes ≤ 32768) (ho : okBs bs (.sl (.fr τ) esz rows) = true) (hg : goneB tk = false:= by rfl) :
  avApp esz bytes bs d s c (.sl (.fr τ) esz rows) (.sl tk esz rows') = some (mkE (putA (mapV (strip τ) s) d (.sl (.fr [d]) esz (rows ++ rows'))) (mapV (stripL τ) c)):= by
 simp [avApp,ho,stepApp,h,hb,hg,mkE_strip,mkE_put]
@[go_sem] theorem x_callD (f : FuncId) (args : List Operand) (dst : Option Nat) : awX true P (⟨dst,.call f args,none⟩ :: os) (mkE s c) K = callX true P dst os s c K f (args.map (evA s)) (mapO (lower (getC c) 8) (args.map (evA s))):= by
 have hc : clean ⟨dst,.call f args,none⟩ (mkE s c):= by
  intro h
  obtain ⟨_,_,⟨z,hz⟩ | ⟨z,hz⟩⟩:= cls_a h <;> cases hz
 rw [← mkE_ev0 s c]
 rw [awX_t,eq_true hc,true_and]
 simp only [callX,Bool.true_eq_false,false_and,or_false]
 rfl
@[go_sem] theorem x_callT (f : FuncId) (args : List Operand) (dst : Option Nat) : awX false P (⟨dst,.callm f args,none⟩ :: os) (mkE s c) K = callX false P dst os s c K f (args.map (evA s)) (mapO (lower (getC c) 8) (args.map (evA s))):= by
 rw [← mkE_ev0 s c]
 rw [awX_f]
 simp only [callX,true_and]
 rfl
@[go_sem] theorem x_callvD (x : Operand) (args : List Operand) (dst : Option Nat) : awX true P (⟨dst,.callv x args,none⟩ :: os) (mkE s c) K = callFX true P dst os s c K (evA s x) (args.map (evA s)):= by
 have hc : clean ⟨dst,.callv x args,none⟩ (mkE s c):= by
  intro h
  obtain ⟨_,_,⟨z,hz⟩ | ⟨z,hz⟩⟩:= cls_a h <;> cases hz
 rw [← mkE_ev0 s c]
 rw [awX_t,eq_true hc,true_and]
 simp only [callFX,callX,Bool.true_eq_false,false_and,or_false]
 rfl
@[go_sem] theorem x_callvT (x : Operand) (args : List Operand) (dst : Option Nat) : awX false P (⟨dst,.callvm x args,none⟩ :: os) (mkE s c) K = callFX false P dst os s c K (evA s x) (args.map (evA s)):= by
 rw [← mkE_ev0 s c]
 rw [awX_f]
 simp only [callFX,callX,true_and]
 rfl
end
end
section
variable {C : Nat → Option (List AV)} {n : Nat}
@[go_sem] theorem mapO_nil {α β : Type} (f : α → Option β) : mapO f [] = some []:= rfl
def catO {β : Type} (x : Option β) (xs : Option (List β)) : Option (List β):= match x,xs with
 | some y,some ys => some (y :: ys)
 | _,_ => none
@[go_sem] theorem catO_some {β : Type} (x : β) (xs : List β) : catO (some x) (some xs) = some (x :: xs):= rfl
@[go_sem] theorem mapO_cons {α β : Type} (f : α → Option β) (x : α) (xs : List α) : mapO f (x :: xs) = catO (f x) (mapO f xs):= by
 simp only [mapO,catO]
 cases f x <;> cases mapO f xs <;> rfl
def aggO (f : List AV → AV) (x : Option (List AV)) : Option AV:= match x with | some l => some (f l) | none => none
@[go_sem] theorem aggO_some (f : List AV → AV) (l : List AV) : aggO f (some l) = some (f l):= rfl
def cloO (f : Fn) (x y : Option (List AV)) : Option AV:= match x,y with | some l,some m => some (.clo f l m) | _,_ => none
@[go_sem] theorem cloO_some (f : Fn) (l m : List AV) : cloO f (some l) (some m) = some (.clo f l m):= rfl
def ifcO (t : TypeId) (x : Option AV) : Option AV:= match x with | some l => some (.ifc t l) | none => none
@[go_sem] theorem ifcO_some (t : TypeId) (x : AV) : ifcO t (some x) = some (.ifc t x):= rfl
def lpO (f : List AV → Option AV) (x : Option (List AV)) : Option AV:= match x with | some l => f l | none => none
@[go_sem] theorem lpO_some (f : List AV → Option AV) (l : List AV) : lpO f (some l) = f l:= rfl
@[go_sem] theorem lower_lit (v : Value) : lower C (n + 1) (.lit v) = some (.lit v):= rfl
@[go_sem] theorem lower_sl (t : Tok) (e : Nat) (r : List AV) : lower C (n + 1) (.sl t e r) = some (.sl (lowTok t) e r):= rfl
@[go_sem] theorem lower_agg (cs : List AV) : lower C (n + 1) (.agg cs) = aggO .agg (mapO (lower C n) cs):= rfl
@[go_sem] theorem lower_lp (k o : Nat) : lower C (n + 1) (.lp k o) = lpO (fun cs => aggO .bp (mapO (lower C n) (cs.drop o))) (C k):= rfl
@[go_sem] theorem lower_clo (f : Fn) (a b : List AV) : lower C (n + 1) (.clo f a b) = cloO f (mapO (lower C n) a) (mapO (lower C n) b):= by
 simp only [lower,lowerM,cloO]
 cases mapO (lowerM [] C n) a <;> cases mapO (lowerM [] C n) b <;> rfl
@[go_sem] theorem lower_ifc (t : TypeId) (v : AV) : lower C (n + 1) (.ifc t v) = ifcO t (lower C n v):= rfl
@[go_sem] theorem lower_rp (cs : List AV) : lower C (n + 1) (.rp cs) = some (.rp cs):= rfl
@[go_sem] theorem lower_bp (cs : List AV) : lower C (n + 1) (.bp cs) = some (.bp cs):= rfl
@[go_sem] theorem lower_gl (i : Nat) : lower C (n + 1) (.gl i) = some (.gl i):= rfl
@[go_sem] theorem lower_gp (i : Nat) : lower C (n + 1) (.gp i) = some (.gp i):= rfl
@[go_sem] theorem lower_mp (k : List Value) (v : List AV) : lower C (n + 1) (.mp k v) = some (.mp k v):= rfl
@[go_sem] theorem lowTok_own (τ : List Nat) : lowTok (.own τ) = .none:= rfl
@[go_sem] theorem lowTok_none : lowTok .none = .none:= rfl
@[go_sem] theorem lowTok_nil : lowTok .nil = .nil:= rfl
@[go_sem] theorem lowTok_bor : lowTok .bor = .bor:= rfl
@[go_sem] theorem retag_lit (d : Nat) (v : Value) : retag d (.lit v) = .lit v:= rfl
@[go_sem] theorem retag_own (d : Nat) (t : List Nat) (e : Nat) (r : List AV) : retag d (.sl (.own t) e r) = .sl (.own (d :: t)) e r:= rfl
@[go_sem] theorem retag_none (d : Nat) (e : Nat) (r : List AV) : retag d (.sl .none e r) = .sl .none e r:= rfl
@[go_sem] theorem retag_nil (d : Nat) (e : Nat) (r : List AV) : retag d (.sl .nil e r) = .sl .nil e r:= rfl
@[go_sem] theorem retag_agg (d : Nat) (cs : List AV) : retag d (.agg cs) = .agg (retagL d cs):= rfl
@[go_sem] theorem retag_tup (d : Nat) (cs : List AV) : retag d (.tup cs) = .tup (retagL d cs):= rfl
@[go_sem] theorem retag_ifc (d : Nat) (t : TypeId) (v : AV) : retag d (.ifc t v) = .ifc t (retag d v):= rfl
@[go_sem] theorem retag_rp (d : Nat) (cs : List AV) : retag d (.rp cs) = .rp cs:= rfl
@[go_sem] theorem retag_gl (d : Nat) (i : Nat) : retag d (.gl i) = .gl i:= rfl
@[go_sem] theorem retag_mp (d : Nat) (k : List Value) (v : List AV) : retag d (.mp k v) = .mp k v:= rfl
@[go_sem] theorem retagL_nil (d : Nat) : retagL d [] = []:= rfl
@[go_sem] theorem retagL_cons (d : Nat) (x : AV) (xs : List AV) : retagL d (x :: xs) = retag d x :: retagL d xs:= rfl
@[go_sem] theorem retv_lit (k : Bool) (v : Value) : retv C k (n + 1) (.lit v) = some (.lit v):= rfl
@[go_sem] theorem retv_gl (k : Bool) (i : Nat) : retv C k (n + 1) (.gl i) = some (.gl i):= rfl
@[go_sem] theorem retv_mp (k : Bool) (a : List Value) (v : List AV) : retv C k (n + 1) (.mp a v) = some (.mp a v):= rfl
@[go_sem] theorem retv_rp (k : Bool) (cs : List AV) : retv C k (n + 1) (.rp cs) = some (.rp cs):= rfl
@[go_sem] theorem retv_ownt (τ : List Nat) (e : Nat) (r : List AV) : retv C true (n + 1) (.sl (.own τ) e r) = some (.sl (.own τ) e r):= rfl
@[go_sem] theorem retv_ownf (τ : List Nat) (e : Nat) (r : List AV) : retv C false (n + 1) (.sl (.own τ) e r) = some (.sl .none e r):= rfl
@[go_sem] theorem retv_none (k : Bool) (e : Nat) (r : List AV) : retv C k (n + 1) (.sl .none e r) = some (.sl .none e r):= rfl
@[go_sem] theorem retv_nil (k : Bool) (e : Nat) (r : List AV) : retv C k (n + 1) (.sl .nil e r) = some (.sl .nil e r):= rfl
@[go_sem] theorem retv_agg (k : Bool) (cs : List AV) : retv C k (n + 1) (.agg cs) = aggO .agg (mapO (retv C k n) cs):= rfl
@[go_sem] theorem retv_tup (k : Bool) (cs : List AV) : retv C k (n + 1) (.tup cs) = aggO .tup (mapO (retv C k n) cs):= rfl
@[go_sem] theorem retv_ifc (k : Bool) (t : TypeId) (v : AV) : retv C k (n + 1) (.ifc t v) = ifcO t (retv C k n v):= rfl
@[go_sem] theorem retv_lp (k : Bool) (c o : Nat) : retv C k (n + 1) (.lp c o) = if 100000 ≤ c then (if k = true then some (.lp c o) else none) else lpO (fun cs => aggO .rp (mapO (retv C false n) (cs.drop o))) (C c):= rfl
@[go_sem] theorem rvVal_tmp (s : List (Nat × AV)) (c : List (Nat × List AV)) (t : Nat) : rvVal (mkE s c) (.tmp t) = some (getA s t):= rfl
def rvC (agg : Bool) (size : Nat) (c : List (Nat × List AV)) (x : AV) : Option AV:= match x with
 | .lp k o => avLd1 agg size o (getC c k)
 | _ => none
@[go_sem] theorem rvC_lp (agg : Bool) (size k o : Nat) (c : List (Nat × List AV)) : rvC agg size c (.lp k o) = avLd1 agg size o (getC c k):= rfl
@[go_sem] theorem rvVal_cell (s : List (Nat × AV)) (c : List (Nat × List AV)) (agg : Bool) (size t : Nat) : rvVal (mkE s c) (.cell agg size t) = rvC agg size c (getA s t):= by
 simp only [rvVal,mkE_s,mkE_c,rvC,avLd1]
 cases getA s t <;> rfl
def retT (x : Option (List AV)) : Option AV:= match x with
 | some [y] => some y
 | some ys => some (.tup ys)
 | none => none
@[go_sem] theorem retT_0 : retT (some []) = some (.tup []):= rfl
@[go_sem] theorem retT_1 (x : AV) : retT (some [x]) = some x:= rfl
@[go_sem] theorem retT_2 (x y : AV) (r : List AV) : retT (some (x :: y :: r)) = some (.tup (x :: y :: r)):= rfl
def retS (c : List (Nat × List AV)) (x : Option (List AV)) : Option AV:= match x with
 | some xs => retT (mapO (retv (locC (getC c)) true 8) xs)
 | none => none
@[go_sem] theorem retS_some (c : List (Nat × List AV)) (xs : List AV) : retS c (some xs) = retT (mapO (retv (locC (getC c)) true 8) xs):= rfl
@[go_sem] theorem locC_ap (f : Nat → Option (List AV)) (k : Nat) : locC f k = if k < 100000 then f k else none:= rfl
@[go_sem] theorem retR_mk (s : List (Nat × AV)) (c : List (Nat × List AV)) (v : List RV) : retR (mkE s c) v = retS c (mapO (rvVal (mkE s c)) v):= rfl
@[go_sem] theorem env0_mk' (args : List AV) : env0 args = mkE (args0 args 0) []:= rfl
@[go_sem] theorem args0_nil (k : Nat) : args0 [] k = []:= rfl
@[go_sem] theorem args0_cons (x : AV) (xs : List AV) (k : Nat) : args0 (x :: xs) k = (k,x) :: args0 xs (k + 1):= rfl
end
section
variable {d : Option Nat} {g : Option (Nat × Bool)} {os : List AOper}
@[go_sem] theorem allocs_nil : allocs [] = []:= rfl
@[go_sem] theorem allocs_alloc (k : Nat) (z : List AV) : allocs (⟨some k,.alloc z,g⟩ :: os) = k :: allocs os:= rfl
@[go_sem] theorem allocs_box (k : Nat) (z : Operand) : allocs (⟨some k,.box z,g⟩ :: os) = k :: allocs os:= rfl
@[go_sem] theorem allocs_mov (x : Operand) : allocs (⟨d,.mov x,g⟩ :: os) = allocs os:= rfl
@[go_sem] theorem allocs_pick (x y z : Operand) : allocs (⟨d,.pick x y z,g⟩ :: os) = allocs os:= rfl
@[go_sem] theorem allocs_build (z : List AV) (p : List (Nat × Nat × Operand)) : allocs (⟨d,.build z p,g⟩ :: os) = allocs os:= rfl
@[go_sem] theorem allocs_bslice (n e : Nat) (p : List Operand) : allocs (⟨d,.bslice n e p,g⟩ :: os) = allocs os:= rfl
@[go_sem] theorem allocs_load (a : Bool) (n : Nat) (x : Operand) : allocs (⟨d,.load a n x,g⟩ :: os) = allocs os:= rfl
@[go_sem] theorem allocs_store (n : Nat) (x y : Operand) : allocs (⟨d,.store n x y,g⟩ :: os) = allocs os:= rfl
@[go_sem] theorem allocs_nilchk (x : Operand) : allocs (⟨d,.nilchk x,g⟩ :: os) = allocs os:= rfl
@[go_sem] theorem allocs_bin (o : BinOp) (t : TypeId) (x y : Operand) : allocs (⟨d,.bin o t x y,g⟩ :: os) = allocs os:= rfl
@[go_sem] theorem allocs_eqb (n : Bool) (t : TypeId) (x y : Operand) : allocs (⟨d,.eqb n t x y,g⟩ :: os) = allocs os:= rfl
@[go_sem] theorem allocs_eqa (n : Bool) (ks : List CK) (x y : Operand) : allocs (⟨d,.eqa n ks x y,g⟩ :: os) = allocs os:= rfl
@[go_sem] theorem allocs_eqi (n : Bool) (x y : Operand) : allocs (⟨d,.eqi n x y,g⟩ :: os) = allocs os:= rfl
@[go_sem] theorem allocs_tas (t : TypeId) (z : AV) (x : Operand) : allocs (⟨d,.tas t z x,g⟩ :: os) = allocs os:= rfl
@[go_sem] theorem allocs_b2s (x : Operand) : allocs (⟨d,.b2s x,g⟩ :: os) = allocs os:= rfl
@[go_sem] theorem allocs_eqn (n : Bool) (x : Operand) : allocs (⟨d,.eqn n x,g⟩ :: os) = allocs os:= rfl
@[go_sem] theorem allocs_eqp (n : Bool) (x : Operand) : allocs (⟨d,.eqp n x,g⟩ :: os) = allocs os:= rfl
@[go_sem] theorem allocs_un (o : UnOp) (x : Operand) : allocs (⟨d,.un o x,g⟩ :: os) = allocs os:= rfl
@[go_sem] theorem allocs_cint (k : IntKind) (x : Operand) : allocs (⟨d,.cint k x,g⟩ :: os) = allocs os:= rfl
@[go_sem] theorem allocs_cid (x : Operand) : allocs (⟨d,.cid x,g⟩ :: os) = allocs os:= rfl
@[go_sem] theorem allocs_mkif (t : TypeId) (x : Operand) : allocs (⟨d,.mkif t x,g⟩ :: os) = allocs os:= rfl
@[go_sem] theorem allocs_mkfn (f : Fn) (a b : List Operand) : allocs (⟨d,.mkfn f a b,g⟩ :: os) = allocs os:= rfl
@[go_sem] theorem allocs_slc (e : Nat) (x : Operand) (l h : Option Operand) : allocs (⟨d,.slc e x l h,g⟩ :: os) = allocs os:= rfl
@[go_sem] theorem allocs_slcs (x : Operand) (l h : Option Operand) : allocs (⟨d,.slcs x l h,g⟩ :: os) = allocs os:= rfl
@[go_sem] theorem allocs_faddr (o n : Nat) (x : Operand) : allocs (⟨d,.faddr o n x,g⟩ :: os) = allocs os:= rfl
@[go_sem] theorem allocs_fld (a : Bool) (o n : Nat) (x : Operand) : allocs (⟨d,.fld a o n x,g⟩ :: os) = allocs os:= rfl
@[go_sem] theorem allocs_iadra (n e : Nat) (x i : Operand) : allocs (⟨d,.iadra n e x i,g⟩ :: os) = allocs os:= rfl
@[go_sem] theorem allocs_idxa (b : Bool) (n e : Nat) (x i : Operand) : allocs (⟨d,.idxa b n e x i,g⟩ :: os) = allocs os:= rfl
@[go_sem] theorem allocs_mks (b : Bool) (n e : Nat) (z : List AV) (x i : Operand) : allocs (⟨d,.mks b n e z x i,g⟩ :: os) = allocs os:= rfl
@[go_sem] theorem allocs_mko (n e : Nat) (i : Operand) : allocs (⟨d,.mko n e i,g⟩ :: os) = allocs os:= rfl
@[go_sem] theorem allocs_iaddr (e : Nat) (x i : Operand) : allocs (⟨d,.iaddr e x i,g⟩ :: os) = allocs os:= rfl
@[go_sem] theorem allocs_idxs (x i : Operand) : allocs (⟨d,.idxs x i,g⟩ :: os) = allocs os:= rfl
@[go_sem] theorem allocs_ext (x : Operand) (i : Nat) : allocs (⟨d,.ext x i,g⟩ :: os) = allocs os:= rfl
@[go_sem] theorem allocs_lens (x : Operand) : allocs (⟨d,.lens x,g⟩ :: os) = allocs os:= rfl
@[go_sem] theorem allocs_lenl (x : Operand) : allocs (⟨d,.lenl x,g⟩ :: os) = allocs os:= rfl
@[go_sem] theorem allocs_mnmx (m : Bool) (l : List Operand) : allocs (⟨d,.mnmx m l,g⟩ :: os) = allocs os:= rfl
@[go_sem] theorem allocs_app (e b : Nat) (l : List Nat) (x y : Operand) : allocs (⟨d,.app e b l x y,g⟩ :: os) = allocs os:= rfl
@[go_sem] theorem allocs_loadc (a : Bool) (n : Nat) (x : Operand) : allocs (⟨d,.loadc a n x,g⟩ :: os) = allocs os:= rfl
@[go_sem] theorem allocs_callm (f : FuncId) (l : List Operand) : allocs (⟨d,.callm f l,g⟩ :: os) = allocs os:= rfl
@[go_sem] theorem allocs_callvm (f : Operand) (l : List Operand) : allocs (⟨d,.callvm f l,g⟩ :: os) = allocs os:= rfl
@[go_sem] theorem allocs_call (f : FuncId) (l : List Operand) : allocs (⟨d,.call f l,g⟩ :: os) = allocs os:= rfl
@[go_sem] theorem allocs_callv (f : Operand) (l : List Operand) : allocs (⟨d,.callv f l,g⟩ :: os) = allocs os:= rfl
end
theorem AC.conv {P : Program} {f : FuncId} {as as' : List AV} {r : AV} (h : AC P f as r) (hc : ∀ (E : RE) (vs : List Value), RepL E as' vs → RepL E as vs) : AC P f as' r :=
  ⟨AM.res h, AM.enters h, fun R cargs hR hh hd hr => AM.calls h R cargs hR hh hd (hc R cargs hr)⟩
theorem rep_niltok {E : RE} {e e' : Nat} {t : Tok} {v : Value} (ht : ∀ τ,t ≠ .own τ) (h : Rep E (.sl .nil e []) v) : Rep E (.sl t e' []) v:= by
 simp only [Rep] at h ⊢
 obtain ⟨A,cap,vs,rfl,hc,hr,h1,h2,h3,h4⟩:= h
 have : vs = []:= List.eq_nil_of_length_eq_zero hr.length
 subst this
 refine ⟨A,cap,[],rfl,hc,hr,by simp,by simp [flat],?_⟩
 cases t with
 | none => simp
 | nil => exact ⟨h3,h4⟩
 | bor => simp
 | own τ => exact absurd rfl (ht τ)
 | fr τ => exact .inl ⟨trivial,h4⟩
 | gone => trivial
theorem repL_nil {e e' : Nat} {t : Tok} (ht : ∀ τ,t ≠ .own τ) (E : RE) {post : List AV} : ∀ (pre : List AV) {ws : List Value},RepL E (pre ++ .sl .nil e [] :: post) ws → RepL E (pre ++ .sl t e' [] :: post) ws
 | [],ws,hr => by
  simp only [List.nil_append,RepL] at hr ⊢
  obtain ⟨v,ws,rfl,h1,h2⟩:= hr
  exact ⟨v,ws,rfl,rep_niltok ht h1,h2⟩
 | x :: pre,ws,hr => by
  simp only [List.cons_append,RepL] at hr ⊢
  obtain ⟨v,ws,rfl,h1,h2⟩:= hr
  exact ⟨v,ws,rfl,h1,repL_nil ht E pre h2⟩
theorem AC.nil {P : Program} {f : FuncId} {e e' : Nat} {t : Tok} (pre : List AV) {post : List AV} {r : AV} (h : AC P f (pre ++ .sl t e' [] :: post) r) (ht : ∀ τ,t ≠ .own τ) : AC P f (pre ++ .sl .nil e [] :: post) r :=
 h.conv fun E vs hr => repL_nil ht E pre hr
end Go.Proofs.YtnndbbmidoidpaaGreatDoor.VL
end

