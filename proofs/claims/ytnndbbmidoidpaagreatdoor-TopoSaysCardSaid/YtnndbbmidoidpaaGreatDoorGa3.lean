import Derived.Test.YtnndbbmidoidpaaGreatDoorGa2
set_option linter.unusedVariables false
set_option linter.unusedSimpArgs false
section
namespace Go.Proofs.YtnndbbmidoidpaaGreatDoor.VL
open Go.RowKit
section
variable {P : Program} {R : RE} {N : Nat} {env : Env} {a : Act} {E : RE}
theorem Inv.takeName (h : Inv R N env a E) {τ : List Nat} {g : Nat} {w' : World} (hn : E.mloc τ = none) (hg1 : R.w.heap.size ≤ g) (hg2 : g < w'.heap.size) (hgS : ∀ o,¬ E.S g o) (hgo : ∀ t,¬ E.own g t)
  (hgl : ∀ c,E.loc c ≠ some g) (hgm : ∀ t,E.mloc t ≠ some g) (hsz : E.w.heap.size ≤ w'.heap.size) (hos : w'.os = E.w.os) (htape : w'.tape = E.w.tape) (hout : w'.output = E.w.output)
  (hoth : ∀ b,b ≠ g → b < E.w.heap.size → w'.heap[b]? = E.w.heap[b]?) :
  Inv R N env a { E with w:= w',mloc:= fun t => if t = τ then some g else E.mloc t } ∧ Ext E { E with w:= w',mloc:= fun t => if t = τ then some g else E.mloc t }:= by
 have hB : ∀ b,E.B b → b ≠ g:= fun b hb e => by have:= (h.Bok b hb).1; omega
 have hS : ∀ b o,E.S b o → b ≠ g:= fun b o hs e => hgS o (e ▸ hs)
 have hx : Ext E { E with w:= w',mloc:= fun t => if t = τ then some g else E.mloc t }:= by
  refine ⟨fun _ _ h => h,fun _ h => h,fun b o u hb hc => ?_,fun b es ck hb hc => ?_,fun c b hc => hc,fun k t hk => ⟨hk,?_,fun _ h => h⟩,rfl,fun t b hb => ⟨?_,?_⟩⟩
  ·have hlt : b < E.w.heap.size:= hb.elim (h.Slt b o) fun hb => Nat.lt_of_lt_of_le (h.Bok b hb).1 h.below.size
   have hne : b ≠ g:= hb.elim (hS b o) (hB b)
   have e:= hoth b hne hlt
   simp only [World.cell?,e] at hc ⊢
   exact hc
  ·exact (hoth b (hS b 0 hb) (h.Slt b 0 hb)).trans hc
  ·exact hoth k (fun e => hgo t (e ▸ hk)) (h.ownlt k t hk).2
  ·show (if t = τ then some g else E.mloc t) = some b
   rw [if_neg (fun e => by rw [e,hn] at hb; cases hb)]
   exact hb
  ·exact hoth b (fun e => hgm t (e ▸ hb)) (h.mlocc t b hb).2.1
 refine ⟨⟨h.defers,h.Nlim,h.lentl,h.size,h.B,h.Bok,⟨hos.trans h.below.os,htape.trans h.below.tape,hout.trans h.below.output,Nat.le_trans h.below.size hsz,fun k hk hM => ?_⟩,h.Mlt,h.MS,h.par,h.G,h.S0,fun b o hb => ?_,fun k t hk => ?_,h.own1,fun c b hb => ?_,h.locd,h.loc1,fun t b hb => ?_,fun t t' b h1 h2 => ?_,fun k => (h.slots k).mono hx⟩,hx⟩
 ·exact (hoth k (by omega) (Nat.lt_of_lt_of_le hk h.below.size)).trans (h.below.block k hk hM)
 ·have:= h.Slt b o hb; show b < w'.heap.size; omega
 ·have:= h.ownlt k t hk; exact ⟨this.1,by show k < w'.heap.size; omega⟩
 ·obtain ⟨h1,h2,h3,cs,vals,ty,hcs,hh,hr,ho⟩:= h.locc c b hb
  have hne : b ≠ g:= fun e => hgl c (e ▸ hb)
  exact ⟨h1,h2,h3,cs,vals,ty,hcs,(hoth b hne (lt_of_heap hh)).trans hh,hr.mono hx,ho⟩
 ·simp only at hb
  split at hb
  ·injection hb with hb
   subst hb
   exact ⟨hg1,hg2,hgS,hgo,hgl⟩
  ·obtain ⟨h1,h2,h3⟩:= h.mlocc t b hb
   exact ⟨h1,by show b < w'.heap.size; omega,h3⟩
 ·simp only at h1 h2
  split at h1 <;> split at h2
  ·rename_i e1 e2; rw [e1,e2]
  ·injection h1 with h1
   exact absurd (h1 ▸ h2) (hgm t')
  ·injection h2 with h2
   exact absurd (h2 ▸ h1) (hgm t)
  ·exact h.mloc1 t t' b h1 h2
theorem Inv.setName (h : Inv R N env a E) {p : List Nat → Bool} {τ τ' : List Nat} {g : Nat} {w' : World} (hb : E.mloc τ = some g) (hp : p τ = true) (hp' : p τ' = true) (hsz : w'.heap.size = E.w.heap.size) (hos : w'.os = E.w.os) (htape : w'.tape = E.w.tape) (hout : w'.output = E.w.output)
  (hoth : ∀ b,b ≠ g → w'.heap[b]? = E.w.heap[b]?) :
  Inv R N (env.killn p) a { E.unname p with w:= w',mloc:= fun t => if t = τ' then some g else (E.unname p).mloc t } ∧ Ext (E.unname p) { E.unname p with w:= w',mloc:= fun t => if t = τ' then some g else (E.unname p).mloc t }:= by
 obtain ⟨h1,h2,h3,h4,h5⟩:= h.mlocc τ g hb
 refine (h.unname p).takeName (by simp [RE.unname,hp']) h1 (by omega) h3 h4 h5 (fun t ht => ?_) (Nat.le_of_eq hsz.symm) hos htape hout fun b hb _ => hoth b hb
 simp only [RE.unname] at ht
 split at ht
 ·cases ht
 ·rename_i hpt
  have:= h.mloc1 t τ g ht hb
  rw [this] at hpt
  exact hpt hp
theorem val_i2s (hI : Inv R N env a E) {o : Oper} {s d : TypeId} {q : IntKind} {y : Operand} (ho : o.op = .convert s d y) (hs : P.underlying s = some (.int q)) (hd : P.underlying d = some .string)
  {x : AV} (h : aval env (.i2s y) = some x) : ValOK P E a o x:= by
 simp only [aval] at h
 have hy:= hI.ev y
 split at h
 ·rename_i k n h1
  rw [h1] at hy
  simp only [Rep] at hy
  split at h
  ·rename_i hn
   injection h with h
   subst h
   refine ⟨.string ⟨#[UInt8.ofNat n.toNat]⟩,?_,by simp only [Rep]⟩
   have he : Utf8.encode n = ⟨#[UInt8.ofNat n.toNat]⟩:= by
    have hv : Utf8.valid n = true:= by simp [Utf8.valid]; omega
    simp only [Utf8.encode,hv,if_true]
    rw [if_pos (by omega)]
   simp [execOp,ho,hy,convert,Sem.run_bind,run_underlying_eq hs,run_underlying_eq hd,Conv.intToString,he,Sem.run]
  ·cases h
 ·cases h
theorem run_equal_nil_slice {t e : TypeId} (h : P.underlying t = some (.slice e)) (A : Option Addr) (n c : Nat) (w : World) :
  (Op.equal t (.slice A n c) (.slice none 0 0)).run P w = .ok A.isNone w:= by
 unfold Op.equal Op.maxDepth Op.equalIn
 cases A <;> simp [underlying,program,Sem.run,h,Bind.bind,Sem.bind,Pure.pure]
theorem val_eqs (hI : Inv R N env a E) {o : Oper} {op : BinOp} {neg : Bool} {t t' e : TypeId} {y : Operand} (ho : o.op = .binOp op t y (.const (.slice none 0 0)) t') (hop : op = if neg then .neq else .eql)
  (ht : P.underlying t = some (.slice e)) {x : AV} (h : aval env (.eqs neg y) = some x) : ValOK P E a o x:= by
 simp only [aval] at h
 have hy:= hI.ev y
 have hev : a.eval (.const (.slice none 0 0)) = .slice none 0 0:= rfl
 subst hop
 have fin : ∀ A n c,a.eval y = .slice A n c → x = .lit (.bool (if neg then !A.isNone else A.isNone)) → ValOK P E a o x:= by
  rintro A n c he rfl
  refine ⟨.bool (if neg then !A.isNone else A.isNone),?_,by simp only [Rep]⟩
  have hq:= run_equal_nil_slice ht A n c E.w
  cases neg <;> simp [execOp,ho,hev,he,eqGuard,Sem.run_bind,binOp,hq,Sem.run]
 split at h
 ·rename_i tk e' rows h1
  rw [h1] at hy
  simp only [Rep] at hy
  obtain ⟨A,cap,vs,he,hcap,_,_,_,htk⟩:= hy
  have hsome : rows ≠ [] → tk ≠ .gone → ∃ ad,A = some ad:= by
   intro hne hgn
   have hpos : 0 < rows.length:= List.length_pos_iff.2 hne
   cases tk with
   | none => obtain ⟨b,o',e,_⟩:= htk hne; exact ⟨_,e⟩
   | bor => obtain ⟨b,o',e,_⟩:= htk hne; exact ⟨_,e⟩
   | nil => have:= htk.2; omega
   | own τ =>
    rcases htk with ⟨_,h0⟩ | ⟨g,cur,ty,e,_⟩
    ·omega
    ·exact ⟨_,e⟩
   | fr τ =>
    rcases htk with ⟨h0,_⟩ | ⟨g,cur,ty,e,_⟩
    ·exact absurd h0 hne
    ·exact ⟨_,e⟩
   | gone => exact absurd rfl hgn
  by_cases hgn : tk = .gone
  ·subst hgn
   cases rows <;> simp at h
  split at h
  ·injection h with h
   obtain ⟨hA,_⟩:= htk
   subst hA
   exact fin _ _ _ he (by rw [← h]; cases neg <;> rfl)
  ·cases h
  ·injection h with h
   obtain ⟨ad,rfl⟩:= hsome (by simp) hgn
   exact fin _ _ _ he (by rw [← h]; cases neg <;> rfl)
  ·cases h
 ·rename_i c off n cap g e' h1
  rw [h1] at hy
  simp only [Rep] at hy
  obtain ⟨b,_,he⟩:= hy
  injection h with h
  exact fin _ _ _ he (by rw [← h]; cases neg <;> rfl)
 ·rename_i A n c h1
  rw [h1] at hy
  simp only [Rep] at hy
  injection h with h
  exact fin _ _ _ hy h.symm
 ·cases h
theorem keyStr_now {kt : TypeId} {str : Bool} (hk : keyStr P kt = some str) : ∃ d,P.underlying kt = some d ∧ (∀ u v b,keyEq str u v = some b → Instr.sameNow d u v = some b) ∧ ((∃ k,d = .int k) ∨ d = .string):= by
 unfold keyStr at hk
 split at hk
 ·rename_i k hd
  injection hk with hk
  subst hk
  exact ⟨_,hd,fun u v b h => (by cases u <;> cases v <;> simp only [keyEq] at h <;> first | exact h | cases h),.inl ⟨k,rfl⟩⟩
 ·rename_i hd
  injection hk with hk
  subst hk
  exact ⟨_,hd,fun u v b h => (by cases u <;> cases v <;> simp only [keyEq] at h <;> first | exact h | cases h),.inr rfl⟩
 ·cases hk
theorem keyAt_now {str : Bool} {d : TypeDesc} (hd : ∀ u v b,keyEq str u v = some b → Instr.sameNow d u v = some b) (k : Value) : ∀ (es : List MapEntry) (i : Nat) (r : Option Nat),keyAt str k (es.map (·.key)) i = some r →
  (∃ e,Instr.findNow d k es i = some (r.map fun j => (j,e))) ∧ (∀ j,r = some j → i ≤ j ∧ ∃ e,es[j - i]? = some e ∧ Instr.findNow d k es i = some (some (j,e.val)) ∧ keyEq str k e.key = some true)
 | [],i,r,h => by
  simp only [List.map_nil,keyAt] at h
  injection h with h
  subst h
  exact ⟨⟨undef,rfl⟩,fun j hj => by cases hj⟩
 | e :: es,i,r,h => by
  simp only [List.map_cons,keyAt] at h
  split at h
  ·rename_i hk
   injection h with h
   subst h
   have hs:= hd _ _ _ hk
   have hf : Instr.findNow d k (e :: es) i = some (some (i,e.val)):= by simp [Instr.findNow,hs]
   exact ⟨⟨e.val,hf⟩,fun j hj => by injection hj with hj; subst hj; exact ⟨Nat.le_refl _,e,by simp,hf,hk⟩⟩
  ·rename_i hk
   have hs:= hd _ _ _ hk
   have hf : Instr.findNow d k (e :: es) i = Instr.findNow d k es (i + 1):= by simp [Instr.findNow,hs]
   obtain ⟨h1,h2⟩:= keyAt_now hd k es (i + 1) r h
   rw [hf]
   refine ⟨h1,fun j hj => ?_⟩
   obtain ⟨k1,e',k2,k3,k4⟩:= h2 j hj
   refine ⟨by omega,e',?_,k3,k4⟩
   have : j - i = (j - (i + 1)) + 1:= by omega
   rw [this,List.getElem?_cons_succ]
   exact k2
  ·cases h
theorem run_findKey {kt : TypeId} {str : Bool} (hk : keyStr P kt = some str) (k : Value) (es : List MapEntry) {r : Option Nat} (h : keyAt str k (es.map (·.key)) 0 = some r) (w : World) :
  (r = none ∧ (Instr.findKey kt k es).run P w = .ok none w) ∨ ∃ j e,r = some j ∧ es[j]? = some e ∧ keyEq str k e.key = some true ∧ (Instr.findKey kt k es).run P w = .ok (some (j,e.val)) w:= by
 obtain ⟨d,hd,hn,_⟩:= keyStr_now hk
 obtain ⟨h1,h2⟩:= keyAt_now hn k es 0 r h
 cases r with
 | none =>
  obtain ⟨e,he⟩:= h1
  left
  refine ⟨rfl,?_⟩
  simp [Instr.findKey,Sem.run_bind,run_underlying_eq hd,he,Sem.run]
 | some j =>
  obtain ⟨_,e,k2,k3,k4⟩:= h2 j rfl
  right
  refine ⟨j,e,rfl,by simpa using k2,k4,?_⟩
  simp [Instr.findKey,Sem.run_bind,run_underlying_eq hd,k3,Sem.run]
theorem run_checkKey {kt : TypeId} {str : Bool} (hk : keyStr P kt = some str) (b : Bool) (k : Value) (w : World) : (Instr.checkKey b 10000 kt k).run P w = .ok () w:= by
 obtain ⟨d,hd,_,hs⟩:= keyStr_now hk
 generalize hn : (10000 : Nat) = n
 cases n with
 | zero => cases hn
 | succ n => rcases hs with ⟨q,rfl⟩ | rfl <;> cases k <;> simp [Instr.checkKey,Sem.run_bind,run_underlying_eq hd,Sem.run]
theorem getObj_run {w : World} {b : Nat} {es : Array MapEntry} {ck : Nat} (h : w.heap[b]? = some (.map es ck)) : (getObj b).run P w = .ok (.map es ck) w:= by
 simp [getObj,Sem.run,h]
theorem val_lkp (hI : Inv R N env a E) {o : Oper} {t kt e : TypeId} {str ok : Bool} {z : Value} {m k : Operand} (ho : o.op = .lookup t m k ok) (ht : P.underlying t = some (.map kt e)) (hk : keyStr P kt = some str) (hz : (P.info? e).bind (·.zero) = some z)
  {x : AV} (h : aval env (.lkp str (ofVal z) ok m k) = some x) : ValOK P E a o x:= by
 obtain ⟨inf,hinf,hz'⟩:= Option.bind_eq_some_iff.1 hz
 have hzero : ∀ w,(zeroValue e).run P w = .ok z w:= fun w => by simp [zeroValue,typeInfo,program,Sem.run,hinf,hz',Bind.bind,Sem.bind,Pure.pure]
 have hm:= hI.ev m
 have hkv:= hI.ev k
 have main : ∀ (b : Nat) (es : List MapEntry) (ck : Nat) (keys : List Value) (vals : List AV) (vs : List Value) (kv : Value),a.eval m = .map (some b) → E.w.heap[b]? = some (.map es.toArray ck) → es.map (·.key) = keys → es.map (·.val) = vs → RepL E.closed vals vs →
   a.eval k = kv → mapGet str (ofVal z) ok keys vals kv = some x → ValOK P E a o x:= by
  rintro b es ck keys vals vs kv he hh rfl rfl hr hek hg
  unfold mapGet at hg
  have lk : ∀ v ok',(Instr.findKey kt kv es).run P E.w = .ok (some (v,ok')) E.w → (execOp a.eval o).run P E.w = .ok (.value (if ok then .tuple #[ok',.bool true] else ok')) E.w:= by
   intro v ok' hf
   cases ok <;> simp [execOp,ho,he,hek,Instr.lookup,Sem.run_bind,run_underlying_eq ht,getObj_run hh,run_checkKey hk,hf,Sem.run]
  have ln : (Instr.findKey kt kv es).run P E.w = .ok none E.w → (execOp a.eval o).run P E.w = .ok (.value (if ok then .tuple #[z,.bool false] else z)) E.w:= by
   intro hf
   cases ok <;> simp [execOp,ho,he,hek,Instr.lookup,Sem.run_bind,run_underlying_eq ht,getObj_run hh,run_checkKey hk,hf,hzero,Sem.run]
  split at hg
  ·rename_i i hi
   rcases run_findKey hk kv es hi E.w with ⟨h0,_⟩ | ⟨j,en,h0,h1,h2,h3⟩
   ·cases h0
   injection h0 with h0
   subst h0
   split at hg
   ·rename_i y hy
    injection hg with hg
    subst hg
    obtain ⟨v,hv,hrep⟩:= hr.get i hy
    have hv' : en.val = v:= by
     rw [List.getElem?_map,h1] at hv
     simpa using hv
    refine ⟨_,lk _ _ h3,?_⟩
    have hrep':= hrep.mono (Ext.closed_le E)
    rw [hv']
    cases ok
    ·simpa using hrep'
    ·simp only [if_true,Rep]
     exact ⟨[v,.bool true],rfl,by simp only [RepL,Rep]; exact ⟨_,_,rfl,hrep',_,_,rfl,rfl,rfl⟩⟩
   ·cases hg
  ·rename_i hi
   rcases run_findKey hk kv es hi E.w with ⟨_,h3⟩ | ⟨j,en,h0,_⟩
   ·injection hg with hg
    subst hg
    refine ⟨_,ln h3,?_⟩
    have hrep:= rep_ofVal E z
    cases ok
    ·simpa using hrep
    ·simp only [if_true,Rep]
     exact ⟨[z,.bool false],rfl,by simp only [RepL,Rep]; exact ⟨_,_,rfl,hrep,_,_,rfl,rfl,rfl⟩⟩
   ·cases h0
  ·cases hg
 simp only [aval] at h
 split at h
 ·rename_i keys vals kv h1 h2
  rw [h1] at hm
  rw [h2] at hkv
  simp only [Rep] at hm hkv
  obtain ⟨b,es,ck,vs,he,hh,_,hkeys,hvals,hr⟩:= hm
  exact main b es ck keys vals vs kv he hh hkeys hvals hr hkv h
 ·rename_i c keys vals kv h1 h2
  rw [h1] at hm
  rw [h2] at hkv
  simp only [Rep] at hm hkv
  obtain ⟨b,es,ck,vs,_,he,hh,hkeys,hvals,hr⟩:= hm
  exact main b es ck keys vals vs kv he hh hkeys hvals hr hkv h
 ·cases h
theorem wp_mkm (hI : Inv R N env a E) {o : Oper} {t : TypeId} {d : Nat} (ho : o.op = .makeMap t none) (hd : o.dst = some d) (hdN : d < N)
  {K : Act → World → Prop} {Q : Exit → Act → World → Prop} (hK : ∀ v E',Inv R N (env.put d (.mf [d] true)) (a.put (some d) v) E' → K (a.put (some d) v) E'.w) : o.wp P a E.w K Q:= by
 obtain ⟨hI',_⟩:= hI.newLab [d] (.map #[] 0)
 unfold Oper.wp
 have hex : (execOp a.eval o).run P E.w = .ok (.value (.map (some E.w.heap.size))) (E.w.alloc (.map #[] 0)):= by
  simp [execOp,ho,Instr.makeMap,Sem.run_bind,newObj,Sem.run,World.alloc_eq]
 rw [hex,Oper.upon_value,hd]
 refine hK (.map (some E.w.heap.size)) _ (hI'.put hdN ?_)
 simp only [Rep]
 exact ⟨E.w.heap.size,rfl,fun _ => ⟨⟨0,heap_alloc_new _ _⟩,.inr (by simp),fun o hs => absurd (hI.Slt _ o hs) (Nat.lt_irrefl _)⟩⟩
def zRow : Bool → List AV → AV
 | true,z => .agg z
 | false,z => z.headD .dead
def mkfV (agg : Bool) (esz bytes d : Nat) (z : List AV) (l c : AV) : Option AV :=
 match intOfA l,intOfA c with
 | some n,some n' => if n = n' ∧ 0 ≤ n ∧ n ≤ 4294967296 ∧ bytes ≤ 32768 ∧ z.length = esz ∧ (agg = true ∨ esz = 1) then if oneL z = true then some (.sl (.fr [d]) esz (List.replicate n.toNat (zRow agg z))) else none else none
 | _,_ => none
def stepMkf (agg : Bool) (esz bytes d : Nat) (z : List AV) (l c : AV) (env : Env) : Option Env:= match mkfV agg esz bytes d z l c with
 | some x => some (env.put d x)
 | none => none
theorem repL_replicate {E : RE} {x : AV} {v : Value} (h : Rep E x v) : ∀ n : Nat,RepL E (List.replicate n x) (List.replicate n v)
 | 0 => by simp [RepL]
 | n + 1 => by simp only [List.replicate_succ,RepL]; exact ⟨v,_,rfl,h,repL_replicate h n⟩
theorem wp_mkf (hI : Inv R N env a E) {o : Oper} {t e : TypeId} {i : TypeInfo} {z : Value} {l c : Operand} {b : Bool} {d : Nat} (ho : o.op = .makeSlice t l c) (hd : o.dst = some d) (hdN : d < N)
  (ht : P.underlying t = some (.slice e)) (hi : P.info? e = some i) (hz : i.zero = some z) (hzs : z.cells.size = i.size) (hpos : 0 < i.size)
  {env' : Env} (h : stepMkf b i.size i.bytes d (z.cells.toList.map ofVal1) (env.ev l) (env.ev c) env = some env')
  {K : Act → World → Prop} {Q : Exit → Act → World → Prop} (hK : ∀ v E',Inv R N env' (a.put (some d) v) E' → K (a.put (some d) v) E'.w) : o.wp P a E.w K Q:= by
 unfold stepMkf at h
 have hl:= hI.ev l
 have hc:= hI.ev c
 split at h
 case h_2 => cases h
 rename_i xx hxx
 injection h with h
 subst h
 have h:= hxx
 clear hxx
 unfold mkfV at h
 split at h
 case h_2 => cases h
 rename_i n n' hn hn'
 have evi : ∀ {x : AV} {m : Int} {v : Value},intOfA x = some m → Rep E x v → ∃ k,v = .int k m:= by
  intro x m v hx hr
  unfold intOfA at hx
  split at hx
  ·injection hx with hx
   subst hx
   simp only [Rep] at hr
   exact ⟨_,hr⟩
  ·cases hx
 obtain ⟨kl,el⟩:= evi hn hl
 obtain ⟨kc,ec⟩:= evi hn' hc
 split at h
 case isFalse => cases h
 rename_i hb
 obtain ⟨rfl,h0,hm,hby,hzl,hag⟩:= hb
 split at h
 case isFalse => cases h
 rename_i hone
 injection h with h
 subst h
 have hcells : (madeCells z.cells (n.toNat * i.size)).toList = (List.replicate n.toNat z.cells.toList).flatten:= by rw [← hzs]; exact made_list z.cells n.toNat
 have hmul : (i.bytes : Int) * n ≤ 140737488355328:= by
  have h1 : (i.bytes : Int) * n ≤ (i.bytes : Int) * 4294967296:= Int.mul_le_mul_of_nonneg_left hm (by omega)
  omega
 have hrun:= run_make (P:= P) E.w t e i z ht hi hz kl kc n n h0 (Int.le_refl _) (by omega) (by omega)
 obtain ⟨hI1,hx1⟩:= hI.newLab [d] (.cells (madeCells z.cells (n.toNat * i.size)) e)
 obtain ⟨E1,hE1⟩ : ∃ E1 : RE,E1 = { E with w:= E.w.alloc (.cells (madeCells z.cells (n.toNat * i.size)) e),own:= fun k t => E.own k t ∨ (k = E.w.heap.size ∧ t = [d]) }:= ⟨_,rfl⟩
 rw [← hE1] at hI1 hx1
 have hrz : RepL E1.closed (z.cells.toList.map ofVal1) z.cells.toList:= repL_ofVal1 _ _
 have hz1 : ∀ u ∈ z.cells.toList,u.oneCell' = true:= repL_one hrz (oneL_spec hone)
 obtain ⟨row,hrow⟩ : ∃ row : AV,row = zRow b (z.cells.toList.map ofVal1):= ⟨_,rfl⟩
 obtain ⟨v,hv,hvc,hvs⟩ : ∃ v : Value,Rep E1.closed row v ∧ v.cells.toList = z.cells.toList ∧ v.cells.size = i.size:= by
  cases b with
  | true =>
   refine ⟨.agg z.cells,?_,rfl,hzs⟩
   rw [hrow]
   simp only [zRow,Rep]
   exact ⟨z.cells.toList,by simp,hrz⟩
  | false =>
   have he1 : i.size = 1:= by simpa using hag
   rw [he1] at hzs
   obtain ⟨u,hu⟩ : ∃ u,z.cells.toList = [u]:= by
    have : z.cells.toList.length = 1:= by rw [Array.length_toList]; exact hzs
    match hq : z.cells.toList,this with
    | [u],_ => exact ⟨u,rfl⟩
   have hu1:= hz1 u (by rw [hu]; simp)
   refine ⟨u,?_,by rw [cells_one hu1,hu],by rw [cells_one hu1,he1]; rfl⟩
   rw [hrow,hu]
   simp only [zRow,List.map_cons,List.headD_cons]
   exact rep_ofVal1 _ u
 have hflat : ∀ k : Nat,flat (List.replicate k v) = (List.replicate k z.cells.toList).flatten:= by
  intro k
  induction k with
  | zero => rfl
  | succ k ih => rw [List.replicate_succ,List.replicate_succ,List.flatten_cons,← ih,← hvc]; simp [flat]
 unfold Oper.wp
 have hex : (execOp a.eval o).run P E.w = .ok (.value (.slice (some ⟨E.w.heap.size,0,none⟩) n.toNat n.toNat)) (E.w.alloc (.cells (madeCells z.cells (n.toNat * i.size)) e)):= by
  simp [execOp,ho,el,ec,Sem.run_bind,hrun,Sem.run]
 rw [hex,Oper.upon_value,hd]
 have hw1 : E1.w = E.w.alloc (.cells (madeCells z.cells (n.toNat * i.size)) e):= by rw [hE1]
 rw [← hrow] at hK
 have:= hK (.slice (some ⟨E.w.heap.size,0,none⟩) n.toNat n.toNat) E1 (hI1.put hdN (x:= .sl (.fr [d]) i.size (List.replicate n.toNat row)) (by
  simp only [Rep]
  refine ⟨_,n.toNat,List.replicate n.toNat v,by rw [List.length_replicate],by rw [List.length_replicate]; exact Nat.le_refl _,repL_replicate hv _,fun u hu => by rw [List.eq_of_mem_replicate hu]; exact hvs,fun u hu => ?_,
   .inr ⟨E.w.heap.size,madeCells z.cells (n.toNat * i.size),e,rfl,fun j u hj => ⟨trivial,?_⟩,by rw [hw1]; exact heap_alloc_new _ _,by simp only [maxLen]; omega,by rw [size_madeCells],by rw [hE1]; exact .inr (by simp),by rw [hE1]; exact fun o hs => absurd (hI.Slt _ o hs) (Nat.lt_irrefl _),fun u hu => ?_⟩⟩
  ·rw [hflat] at hu
   obtain ⟨l,hl,hul⟩:= List.mem_flatten.1 hu
   rw [List.eq_of_mem_replicate hl] at hul
   exact hz1 u hul
  ·rw [hw1]
   simp only [World.cell?]
   rw [heap_alloc_new]
   rw [hflat,← hcells] at hj
   simp only [Nat.zero_add]
   rw [if_neg (by simp)]
   simpa using hj
  ·rw [hcells] at hu
   obtain ⟨l,hl,hul⟩:= List.mem_flatten.1 hu
   rw [List.eq_of_mem_replicate hl] at hul
   exact hz1 u hul))
 rw [hw1] at this
 exact this
theorem wp_bsl0 (hI : Inv R N env a E) {o : Oper} {t e : TypeId} {i : TypeInfo} {z : Value} {d : Nat} (ho : o.op = .buildSlice t 0 #[]) (hd : o.dst = some d) (hdN : d < N)
  (ht : P.underlying t = some (.slice e)) (hi : P.info? e = some i) (hz : i.zero = some z)
  {K : Act → World → Prop} {Q : Exit → Act → World → Prop} (hK : ∀ v E',Inv R N (env.put d (.sl (.fr [d]) i.size [])) (a.put (some d) v) E' → K (a.put (some d) v) E'.w) : o.wp P a E.w K Q:= by
 obtain ⟨hI1,hx1⟩:= hI.newLab [d] (.cells #[] e)
 unfold Oper.wp
 have hex : (execOp a.eval o).run P E.w = .ok (.value (.slice (some ⟨E.w.heap.size,0,none⟩) 0 0)) (E.w.alloc (.cells #[] e)):= by
  simp [execOp,ho,Instr.buildSlice,Sem.run_bind,run_underlying_eq ht,run_sizeOf hi,Instr.fill,newRow,newObj,Sem.run,World.alloc_eq,Array.range_zero']
 rw [hex,Oper.upon_value,hd]
 refine hK _ _ (hI1.put hdN ?_)
 simp only [Rep]
 exact ⟨_,0,[],rfl,Nat.le_refl _,by simp [RepL],by simp,by simp [flat],.inl (by simp)⟩
mutual
/-- What a map with a name holds from now on. -/
def renew (τ : List Nat) (keys : List Value) (vals : List AV) : AV → AV
 | .mu t k v => if t = τ then .mu t keys vals else .mu t k v
 | .agg cs => .agg (renewL τ keys vals cs)
 | .tup cs => .tup (renewL τ keys vals cs)
 | .clo f a b => .clo f (renewL τ keys vals a) (renewL τ keys vals b)
 | .ifc t v => .ifc t (renew τ keys vals v)
 | x => x
def renewL (τ : List Nat) (keys : List Value) (vals : List AV) : List AV → List AV
 | [] => []
 | x :: xs => renew τ keys vals x :: renewL τ keys vals xs
end
def Env.renew (E : Env) (τ : List Nat) (keys : List Value) (vals : List AV) : Env:= ⟨fun k => VL.renew τ keys vals (E.s k),fun c => (E.c c).map (renewL τ keys vals)⟩
mutual
theorem rep_renew {E E' : RE} {τ : List Nat} {keys : List Value} {vals : List AV} (hx : Ext (E.unname (· == τ)) E') (hm : ∀ b,E.mloc τ = some b → Rep E' (.mu τ keys vals) (.map (some b))) : ∀ {x : AV} {v : Value},Rep E x v → Rep E' (renew τ keys vals x) v
 | .mu t k vs,v,h => by
  simp only [renew]
  split
  ·rename_i e
   subst e
   simp only [Rep] at h
   obtain ⟨b,es,ck,vs',hb,rfl,_⟩:= h
   exact hm b hb
  ·rename_i hne
   have:= rep_killn (· == τ) h
   simp only [killn,beq_iff_eq,if_neg hne] at this
   exact this.mono hx
 | .agg cs,v,h => by
  simp only [renew,Rep] at h ⊢
  obtain ⟨vs,rfl,h⟩:= h
  exact ⟨vs,rfl,repL_renew hx hm h⟩
 | .tup cs,v,h => by
  simp only [renew,Rep] at h ⊢
  obtain ⟨vs,rfl,h⟩:= h
  exact ⟨vs,rfl,repL_renew hx hm h⟩
 | .clo f p q,v,h => by
  simp only [renew,Rep] at h ⊢
  obtain ⟨fs,cs,rfl,h1,h2⟩:= h
  exact ⟨fs,cs,rfl,repL_renew hx hm h1,repL_renew hx hm h2⟩
 | .ifc t x,v,h => by
  simp only [renew,Rep] at h ⊢
  obtain ⟨u,rfl,h⟩:= h
  exact ⟨u,rfl,rep_renew hx hm h⟩
 | .lit u,v,h => by simp only [renew]; exact (rep_killn (· == τ) h).mono hx
 | .gl i,v,h => by simp only [renew]; exact (rep_killn (· == τ) h).mono hx
 | .gp i,v,h => by simp only [renew]; exact (rep_killn (· == τ) h).mono hx
 | .mp k vs,v,h => by simp only [renew]; exact (rep_killn (· == τ) h).mono hx
 | .rp cs,v,h => by simp only [renew]; exact (rep_killn (· == τ) h).mono hx
 | .bp cs,v,h => by simp only [renew]; exact (rep_killn (· == τ) h).mono hx
 | .sl t e rows,v,h => by simp only [renew]; exact (rep_killn (· == τ) h).mono hx
 | .mf t al,v,h => by simp only [renew]; exact (rep_killn (· == τ) h).mono hx
 | .lp k o,v,h => by simp only [renew]; exact (rep_killn (· == τ) h).mono hx
 | .ml k o n q g e,v,h => by simp only [renew]; exact (rep_killn (· == τ) h).mono hx
 | .dead,v,h => by simp only [renew]; exact (rep_killn (· == τ) h).mono hx
theorem repL_renew {E E' : RE} {τ : List Nat} {keys : List Value} {vals : List AV} (hx : Ext (E.unname (· == τ)) E') (hm : ∀ b,E.mloc τ = some b → Rep E' (.mu τ keys vals) (.map (some b))) : ∀ {xs : List AV} {vs : List Value},RepL E xs vs → RepL E' (renewL τ keys vals xs) vs
 | [],vs,h => by simpa only [renewL,RepL] using h
 | x :: xs,vs,h => by
  simp only [renewL,RepL] at h ⊢
  obtain ⟨v,ws,rfl,h1,h2⟩:= h
  exact ⟨v,ws,rfl,rep_renew hx hm h1,repL_renew hx hm h2⟩
end
def mapPut (str : Bool) (keys : List Value) (vals : List AV) (k : Value) (x : AV) : Option (List Value × List AV):= match keyAt str k keys 0 with
 | some (some i) => some (keys,vals.set i x)
 | some none => some (keys ++ [k],vals ++ [x])
 | none => none
def stepMup (str : Bool) (m k x : AV) (env : Env) : Option Env:= match m,k,closeV x with
 | .mu τ keys vals,.lit kv,some y => match mapPut str keys vals kv y with
  | some (ks,vs) => some (env.renew τ ks vs)
  | none => none
 | _,_,_ => none
theorem keyEq_same {str : Bool} {u v : Value} (h : keyEq str u v = some true) : u = v ∧ Instr.sameBits 10000 v u = true:= by
 cases str <;> cases u <;> cases v <;> simp only [keyEq] at h <;> first | (cases h; done) | skip
 ·rename_i k n k' n'
  split at h
  ·rename_i e
   injection h with h
   have : n = n':= by simpa using h
   subst this e
   exact ⟨rfl,by simp [Instr.sameBits]⟩
  ·cases h
 ·rename_i s s'
  injection h with h
  have : s = s':= by
   cases s; cases s'
   have h' : (_ == _) = true:= h
   congr 1
   exact eq_of_beq h'
  subst this
  refine ⟨rfl,?_⟩
  show Instr.sameBits (9999 + 1) (.string s) (.string s) = true
  exact h
theorem repL_set {E : RE} : ∀ {xs : List AV} {vs : List Value} (i : Nat) {x : AV} {v : Value},RepL E xs vs → Rep E x v → RepL E (xs.set i x) (vs.set i v)
 | [],vs,i,x,v,h,hx => by
  simp only [RepL] at h
  subst h
  simp [RepL]
 | y :: xs,vs,0,x,v,h,hx => by
  simp only [RepL] at h
  obtain ⟨u,us,rfl,h1,h2⟩:= h
  simp only [List.set_cons_zero,RepL]
  exact ⟨v,us,rfl,hx,h2⟩
 | y :: xs,vs,i + 1,x,v,h,hx => by
  simp only [RepL] at h
  obtain ⟨u,us,rfl,h1,h2⟩:= h
  simp only [List.set_cons_succ,RepL]
  exact ⟨u,_,rfl,h1,repL_set i h2 hx⟩
def setObjW (w : World) (g : Nat) (o : Obj) : World:= { w with heap:= w.heap.setIfInBounds g o }
theorem setObj_run {w : World} {g : Nat} {es : Array MapEntry} {ck : Nat} {o : Obj} (hg : w.heap[g]? = some (.map es ck)) : (setObj g o).run P w = .ok () (setObjW w g o):= by
 simp [setObj,Sem.run,setObjW,hg]
theorem wp_mup (hI : Inv R N env a E) {o : Oper} {t kt e : TypeId} {str : Bool} {m k x : Operand} (ho : o.op = .mapUpdate t m k x ∨ o.op = .insert t m k x) (ht : P.underlying t = some (.map kt e)) (hk : keyStr P kt = some str)
  {env' : Env} (h : stepMup str (env.ev m) (env.ev k) (env.ev x) env = some env')
  {K : Act → World → Prop} {Q : Exit → Act → World → Prop} (hK : ∀ E',Inv R N env' a E' → K (a.put o.dst undef) E'.w) : o.wp P a E.w K Q:= by
 unfold stepMup at h
 split at h
 case h_2 => cases h
 rename_i τ keys vals kv y h1 h2 h3
 split at h
 case h_2 => cases h
 rename_i ks vs' hput
 injection h with h
 subst h
 have hm:= hI.ev m
 have hkv:= hI.ev k
 have hxv:= close_rep hI h3 (hI.ev x)
 rw [h1] at hm
 rw [h2] at hkv
 simp only [Rep] at hm hkv
 obtain ⟨b,es,ck,vs,hb,he,hh,hkeys,hvals,hr⟩:= hm
 have hlt:= lt_of_heap hh
 subst hkeys hvals
 have fin : ∀ (es' : List MapEntry) (ck' : Nat),(execOp a.eval o).run P E.w = .ok .skip (setObjW E.w b (.map es'.toArray ck')) → es'.map (·.key) = ks → (∀ E' : RE,RepL E' vals (es.map (·.val)) → Rep E' y (a.eval x) → RepL E' vs' (es'.map (·.val))) → o.wp P a E.w K Q:= by
  intro es' ck' hex hks hvs
  obtain ⟨hI',hx'⟩:= hI.setName (p:= (· == τ)) (τ:= τ) (τ':= τ) (w':= setObjW E.w b (.map es'.toArray ck')) hb (by simp) (by simp) (by simp [setObjW]) rfl rfl rfl fun b' hne => by
   simp only [setObjW]
   rw [Array.getElem?_setIfInBounds_ne (fun e => hne e.symm)]
  have hcl:= hx'.closed
  rw [RE.unname_closed] at hcl
  obtain ⟨E',hE'⟩ : ∃ E',E' = ({ E.unname (· == τ) with w:= setObjW E.w b (.map es'.toArray ck'),mloc:= fun t => if t = τ then some b else (E.unname (· == τ)).mloc t } : RE):= ⟨_,rfl⟩
  rw [← hE'] at hI' hx' hcl
  have hw : E'.w = setObjW E.w b (.map es'.toArray ck'):= by rw [hE']
  have hmu : ∀ b',E.mloc τ = some b' → Rep E' (.mu τ ks vs') (.map (some b')):= by
   intro b' hb'
   rw [hb] at hb'
   injection hb' with hb'
   subst hb'
   simp only [Rep]
   refine ⟨b,es',ck',_,by rw [hE']; simp,rfl,?_,hks,rfl,hvs _ (hr.mono hcl) (hxv.mono hcl)⟩
   rw [hw]
   simp [setObjW,hlt]
  have hI2 : Inv R N (env.renew τ ks vs') a E':= by
   refine { hI' with locc:= fun c b' hc => ?_,locd:= fun c cs hc => ?_,slots:= fun j => rep_renew hx' hmu (hI.slots j) }
   ·have hc' : E.loc c = some b':= by rw [hE'] at hc; exact hc
    obtain ⟨k1,k2,k3,cs,vals',ty,hcs,hh',hrr,hone⟩:= hI.locc c b' hc'
    obtain ⟨l1,l2,l3,cs2,vals2,ty2,hcs2,hh2,_,_⟩:= hI'.locc c b' hc
    have hne : b' ≠ b:= fun e => (hI.mlocc τ b hb).2.2.2.2 c (e ▸ hc')
    refine ⟨l1,l2,l3,renewL τ ks vs' cs,vals',ty,by simp [Env.renew,hcs],?_,repL_renew hx' hmu hrr,hone⟩
    rw [hw]
    simp only [setObjW]
    rw [Array.getElem?_setIfInBounds_ne (fun e => hne e.symm)]
    exact hh'
   ·obtain ⟨cs',hcs',_⟩:= Option.map_eq_some_iff.1 hc
    obtain ⟨b',hb'⟩:= hI.locd c cs' hcs'
    exact ⟨b',by rw [hE']; exact hb'⟩
  unfold Oper.wp
  rw [hex,Oper.upon_skip,← hw]
  exact hK _ hI2
 unfold mapPut at hput
 split at hput
 ·rename_i i hi
  injection hput with hput
  injection hput with e1 e2
  subst e1 e2
  rcases run_findKey hk kv es hi E.w with ⟨h0,_⟩ | ⟨j,en,h0,g1,g2,g3⟩
  ·cases h0
  injection h0 with h0
  subst h0
  obtain ⟨k1,k2⟩:= keyEq_same g2
  refine fin (es.modify i fun e => { e with key:= kv,val:= a.eval x }) ck ?_ ?_ ?_
  ·have hkk : (Instr.keyThatStays (((es[i]?).map (·.key)).getD kv) kv).run P E.w = .ok kv E.w:= by
    simp [g1,Instr.keyThatStays,k2,Sem.run]
   have hmod : es.toArray.modify i (fun e => { e with key:= kv,val:= a.eval x }) = (es.modify i fun e => { e with key:= kv,val:= a.eval x }).toArray:= by simp
   rcases ho with ho | ho <;> simp only [execOp,ho,he,hkv] <;>
    simp [Instr.mapUpdate,Sem.run_bind,run_underlying_eq ht,getObj_run hh,run_checkKey hk,g3,hkk,setObj_run hh,hmod,Sem.run]
  ·apply List.ext_getElem?
   intro j
   rw [List.getElem?_map,List.getElem?_map,List.getElem?_modify]
   split
   ·rename_i e
    subst e
    rw [g1]
    simp [k1]
   ·simp
  ·intro E' q1 q2
   have : (es.modify i fun e => { e with key:= kv,val:= a.eval x }).map (·.val) = (es.map (·.val)).set i (a.eval x):= by
    apply List.ext_getElem?
    intro j
    rw [List.getElem?_map,List.getElem?_modify,List.getElem?_set]
    split
    ·rename_i e
     subst e
     rw [g1]
     have:= (List.getElem?_eq_some_iff.1 g1).1
     simp [this]
    ·simp
   rw [this]
   exact repL_set i q1 q2
 ·rename_i hi
  injection hput with hput
  injection hput with e1 e2
  subst e1 e2
  rcases run_findKey hk kv es hi E.w with ⟨_,g3⟩ | ⟨j,en,h0,_⟩
  ·refine fin (es ++ [({ key:= kv,val:= a.eval x,born:= ck } : MapEntry)]) (ck + 1) ?_ (by simp) ?_
   ·have hpush : es.toArray.push { key:= kv,val:= a.eval x,born:= ck } = (es ++ [({ key:= kv,val:= a.eval x,born:= ck } : MapEntry)]).toArray:= by simp
    rcases ho with ho | ho <;> simp only [execOp,ho,he,hkv] <;>
     simp [Instr.mapUpdate,Sem.run_bind,run_underlying_eq ht,getObj_run hh,run_checkKey hk,g3,setObj_run hh,hpush,Sem.run]
   ·intro E' q1 q2
    simp only [List.map_append,List.map_cons,List.map_nil]
    exact q1.append (by simp only [RepL]; exact ⟨_,_,rfl,q2,rfl⟩)
  ·cases h0
 ·cases hput
def stepClr (z : List AV) (x : AV) (env : Env) : Option Env:= match x with
 | .sl _ _ [] => some env
 | .ml c off n cap g e => match env.c c with
  | some cs => if e = z.length ∧ off + n * e ≤ cs.length ∧ oneL z = true then some (env.putc c (cs.take off ++ (List.replicate n z).flatten ++ cs.drop (off + n * e))) else none
  | none => none
 | _ => none
theorem zeroCells_list (z : Array Value) (hz : 0 < z.size) : ∀ n : Nat,(Builtin.zeroCells z n).toList = (List.replicate n z.toList).flatten
 | 0 => by simp [Builtin.zeroCells]
 | n + 1 => by
  have ih:= zeroCells_list z hz n
  rw [List.replicate_succ',List.flatten_append,← ih]
  simp only [Builtin.zeroCells,Array.toList_map,Array.toList_range,Nat.succ_mul,List.range_add,List.map_append,List.map_map,List.flatten_cons,List.flatten_nil,List.append_nil]
  congr 1
  apply List.ext_getElem
  ·simp
  ·intro i h1 h2
   have hi : i < z.size:= by simpa using h2
   simp [Nat.mod_eq_of_lt hi,hi]
theorem wp_clr (hI : Inv R N env a E) {o : Oper} {c : Call} {t e : TypeId} {i : TypeInfo} {z : Value} {x : Operand} (ho : o.op = .call c) (hc : c.callee = .builtin .clear) (hat : c.argTypes[0]? = some t) (har : c.args.toList = [x])
  (ht : P.underlying t = some (.slice e)) (hi : P.info? e = some i) (hz : i.zero = some z) (hzs : z.cells.size = i.size)
  {env' : Env} (h : stepClr (z.cells.toList.map ofVal1) (env.ev x) env = some env')
  {K : Act → World → Prop} {Q : Exit → Act → World → Prop} (hdn : o.dst = none) (hK : ∀ v E',Inv R N env' (a.put o.dst v) E' → K (a.put o.dst v) E'.w) : o.wp P a E.w K Q:= by
 have hargs : c.args = #[x]:= by rw [← Array.toArray_toList (xs:= c.args),har]
 obtain ⟨t',hat',htt⟩ : ∃ t',c.argTypes[0]? = some t' ∧ t' = t:= ⟨t,hat,rfl⟩
 have hzero : ∀ w,(zeroValue e).run P w = .ok z w:= fun w => by simp [zeroValue,typeInfo,program,Sem.run,hi,hz,Bind.bind,Sem.bind,Pure.pure]
 have hx:= hI.ev x
 have wpof : ∀ {w' : World},(Builtin.clear_ c.argTypes o.type #[a.eval x]).run P E.w = .ok (.tuple #[]) w' → K (a.put o.dst (.tuple #[])) w' → o.wp P a E.w K Q:= by
  intro w' hr hk
  unfold Oper.wp
  have hex : (execOp a.eval o).run P E.w = .ok (.value (.tuple #[])) w':= by
   simp [execOp,ho,hc,hargs,resolve,invoke,builtin,Sem.run_bind,hr,Sem.run]
  rw [hex,Oper.upon_value]
  exact hk
 have put : ∀ {env : Env} {E : RE} {v : Value},Inv R N env a E → Inv R N env (a.put o.dst v) E:= by
  intro env E v h
  rw [hdn]
  exact h
 unfold stepClr at h
 split at h
 ·rename_i tk e' hxv
  injection h with h
  subst h
  rw [hxv] at hx
  simp only [Rep] at hx
  obtain ⟨A,cap,vs,he,_⟩:= hx
  refine wpof (w':= E.w) ?_ (hK _ E (put hI))
  cases A <;> simp [Builtin.clear_,hat,he,Sem.run_bind,run_underlying_eq ht,Sem.run]
 ·rename_i k off n cap g e' hxv
  split at h
  case h_2 => cases h
  rename_i cs hcs
  split at h
  case isFalse => cases h
  rename_i hcond
  obtain ⟨h1,h2,h3⟩:= hcond
  injection h with h
  subst h
  rw [hxv] at hx
  simp only [Rep] at hx
  obtain ⟨b,hb,he⟩:= hx
  obtain ⟨k1,k2,k3,cs',vals,ty,hcs',hh,hr,hone⟩:= hI.locc k b hb
  rw [hcs] at hcs'
  injection hcs' with hcs'
  subst hcs'
  have hrl:= hr.length
  rw [Array.length_toList] at hrl
  have hes : e' = i.size:= by rw [h1,List.length_map,Array.length_toList,hzs]
  by_cases hn : n = 0
  ·subst hn
   have henv : env.putc k (cs.take off ++ (List.replicate 0 (z.cells.toList.map ofVal1)).flatten ++ cs.drop (off + 0 * e')) = env:= by
    simp only [List.replicate_zero,List.flatten_nil,List.append_nil,Nat.zero_mul,Nat.add_zero,List.take_append_drop]
    unfold Env.putc
    congr 1
    funext j
    simp only [upd]
    split
    ·rename_i hj; rw [hj,hcs]
    ·rfl
   rw [henv] at hK
   refine wpof (w':= E.w) ?_ (hK _ E (put hI))
   simp [Builtin.clear_,hat,he,Sem.run_bind,run_underlying_eq ht,Sem.run]
  ·by_cases hz0 : z.cells.size = 0
   ·have hes0 : e' = 0:= by omega
    have henv : env.putc k (cs.take off ++ (List.replicate n (z.cells.toList.map ofVal1)).flatten ++ cs.drop (off + n * e')) = env:= by
     have : z.cells.toList = []:= List.eq_nil_of_length_eq_zero (by rw [Array.length_toList]; exact hz0)
     have h0 : (List.replicate n (z.cells.toList.map ofVal1)).flatten = []:= by rw [this]; simp
     rw [h0,hes0]
     simp only [List.append_nil,Nat.mul_zero,Nat.add_zero,List.take_append_drop]
     unfold Env.putc
     congr 1
     funext j
     simp only [upd]
     split
     ·rename_i hj; rw [hj,hcs]
     ·rfl
    rw [henv] at hK
    refine wpof (w':= E.w) ?_ (hK _ E (put hI))
    have hzc : (Builtin.zeroCells z.cells n).toList = []:= List.eq_nil_of_length_eq_zero (by rw [size_zeroCells' rfl,hz0]; simp)
    cases n with
    | zero => exact absurd rfl hn
    | succ n => simp [Builtin.clear_,hat,he,Sem.run_bind,run_underlying_eq ht,hzero,hzc,storeCells,Sem.run]
   ·have hzl:= zeroCells_list z.cells (by omega) n
    have hrz : RepL E (z.cells.toList.map ofVal1) z.cells.toList:= repL_ofVal1 E _
    have hone' : ∀ u ∈ z.cells.toList,u.oneCell' = true:= repL_one hrz (oneL_spec h3)
    have hflat : ∀ u ∈ (List.replicate n z.cells.toList).flatten,u.oneCell' = true:= by
     intro u hu
     obtain ⟨l,hl,hul⟩:= List.mem_flatten.1 hu
     rw [List.eq_of_mem_replicate hl] at hul
     exact hone' u hul
    have hlen : ((List.replicate n z.cells.toList).flatten).length = n * e':= by
     rw [List.length_flatten,List.map_replicate,List.sum_replicate_nat,Array.length_toList,hes,hzs]
    have hst:= run_storeCells_at P b off ty (List.replicate n z.cells.toList).flatten 0 vals E.w hh (by rw [hlen]; omega) hflat
    simp only [Nat.add_zero,hlen] at hst
    obtain ⟨hI',_⟩:= hI.setLoc hb hh (cs:= cs.take off ++ (List.replicate n (z.cells.toList.map ofVal1)).flatten ++ cs.drop (off + n * e')) (cur:= (vals.toList.take off ++ (List.replicate n z.cells.toList).flatten ++ vals.toList.drop (off + n * e')).toArray)
     (by simpa using ((hr.take off).append (repL_flatten hrz n)).append (hr.drop _)) (fun u hu => by
      simp only [] at hu
      rcases List.mem_append.1 hu with hu | hu
      ·rcases List.mem_append.1 hu with hu | hu
       ·exact hone u (List.mem_of_mem_take hu)
       ·exact hflat u hu
      ·exact hone u (List.mem_of_mem_drop hu))
    refine wpof ?_ (hK _ _ (put hI'))
    cases n with
    | zero => exact absurd rfl hn
    | succ n => simp [Builtin.clear_,hat,he,Sem.run_bind,run_underlying_eq ht,hzero,hzl,hst,Sem.run]
 ·cases h
end
def VS (E : Env) (S : Env → Prop) : Prop:= ∀ (R : RE) (N : Nat) (a : Act) (F : RE),R.Start → Inv R N E a F → ∃ E' F',F'.w = F.w ∧ S E' ∧ Inv R N E' a F'
theorem VS.refl {E : Env} {S : Env → Prop} (h : S E) : VS E S:= fun R N a F _ hI => ⟨E,F,rfl,h,hI⟩
theorem VS.trans {E : Env} {S T : Env → Prop} (h : VS E S) (h2 : ∀ E',S E' → VS E' T) : VS E T:= by
 intro R N a F hR hI
 obtain ⟨E1,F1,hw,hS,hI1⟩:= h R N a F hR hI
 obtain ⟨E2,F2,hw2,hT,hI2⟩:= h2 E1 hS R N a F1 hR hI1
 exact ⟨E2,F2,hw2.trans hw,hT,hI2⟩
theorem VS.cell {E : Env} {c : Nat} {cs cs' : List AV} (hc : E.c c = some cs) (h : ∀ (F : RE) (vs : List Value),RepL F cs vs → RepL F cs' vs) : VS E fun E' => E' = E.putc c cs':= by
 intro R N a F hR hI
 refine ⟨_,F,rfl,rfl,{ hI with locc:= fun c1 b hb => ?_,locd:= fun c1 cs1 hc1 => ?_,slots:= fun k => hI.slots k }⟩
 ·obtain ⟨h1,h2,h3,cs1,vals,ty,hcs,hh,hr,ho⟩:= hI.locc c1 b hb
  by_cases e : c1 = c
  ·subst e
   rw [hc] at hcs
   injection hcs with hcs
   subst hcs
   exact ⟨h1,h2,h3,cs',vals,ty,by simp [Env.putc,upd],hh,h F _ hr,ho⟩
  ·exact ⟨h1,h2,h3,cs1,vals,ty,by simp [Env.putc,upd,e,hcs],hh,hr,ho⟩
 ·simp only [Env.putc,upd] at hc1
  split at hc1
  ·rename_i e; subst e; exact hI.locd _ cs hc
  ·exact hI.locd c1 cs1 hc1
theorem VS.slot {E : Env} {k : Nat} {x : AV} (h : ∀ (F : RE) (v : Value),Rep F (E.s k) v → Rep F x v) : VS E fun E' => E' = E.put k x:= by
 intro R N a F hR hI
 refine ⟨_,F,rfl,rfl,{ hI with slots:= fun j => ?_ }⟩
 simp only [Env.put,upd]
 split
 ·rename_i e; subst e; exact h F _ (hI.slots j)
 ·exact hI.slots j
theorem VS.empty {E : Env} {k : Nat} {t : Tok} {e : Nat} (t' : Tok) (hk : E.s k = .sl t e []) (ht : t' = .none ∨ t' = .bor) : VS E fun E' => E' = E.put k (.sl t' e []):= by
 refine VS.slot fun F v h => ?_
 rw [hk] at h
 simp only [Rep] at h ⊢
 obtain ⟨A,cap,vs,rfl,h1,h2,h3,h4,_⟩:= h
 refine ⟨A,cap,vs,rfl,h1,h2,h3,h4,?_⟩
 rcases ht with rfl | rfl <;> exact fun h => absurd rfl h
theorem VS.lit0 {E : Env} {k : Nat} {A : Option Addr} {c e : Nat} (t' : Tok) (hk : E.s k = .lit (.slice A 0 c)) (ht : t' = .none ∨ t' = .bor) : VS E fun E' => E' = E.put k (.sl t' e []):= by
 refine VS.slot fun F v h => ?_
 rw [hk] at h
 simp only [Rep] at h ⊢
 refine ⟨A,c,[],h,Nat.zero_le _,by simp [RepL],by simp,by simp [flat],?_⟩
 rcases ht with rfl | rfl <;> exact fun h => absurd rfl h
inductive Spot where
 | slot (k : Nat)
 | cell (c i : Nat)
def Env.at (E : Env) : Spot → Option AV
 | .slot k => some (E.s k)
 | .cell c i => (E.c c).bind fun cs => cs[i]?
def Env.set (E : Env) : Spot → AV → Env
 | .slot k,x => E.put k x
 | .cell c i,x => match E.c c with
  | some cs => E.putc c (cs.set i x)
  | none => E
section
variable {P : Program} {R : RE} {N : Nat} {env : Env} {a : Act} {E : RE}
theorem Inv.atSpot (h : Inv R N env a E) {p : Spot} {x : AV} (hp : env.at p = some x) : ∃ v,Rep E x v ∧ ∀ {env' : Env} {E' : RE} {y : AV},Inv R N env' a E' → E'.w = E.w → (∀ c i,p = .cell c i → E'.loc c = E.loc c) → Rep E' y v → (∃ z,env'.at p = some z) → Inv R N (env'.set p y) a E':= by
 cases p with
 | slot k =>
  simp only [Env.at,Option.some.injEq] at hp
  subst hp
  refine ⟨_,h.slots k,fun {env' E' y} hI _ _ hy _ => ?_⟩
  refine { hI with slots:= fun j => ?_ }
  simp only [Env.set,Env.put,upd]
  split
  ·rename_i e; subst e; exact hy
  ·exact hI.slots j
 | cell c i =>
  simp only [Env.at] at hp
  obtain ⟨cs,hcs,hx⟩:= Option.bind_eq_some_iff.1 hp
  obtain ⟨b,hb⟩:= h.locd c cs hcs
  obtain ⟨h1,h2,h3,cs1,vals,ty,hcs1,hh,hr,ho⟩:= h.locc c b hb
  rw [hcs] at hcs1
  injection hcs1 with e
  subst e
  obtain ⟨v,hv,hrep⟩:= hr.get i hx
  refine ⟨v,hrep,fun {env' E' y} hI hw hl hy hz => ?_⟩
  obtain ⟨z,hz⟩:= hz
  simp only [Env.at] at hz
  obtain ⟨cs',hcs',hz'⟩:= Option.bind_eq_some_iff.1 hz
  simp only [Env.set,hcs']
  refine { hI with locc:= fun c1 b1 hb1 => ?_,locd:= fun c1 cs1 hc1 => ?_,slots:= fun k => hI.slots k }
  ·obtain ⟨k1,k2,k3,cs1,vals1,ty1,hcs1,hh1,hr1,ho1⟩:= hI.locc c1 b1 hb1
   by_cases e : c1 = c
   ·subst e
    rw [hcs'] at hcs1
    injection hcs1 with e
    subst e
    have hbb : b1 = b:= by rw [hl c1 i rfl,hb] at hb1; exact (Option.some.inj hb1).symm
    subst hbb
    rw [hw,hh] at hh1
    injection hh1 with hh1
    injection hh1 with e1 e2 e3
    subst e1
    refine ⟨k1,k2,k3,cs'.set i y,vals,ty1,by simp [Env.putc,upd],by rw [hw,hh,e2],?_,ho⟩
    have:= repL_set i hr1 hy
    have hvs : vals.toList.set i v = vals.toList:= by
     apply List.ext_getElem?
     intro j
     rw [List.getElem?_set]
     split
     ·rename_i e; subst e; rw [hv,if_pos (List.getElem?_eq_some_iff.1 hv).1]
     ·rfl
    rwa [hvs] at this
   ·exact ⟨k1,k2,k3,cs1,vals1,ty1,by simp [Env.putc,upd,e,hcs1],hh1,hr1,ho1⟩
  ·simp only [Env.putc,upd] at hc1
   split at hc1
   ·rename_i e; subst e; exact hI.locd _ cs' hcs'
   ·exact hI.locd c1 cs1 hc1
theorem at_strip {E : Env} {p : Spot} {x : AV} (τ : List Nat) (h : E.at p = some x) : (E.strip τ).at p = some (strip τ x):= by
 cases p with
 | slot k =>
  simp only [Env.at,Option.some.injEq] at h ⊢
  subst h
  rfl
 | cell c i =>
  simp only [Env.at] at h ⊢
  obtain ⟨cs,hcs,hx⟩:= Option.bind_eq_some_iff.1 h
  have e : stripL τ cs = cs.map (strip τ):= by
   clear hcs hx
   induction cs with
   | nil => rfl
   | cons y ys ih => simp [stripL,ih]
  simp only [Env.strip,hcs,Option.map_some,Option.bind_some,e,List.getElem?_map,hx]
theorem rows_cells {E : RE} {e : Nat} : ∀ {rows : List AV} {vs : List Value},RepL E rows vs → (∀ r ∈ rows,r.row = true) → RepL E (rows.flatMap cellsOf) (flat vs)
 | [],vs,h,_ => by
  simp only [RepL] at h
  subst h
  simp [RepL,flat]
 | r :: rows,vs,h,hr => by
  simp only [RepL] at h
  obtain ⟨v,ws,rfl,h1,h2⟩:= h
  have:= rows_cells (e:= e) h2 fun r hr' => hr r (by simp [hr'])
  simp only [List.flatMap_cons,flat]
  exact (rep_cells h1 (row_or (hr r (by simp)))).append this
theorem repL_dead {E : RE} : ∀ (vs : List Value),RepL E (List.replicate vs.length .dead) vs
 | [] => by simp [RepL]
 | v :: vs => by simp only [List.length_cons,List.replicate_succ,RepL]; exact ⟨v,vs,rfl,by simp only [Rep],repL_dead vs⟩
theorem VS.adoptX {E : Env} {p : Spot} {τ : List Nat} {e : Nat} {rows : List AV} {g : Bool} (n : Nat) (hp : E.at p = some (.sl (.fr τ) e rows)) (hne : rows ≠ []) (hrow : ∀ r ∈ rows,r.row = true) (hn : n < 100000) (hc : E.c n = none) :
  VS E fun E' => ∃ cap j,rows.length ≤ cap ∧ ((rows.flatMap cellsOf).length + j = cap * e ∧ cap ≤ maxLen) ∧ E' = ((E.strip τ).set p (.ml n 0 rows.length cap g e)).putc n (rows.flatMap cellsOf ++ List.replicate j .dead):= by
 intro R N a F hR hI
 obtain ⟨v,hv,hset⟩:= hI.atSpot hp
 simp only [Rep] at hv
 obtain ⟨A,cap,vs,rfl,hcap,hr,he,h1,ht⟩:= hv
 rcases ht with ⟨h0,_⟩ | ⟨b,cur,ty,rfl,hat,hh,hm,hcs,hown,hS,hone⟩
 ·exact absurd h0 hne
 have hU:= hI.unownT τ
 have hln : F.loc n = none:= by
  cases hl : F.loc n with
  | none => rfl
  | some b' =>
   obtain ⟨_,_,_,cs,_,_,hcs',_⟩:= hI.locc n b' hl
   rw [hc] at hcs'
   cases hcs'
 have hpn : ∀ i,p ≠ .cell n i:= by
  rintro i rfl
  simp [Env.at,hc] at hp
 have hnl : ∀ c,F.loc c ≠ some b:= fun c hc' => (hI.locc c b hc').2.2.1 τ hown
 have hno : ∀ t,¬ (F.unown τ).own b t:= fun t ht => ht.2 (hI.own1 b t τ ht.1 hown)
 have hvl:= hr.length
 have hfl:= flat_length he
 have hcur : cur.toList = flat vs ++ cur.toList.drop (flat vs).length:= by
  apply List.ext_getElem?
  intro j
  by_cases hj : j < (flat vs).length
  ·have hg:= (hat j _ (List.getElem?_eq_getElem hj)).2
   simp only [World.cell?,hh,Nat.zero_add] at hg
   rw [List.getElem?_append_left hj,List.getElem?_eq_getElem hj]
   simpa using hg
  ·rw [List.getElem?_append_right (by omega),List.getElem?_drop]
   congr 1
   omega
 obtain ⟨F',hF'⟩ : ∃ F' : RE,F' = { F.unown τ with loc:= upd F.loc n (some b) }:= ⟨_,rfl⟩
 have hx : Ext (F.unown τ) F':= by
  rw [hF']
  refine ⟨fun _ _ h => h,fun _ h => h,fun _ _ _ _ h => h,fun _ _ _ _ h => h,fun c b' hc' => ?_,fun k t hk => ⟨hk,rfl,fun _ h => h⟩,rfl,fun t b' hb => ⟨hb,rfl⟩⟩
  simp only [upd]
  rw [if_neg (fun e => by rw [e] at hc'; rw [show (F.unown τ).loc n = none from hln] at hc'; cases hc')]
  exact hc'
 have hI1 : Inv R N ((E.strip τ).putc n (rows.flatMap cellsOf ++ List.replicate (cur.toList.drop (flat vs).length).length .dead)) a F':= by
  have hw : F'.w = F.w:= by rw [hF']; rfl
  have hrr : RepL F' (rows.flatMap cellsOf ++ List.replicate (cur.toList.drop (flat vs).length).length .dead) cur.toList:= by
   conv => arg 3; rw [hcur]
   refine RepL.append (rows_cells (e:= e) (hr.mono ?_) hrow) (repL_dead _)
   have h1:= Ext.closed_le F'
   have h2 : F.closed = F'.closed:= by rw [hF']; rfl
   rw [h2]
   exact h1
  have hlc : ∀ c,F'.loc c = if c = n then some b else F.loc c:= by intro c; rw [hF']; rfl
  refine ⟨hU.defers,hU.Nlim,fun c b' hb' hc' => ?_,hU.size,by rw [hF']; exact hU.B,by rw [hF']; exact hU.Bok,by rw [hw]; exact hI.below,hU.Mlt,by rw [hF']; exact hU.MS,fun c b' hc' => ⟨(hI.par c b' hc').1,?_⟩,by rw [hF']; exact hU.G,by rw [hF']; exact hU.S0,by rw [hF']; exact hU.Slt,by rw [hF']; exact hU.ownlt,by rw [hF']; exact hU.own1,fun c b' hb' => ?_,fun c cs hc' => ?_,fun c c' b' h1 h2 => ?_,fun t b' hb' => ?_,by rw [hF']; exact hU.mloc1,fun k => (hU.slots k).mono hx⟩
  ·rw [hlc] at hb'
   rw [if_neg (by omega)] at hb'
   exact hU.lentl c b' hb' hc'
  ·rw [hlc]
   rw [if_neg (fun e => by have:= hR.lim c b' hc'; omega)]
   exact (hI.par c b' hc').2
  ·rw [hlc] at hb'
   split at hb'
   ·rename_i e
    subst e
    injection hb' with hb'
    subst hb'
    exact ⟨.inl (hI.ownlt b τ hown).1,by rw [hF']; exact hS,by rw [hF']; exact hno,_,cur,ty,by simp [Env.putc,upd],by rw [hw]; exact hh,hrr,hone⟩
   ·rename_i hcn
    obtain ⟨k1,k2,k3,cs,vals,ty',hcs',hh',hr',ho'⟩:= hU.locc c b' hb'
    exact ⟨k1,by rw [hF']; exact k2,by rw [hF']; exact k3,cs,vals,ty',by simp [Env.putc,upd,hcn,hcs'],by rw [hw]; exact hh',hr'.mono hx,ho'⟩
  ·simp only [Env.putc,upd] at hc'
   rw [hlc]
   split at hc'
   ·rename_i e; exact ⟨b,by rw [if_pos e]⟩
   ·rename_i e
    rw [if_neg e]
    exact hU.locd c cs hc'
  ·rw [hlc] at h1 h2
   split at h1 <;> split at h2
   ·omega
   ·injection h1 with h1
    exact absurd (h1 ▸ h2) (hnl c')
   ·injection h2 with h2
    exact absurd (h2 ▸ h1) (hnl c)
   ·exact hI.loc1 c c' b' h1 h2
  ·have hb2 : (F.unown τ).mloc t = some b':= by rw [hF'] at hb'; exact hb'
   obtain ⟨k1,k2,k3,k4,k5⟩:= hU.mlocc t b' hb2
   refine ⟨k1,by rw [hw]; exact k2,by rw [hF']; exact k3,by rw [hF']; exact k4,fun c' hc' => ?_⟩
   rw [hlc] at hc'
   split at hc'
   ·injection hc' with hc'
    subst hc'
    exact (hI.mlocc t b hb2).2.2.2.1 τ hown
   ·exact k5 c' hc'
 have hatI : ∃ z,((E.strip τ).putc n (rows.flatMap cellsOf ++ List.replicate (cur.toList.drop (flat vs).length).length .dead)).at p = some z:= by
  have hs:= at_strip τ hp
  cases p with
  | slot k => exact ⟨_,rfl⟩
  | cell c i =>
   have hcn : c ≠ n:= fun e => hpn i (by rw [e])
   simp only [Env.at,Env.putc,upd,if_neg hcn] at hs ⊢
   exact ⟨_,hs⟩
 have hml : Rep F' (.ml n 0 rows.length cap g e) (.slice (some ⟨b,0,none⟩) rows.length cap):= by
  simp only [Rep]
  exact ⟨b,by rw [hF']; simp [upd],rfl⟩
 have hsz : (rows.flatMap cellsOf).length + (cur.toList.drop (flat vs).length).length = cap * e:= by
  have e1 : (rows.flatMap cellsOf).length = (flat vs).length:= (rows_cells (e:= e) hr hrow).length.symm
  have e2:= congrArg List.length hcur
  rw [List.length_append,Array.length_toList] at e2
  omega
 refine ⟨_,F',by rw [hF']; rfl,⟨cap,(cur.toList.drop (flat vs).length).length,hcap,⟨hsz,hm⟩,rfl⟩,?_⟩
 have key : ((E.strip τ).set p (.ml n 0 rows.length cap g e)).putc n (rows.flatMap cellsOf ++ List.replicate (cur.toList.drop (flat vs).length).length .dead) =
   ((E.strip τ).putc n (rows.flatMap cellsOf ++ List.replicate (cur.toList.drop (flat vs).length).length .dead)).set p (.ml n 0 rows.length cap g e):= by
  cases p with
  | slot k => rfl
  | cell c i =>
   have hcn : c ≠ n:= fun e => hpn i (by rw [e])
   simp only [Env.set]
   have e1 : ((E.strip τ).putc n (rows.flatMap cellsOf ++ List.replicate (cur.toList.drop (flat vs).length).length .dead)).c c = (E.strip τ).c c:= by simp [Env.putc,upd,hcn]
   rw [e1]
   cases (E.strip τ).c c with
   | none => rfl
   | some cs =>
    simp only [Env.putc,Env.mk.injEq,true_and]
    funext j
    simp only [upd]
    by_cases h1 : j = n
    ·subst h1
     rw [if_pos rfl,if_neg (Ne.symm hcn),if_pos rfl]
    ·rw [if_neg h1,if_neg h1]
 rw [key]
 exact hset hI1 (by rw [hF']; rfl) (fun c i e => by
  have hcn : c ≠ n:= fun e' => hpn i (by rw [e,e'])
  rw [hF']
  simp only [upd,if_neg hcn]) hml hatI
theorem VS.adopt {E : Env} {p : Spot} {τ : List Nat} {e : Nat} {rows : List AV} {g : Bool} (n : Nat) (hp : E.at p = some (.sl (.fr τ) e rows)) (hne : rows ≠ []) (hrow : ∀ r ∈ rows,r.row = true) (hn : n < 100000) (hc : E.c n = none) :
  VS E fun E' => ∃ cap j,rows.length ≤ cap ∧ E' = ((E.strip τ).set p (.ml n 0 rows.length cap g e)).putc n (rows.flatMap cellsOf ++ List.replicate j .dead) :=
 (VS.adoptX n hp hne hrow hn hc).trans fun _ ⟨cap,j,h1,_,h2⟩ => VS.refl ⟨cap,j,h1,h2⟩
end
end Go.Proofs.YtnndbbmidoidpaaGreatDoor.VL
end

section
namespace Go.Proofs.YtnndbbmidoidpaaGreatDoor.VL
open Go.RowKit
def Env.putO (E : Env) (d : Option Nat) (x : AV) : Env:= match d with | some d => E.put d x | none => E
def okBs (bs : List Nat) : AV → Bool
 | .sl (.own τ) _ _ => bs.all fun k => τ != [k]
 | .sl (.fr τ) _ _ => bs.all fun k => τ != [k]
 | _ => true
theorem okBs_nil (v : AV) : okBs [] v = true:= by
 unfold okBs
 split <;> rfl
def step (d : Option Nat) (op : AOp) (E : Env) : Option Env :=
 match op with
 | .alloc z => match d with | some d => stepAlloc d z E | none => none
 | .box x => match d with | some d => stepBox d x E | none => none
 | .bslice _ esz parts => match d with | some d => stepBslice esz d (parts.map E.ev) E | none => none
 | .mks b esz bytes z l c => match d with | some d => stepMks b esz bytes d z (E.ev l) (E.ev c) E | none => none
 | .mko esz bytes c => match d with | some d => stepMko esz bytes d (E.ev c) E | none => none
 | .mkf b esz bytes z l c => match d with | some d => stepMkf b esz bytes d z (E.ev l) (E.ev c) E | none => none
 | .mkm => match d with | some d => some (E.put d (.mf [d] true)) | none => none
 | .mup str m k x => match d with | none => stepMup str (E.ev m) (E.ev k) (E.ev x) E | some _ => none
 | .clr z x => match d with | none => stepClr z (E.ev x) E | some _ => none
 | .bsl0 _ => none
 | .store size p x => match d with | none => stepStore size (E.ev p) (E.ev x) E | some _ => none
 | .app esz bytes bs x y => match d with | some d => if okBs bs (E.ev x) then stepApp esz bytes d (E.ev x) (E.ev y) E else none | none => none
 | .load agg size p => match E.ev p with
  | .gp g => if agg = false then if g ∈ GS then some (E.putO d (.gl g)) else none else none
  | _ => match aval E (.load agg size p) with
   | some x => some (E.putO d x)
   | none => none
 | .loadc agg size p => match E.ev p with
  | .gp g => if agg = false then if g ∈ GS then some (E.putO d (.gl g)) else none else none
  | _ => match aval E (.loadc agg size p) with
   | some x => some (E.putO d x)
   | none => none
 | op => match aval E op with
  | some x => some (E.putO d x)
  | none => none
structure AOper where
 dst : Option Nat
 op : AOp
 guard : Option (Nat × Bool)
 deriving Inhabited
def awOp (P : Program) (o : AOper) (E : Env) (K : Env → Prop) : Prop :=
  match o.op with
  | .call f args => ∃ as r, mapO (lower E.c 8) (args.map E.ev) = some as ∧ AC P f as r ∧ K (E.putO o.dst (retag (o.dst.getD 0) r))
  | .callv x args => ∃ f fst caps, E.ev x = .clo (.func f) fst caps ∧ ∃ as r, mapO (lower E.c 8) (fst ++ args.map E.ev ++ caps) = some as ∧ AC P f as r ∧ K (E.putO o.dst (retag (o.dst.getD 0) r))
  | .callm f args => (∃ as r, mapO (lower E.c 8) (args.map E.ev) = some as ∧ AC P f as r ∧ K (E.putO o.dst (retag (o.dst.getD 0) r))) ∨
      ∃ m as c0 r c1, mOK m = true ∧ mapO (lowerM m E.c 8) (args.map E.ev) = some as ∧ lentC m E.c = some c0 ∧ AM P f as c0 r c1 ∧ K ((backC m c1 E).putO o.dst (retag (o.dst.getD 0) (unlend m r)))
  | .callvm x args => ∃ f fst caps, E.ev x = .clo (.func f) fst caps ∧ ((∃ as r, mapO (lower E.c 8) (fst ++ args.map E.ev ++ caps) = some as ∧ AC P f as r ∧ K (E.putO o.dst (retag (o.dst.getD 0) r))) ∨
      ∃ m as c0 r c1, mOK m = true ∧ mapO (lowerM m E.c 8) (fst ++ args.map E.ev ++ caps) = some as ∧ lentC m E.c = some c0 ∧ AM P f as c0 r c1 ∧ K ((backC m c1 E).putO o.dst (retag (o.dst.getD 0) (unlend m r))))
  | .bsl0 esz => ∃ d, o.dst = some d ∧ (K (E.put d (.sl (.own [d]) esz [])) ∨ K (E.put d (.sl (.fr [d]) esz [])))
  | op => ∃ E', step o.dst op E = some E' ∧ K E'
def awOps (P : Program) : List AOper → Env → (Env → Prop) → Prop
 | [],E,K => K E
 | o :: os,E,K => match o.guard with
  | none => awOp P o E fun E' => awOps P os E' K
  | some (s,want) => ∃ t,E.s s = .lit t ∧ (t = .bool want → awOp P o E fun E' => awOps P os E' K) ∧ (t ≠ .bool want → awOps P os (E.putO o.dst (.lit undef)) K)
section
variable {P : Program} {R : RE} {N : Nat} {env : Env} {a : Act} {E : RE}
theorem Inv.putO (h : Inv R N env a E) {d : Option Nat} (hd : ∀ k,d = some k → k < N) {x : AV} {v : Value} (hx : Rep E x v) : Inv R N (env.putO d x) (a.put d v) E:= by
 cases d with
 | none => exact h
 | some k => exact h.put (hd k rfl) hx
theorem wp_val (hI : Inv R N env a E) {o : Oper} (hd : ∀ k,o.dst = some k → k < N) {x : AV} (h : ValOK P E a o x) {K : Act → World → Prop} {Q : Exit → Act → World → Prop}
  (hK : ∀ v E',Inv R N (env.putO o.dst x) (a.put o.dst v) E' → K (a.put o.dst v) E'.w) : o.wp P a E.w K Q:= by
 obtain ⟨v,hr,hx⟩:= h
 unfold Oper.wp
 rw [hr,Oper.upon_value]
 exact hK v E (hI.putO hd hx)
theorem val_load_glob (hI : Inv R N env a E) (hR : R.Start) {o : Oper} {t : TypeId} {y : Operand} (ho : o.op = .load t y) (hb : isAggB P t = some false) {g : Nat} (hy : env.ev y = .gp g) (hg : g ∈ GS) :
  ValOK P E a o (.gl g):= by
 have h:= hI.ev y
 rw [hy] at h
 simp only [Rep] at h
 have hc:= hI.glob hR g hg
 refine ⟨.iface (E.G g).1 (.pointer (some (E.G g).2)),?_,by simp only [Rep]; exact ⟨hg,trivial⟩⟩
 simp [execOp,ho,h,Instr.loadAt,Instr.sureAddr,Sem.run_bind,loadVar,run_isAgg hb,load,Sem.run,hc]
def plain : AOp → Bool
 | .alloc _ | .box _ | .bslice .. | .mks .. | .mko .. | .store .. | .app .. | .load .. | .loadc .. | .mkf .. | .mkm | .mup .. | .clr .. | .bsl0 _ => false
 | _ => true
theorem step_plain {d : Option Nat} {op : AOp} {env : Env} (h : plain op = true) : step d op env = match aval env op with | some x => some (env.putO d x) | none => none:= by
 cases op <;> first | rfl | cases h
theorem eqaRes_plain (neg : Bool) (t : TypeId) (x y : Operand) : plain (eqaRes P neg t x y) = true:= by
 unfold eqaRes
 repeat' split
 all_goals rfl
theorem wp_step (hI : Inv R N env a E) (hR : R.Start) {o : Oper} (hd : ∀ k,o.dst = some k → k < N) {env' : Env} (h : step o.dst (res P o.op) env = some env')
  {K : Act → World → Prop} {Q : Exit → Act → World → Prop} (hK : ∀ v E',Inv R N env' (a.put o.dst v) E' → K (a.put o.dst v) E'.w) : o.wp P a E.w K Q:= by
 have val : ∀ ao,plain ao = true → step o.dst ao env = some env' → (∀ x,aval env ao = some x → ValOK P E a o x) → o.wp P a E.w K Q:= by
  intro ao hp hs hv
  rw [step_plain hp] at hs
  split at hs
  ·rename_i x hx
   injection hs with hs
   subst hs
   exact wp_val hI hd (hv x hx) hK
  ·cases hs
 cases ho : o.op with
 | move x => rw [ho] at h; exact val (.mov x) rfl h (fun v hv => val_move hI (.inl ho) hv)
 | assign x => rw [ho] at h; exact val (.mov x) rfl h (fun v hv => val_move hI (.inr ho) hv)
 | pick c x y => rw [ho] at h; exact val (.pick c x y) rfl h (fun v hv => val_pick hI ho hv)
 | nilCheck x => rw [ho] at h; exact val (.nilchk x) rfl h (fun v hv => val_nilchk hI ho hv)
 | extract x i => rw [ho] at h; exact val (.ext x i) rfl h (fun v hv => val_ext hI ho hv)
 | unOp op t x => rw [ho] at h; exact val (.un op x) rfl h (fun v hv => val_un hI ho hv)
 | makeFunc fn p q => rw [ho] at h; exact val (.mkfn fn p.toList q.toList) rfl h (fun v hv => val_mkfn hI ho hv)
 | alloc t =>
  rw [ho] at h
  simp only [res] at h
  split at h
  ·rename_i z hz
   simp only [step] at h
   split at h
   ·rename_i d hdd
    rw [hdd] at hK
    exact wp_alloc hI ho hdd (hd d hdd) hz h hK
   ·cases h
  ·simp [step,aval] at h
 | box t x =>
  rw [ho] at h
  simp only [res,step] at h
  split at h
  ·rename_i d hdd
   rw [hdd] at hK
   exact wp_box hI ho hdd (hd d hdd) h hK
  ·cases h
 | buildSlice t n parts =>
  rw [ho] at h
  simp only [res] at h
  split at h
  ·rename_i e ht
   split at h
   ·rename_i i hi
    split at h
    ·rename_i z hz
     split at h
     case isFalse => simp [step,aval] at h
     rename_i hidx
     split at h
     case isFalse => simp [step,aval] at h
     rename_i hlim
     split at h
     case isFalse => simp [step,aval] at h
     rename_i hzs
     simp only [step] at h
     split at h
     ·rename_i d hdd
      rw [hdd] at hK
      exact wp_bslice hI ho hdd (hd d hdd) ht hi hz hzs hidx hlim.1 hlim.2 h hK
     ·cases h
    ·simp [step,aval] at h
   ·simp [step,aval] at h
  ·simp [step,aval] at h
 | makeSlice t l c =>
  rw [ho] at h
  simp only [res] at h
  split at h
  ·rename_i e ht
   split at h
   ·rename_i i b hi hbq
    split at h
    ·rename_i z hz
     split at h
     case isFalse => simp [step,aval] at h
     rename_i hzs
     split at h
     case isFalse => simp [step,aval] at h
     split at h
     ·rename_i hz0
      simp only [step] at h
      split at h
      ·rename_i d hdd
       rw [hdd] at hK
       unfold isZeroOp at hz0
       split at hz0
       ·exact wp_mko hI ho hdd (hd d hdd) ht hi hz hzs h hK
       ·cases hz0
      ·cases h
     ·simp only [step] at h
      split at h
      ·rename_i d hdd
       rw [hdd] at hK
       exact wp_mks hI ho hdd (hd d hdd) ht hi hz hzs h hK
      ·cases h
    ·simp [step,aval] at h
   ·simp [step,aval] at h
  ·simp [step,aval] at h
 | makeMap t r =>
  rw [ho] at h
  cases r with
  | some r => simp [res,step,aval] at h
  | none =>
   simp only [res] at h
   split at h
   ·simp only [step] at h
    split at h
    ·rename_i d hdd
     rw [hdd] at hK
     injection h with h
     subst h
     exact wp_mkm hI ho hdd (hd d hdd) hK
    ·cases h
   ·simp [step,aval] at h
 | mapUpdate t m k x =>
  rw [ho] at h
  simp only [res] at h
  split at h
  ·rename_i kt e ht
   split at h
   ·rename_i b hk
    simp only [step] at h
    split at h
    ·rename_i hdd
     refine wp_mup hI (.inl ho) ht hk h fun E' hI' => ?_
     rw [hdd] at hK ⊢
     exact hK undef E' hI'
    ·cases h
   ·simp [step,aval] at h
  ·simp [step,aval] at h
 | insert t m k x =>
  rw [ho] at h
  simp only [res] at h
  split at h
  ·rename_i kt e ht
   split at h
   ·rename_i b hk
    simp only [step] at h
    split at h
    ·rename_i hdd
     refine wp_mup hI (.inr ho) ht hk h fun E' hI' => ?_
     rw [hdd] at hK ⊢
     exact hK undef E' hI'
    ·cases h
   ·simp [step,aval] at h
  ·simp [step,aval] at h
 | lookup t m k ok =>
  rw [ho] at h
  simp only [res] at h
  split at h
  ·rename_i kt e ht
   split at h
   ·rename_i b z hk hz
    exact val (.lkp b (ofVal z) ok m k) rfl h (fun v hv => val_lkp hI ho ht hk hz hv)
   ·simp [step,aval] at h
  ·simp [step,aval] at h
 | store t x y =>
  rw [ho] at h
  simp only [res] at h
  split at h
  ·rename_i i hi
   simp only [step] at h
   split at h
   ·rename_i hdd
    refine wp_store hI ho hi h fun E' hI' => ?_
    rw [hdd] at hK ⊢
    exact hK undef E' hI'
   ·cases h
  ·simp [step,aval] at h
 | build t parts =>
  refine val (res P (.build t parts)) ?_ (by rw [← ho]; exact h) (fun v hv => val_build hI ho hv)
  simp only [res]
  repeat' split
  all_goals rfl
 | load t y =>
  rw [ho] at h
  simp only [res] at h
  split at h
  ·rename_i b i hb hi
   simp only [step] at h
   split at h
   ·rename_i g hg
    split at h
    ·rename_i hbf
     split at h
     ·rename_i hgs
      injection h with h
      subst h hbf
      exact wp_val hI hd (val_load_glob hI hR ho hb hg hgs) hK
     ·cases h
    ·cases h
   ·split at h
    ·rename_i x hx
     injection h with h
     subst h
     exact wp_val hI hd (val_load hI ho (by simp only [res,hb,hi]; exact hx)) hK
    ·cases h
  ·simp [step,aval] at h
 | fieldAddr t x f =>
  refine val (res P (.fieldAddr t x f)) ?_ (by rw [← ho]; exact h) (fun v hv => val_faddr hI ho hv)
  simp only [res]
  repeat' split
  all_goals rfl
 | field t x f =>
  refine val (res P (.field t x f)) ?_ (by rw [← ho]; exact h) (fun v hv => val_fld hI ho hv)
  simp only [res]
  repeat' split
  all_goals rfl
 | indexAddr t x i =>
  refine val (res P (.indexAddr t x i)) ?_ (by rw [← ho]; exact h) (fun v hv => val_iaddr hI ho hv)
  simp only [res]
  repeat' split
  all_goals rfl
 | index t x i =>
  rw [ho] at h
  simp only [res] at h
  split at h
  ·rename_i ht
   exact val (.idxs x i) rfl h (fun v hv => val_idxs hI ho ht hv)
  ·rename_i n e ht
   split at h
   ·rename_i inf b hi hb
    exact val (.idxa b n inf.size x i) rfl h (fun v hv => val_idxa hI ho ht hi hb hv)
   ·simp [step,aval] at h
  ·simp [step,aval] at h
 | makeInterface t x =>
  rw [ho] at h
  cases ht : P.underlying t with
  | none => simp [res,ht,step,aval] at h
  | some d =>
   cases d with
   | interface ms => simp [res,ht,step,aval] at h
   | _ => exact val (.mkif t x) rfl (by simp only [res,ht] at h; exact h) (fun v hv => val_mkif hI ho ht (by simp) hv)
 | convert s d x =>
  rw [ho] at h
  simp only [res] at h
  split at h
  ·rename_i q k hs hdd
   exact val (.cint k x) rfl h (fun v hv => val_cint hI ho hs hdd hv)
  ·rename_i hs hdd
   exact val (.cid x) rfl h (fun v hv => val_cid hI ho hs hdd hv)
  ·rename_i q hs hdd
   exact val (.i2s x) rfl h (fun v hv => val_i2s hI ho hs hdd hv)
  ·rename_i e hs hdd
   split at h
   ·rename_i he _
    exact val (.b2s x) rfl h (fun v hv => val_b2s hI ho hs he hdd hv)
   ·simp [step,aval] at h
  ·simp [step,aval] at h
 | typeAssert x xt t c =>
  rw [ho] at h
  cases c with
  | false => simp [res,step,aval] at h
  | true =>
   simp only [res] at h
   split at h
   ·simp [step,aval] at h
   ·rename_i e z ht hz
    exact val (.tas t (ofVal z) x) rfl h (fun v hv => val_tas hI hR ho ht hz hv)
   ·simp [step,aval] at h
 | slice t x lo hi mx =>
  rw [ho] at h
  simp only [res] at h
  split at h
  ·rename_i ht
   refine val (.slcs x lo hi) rfl h (fun v hv => ?_)
   cases hx : env.ev x with
   | lit u =>
    cases u with
    | string s => exact val_slc_str hI ho ht hx hv
    | _ => simp [aval,hx] at hv
   | _ => simp [aval,hx] at hv
  ·rename_i e ht
   split at h
   ·rename_i i hi'
    refine val (.slc i.size x lo hi) rfl h (fun v hv => ?_)
    cases hx : env.ev x with
    | sl tk e rows => exact val_slc hI ho ht hi' hx hv
    | ml c' off n cap g e => exact val_slc_ml hI ho ht hi' hx hv
    | _ => simp [aval,hx] at hv
   ·simp [step,aval] at h
  ·simp [step,aval] at h
 | binOp op t x y t' =>
  rw [ho] at h
  simp only [res] at h
  split at h
  ·rename_i ht
   exact val _ rfl h (fun v hv => val_eqb (neg:= false) hI ho rfl ht hv)
  ·rename_i ht
   exact val _ rfl h (fun v hv => val_eqb (neg:= true) hI ho rfl ht hv)
  ·rename_i ms ht
   exact val (.eqn false x) rfl h (fun v hv => val_eqn hI ho rfl ht hv)
  ·rename_i ms ht
   exact val (.eqn true x) rfl h (fun v hv => val_eqn hI ho rfl ht hv)
  ·rename_i e ht
   exact val (.eqp false x) rfl h (fun v hv => val_eqp hI ho rfl ht hv)
  ·rename_i e ht
   exact val (.eqp true x) rfl h (fun v hv => val_eqp hI ho rfl ht hv)
  ·rename_i e ht
   exact val (.eqs false x) rfl h (fun v hv => val_eqs hI ho rfl ht hv)
  ·rename_i e ht
   exact val (.eqs true x) rfl h (fun v hv => val_eqs hI ho rfl ht hv)
  ·exact val _ (eqaRes_plain ..) h (fun v hv => val_eqa (neg:= false) hI ho rfl hv)
  ·exact val _ (eqaRes_plain ..) h (fun v hv => val_eqa (neg:= true) hI ho rfl hv)
  ·exact val _ (eqaRes_plain ..) h (fun v hv => val_eqa (neg:= false) hI ho rfl hv)
  ·exact val _ (eqaRes_plain ..) h (fun v hv => val_eqa (neg:= true) hI ho rfl hv)
  ·rename_i y' ms ht _
   split at h
   ·rename_i hs
    exact val (.eqi false x _) rfl h (fun v hv => val_eqi (neg:= false) hI hR ho rfl ht hs hv)
   ·simp [step,aval] at h
  ·rename_i y' ms ht _
   split at h
   ·rename_i hs
    exact val (.eqi true x _) rfl h (fun v hv => val_eqi (neg:= true) hI hR ho rfl ht hs hv)
   ·simp [step,aval] at h
  ·exact val _ rfl h (fun v hv => val_bin hI ho hv)
 | call c =>
  rw [ho] at h
  simp only [res] at h
  split at h
  ·simp [step,aval] at h
  ·simp [step,aval] at h
  ·rename_i hc
   split at h
   ·rename_i t y hat har
    split at h
    ·rename_i ht
     exact val (.lens y) rfl h (fun v hv => val_lens hI ho hc hat har ht hv)
    ·rename_i e ht
     exact val (.lenl y) rfl h (fun v hv => val_lenl hI ho hc hat har ht hv)
    ·simp [step,aval] at h
   ·simp [step,aval] at h
  ·rename_i hc
   split at h
   ·rename_i t x hat har
    split at h
    ·rename_i e ht
     split at h
     ·rename_i i hi
      split at h
      ·rename_i z hz
       split at h
       ·rename_i hzs
        simp only [step] at h
        split at h
        ·rename_i hdd
         exact wp_clr hI ho hc hat har ht hi hz hzs h hdd hK
        ·cases h
       ·simp [step,aval] at h
      ·simp [step,aval] at h
     ·simp [step,aval] at h
    ·simp [step,aval] at h
   ·simp [step,aval] at h
  ·rename_i hc
   exact val (.mnmx false c.args.toList) rfl h (fun v hv => val_mnmx (mx:= false) hI ho (by simpa using hc) hv)
  ·rename_i hc
   exact val (.mnmx true c.args.toList) rfl h (fun v hv => val_mnmx (mx:= true) hI ho (by simpa using hc) hv)
  ·rename_i hc
   split at h
   ·rename_i t u x y hat har
    split at h
    case isFalse => simp [step,aval] at h
    rename_i htu
    subst htu
    split at h
    ·rename_i e ht
     split at h
     ·rename_i i hi
      split at h
      ·rename_i z hz
       split at h
       case isFalse => simp [step,aval] at h
       rename_i hzs
       split at h
       case isFalse => simp [step,aval] at h
       rename_i hsz
       split at h
       case isFalse => simp [step,aval] at h
       rename_i hz1
       simp only [step] at h
       split at h
       ·rename_i d hdd
        rw [hdd] at hK
        rw [if_pos (okBs_nil _)] at h
        exact wp_app hI ho hdd (hd d hdd) hc hat har ht hi hz hzs hsz hz1 h hK
       ·cases h
      ·simp [step,aval] at h
     ·simp [step,aval] at h
    ·simp [step,aval] at h
   ·simp [step,aval] at h
  ·simp [step,aval] at h
 | _ => rw [ho] at h; simp [res,step,aval] at h
end
end Go.Proofs.YtnndbbmidoidpaaGreatDoor.VL
end

section
namespace Go.Proofs.YtnndbbmidoidpaaGreatDoor.VL
open Go.RowKit
def resGuard (ops : Array Oper) : Option (Nat × Bool) → Option (Option (Nat × Bool))
 | none => some none
 | some (j,w) => match (ops[j]?).bind (·.dst) with
  | some s => some (some (s,w))
  | none => none
def resOper (P : Program) (ops : Array Oper) (o : Oper) : AOper :=
 match resGuard ops o.guard with
 | some g => ⟨o.dst,res P o.op,g⟩
 | none => ⟨o.dst,.bad,none⟩
def hasApp (ops : Array Oper) : Bool:= ops.toList.any fun o => match o.op with
 | .call c => match c.callee with
  | .builtin .append => true
  | _ => false
 | _ => false
def bslDsts (ops : List Oper) (o : Oper) : List Nat:= (ops.zipIdx.filterMap fun (q,j) => match q.op with
 | .buildSlice .. => if (o.after.toList.map (·.on)).contains j then none else q.dst
 | _ => none)
def adj (app : Bool) (bs : List Nat) : AOp → AOp
 | .load agg size a => match app with | true => .loadc agg size a | false => .load agg size a
 | .app e b bs' x y => .app e b (bs' ++ bs) x y
 | .mks b e y z l c => .mkf b e y z l c
 | op => op
def adjT : AOp → AOp
 | .call f l => .callm f l
 | .callv x l => .callvm x l
 | .bslice 0 e [] => .bsl0 e
 | op => op
def resOperT (P : Program) (ops : Array Oper) (o : Oper) : AOper:= { resOper P ops o with op:= adjT (resOper P ops o).op }
def resOperD (P : Program) (ops : Array Oper) (o : Oper) : AOper :=
 { resOper P ops o with op:= adj (hasApp ops) (bslDsts ops.toList o) (resOper P ops o).op }
section
variable {P : Program} {R : RE} {N : Nat} {env : Env} {a : Act} {E : RE}
theorem res_call {op : Op} {f : FuncId} {args : List Operand} (h : res P op = .call f args) : ∃ c,op = .call c ∧ c.callee = .value (.func f) ∧ c.args.toList = args:= by
 cases op with
 | call c =>
  simp only [res] at h
  split at h
  ·rename_i g hc
   injection h with h1 h2
   subst h1
   exact ⟨c,rfl,hc,h2⟩
  all_goals (repeat' split at h) <;> cases h
 | typeAssert x xt t c => cases c <;> simp only [res] at h <;> (repeat' split at h) <;> cases h
 | makeMap t r => cases r <;> simp only [res] at h <;> (repeat' split at h) <;> cases h
 | _ => simp only [res,eqaRes] at h; (repeat' split at h) <;> cases h
theorem res_callv {op : Op} {x : Operand} {args : List Operand} (h : res P op = .callv x args) : ∃ c,op = .call c ∧ c.callee = .value x ∧ c.args.toList = args:= by
 cases op with
 | call c =>
  simp only [res] at h
  split at h
  ·cases h
  ·rename_i g hc
   injection h with h1 h2
   subst h1
   exact ⟨c,rfl,by assumption,h2⟩
  all_goals (repeat' split at h) <;> cases h
 | typeAssert x xt t c => cases c <;> simp only [res] at h <;> (repeat' split at h) <;> cases h
 | makeMap t r => cases r <;> simp only [res] at h <;> (repeat' split at h) <;> cases h
 | _ => simp only [res,eqaRes] at h; (repeat' split at h) <;> cases h
theorem res_callm {op : Op} (f : FuncId) (l : List Operand) : res P op ≠ .callm f l:= by
 cases op <;> simp only [res,eqaRes] <;> (repeat' split) <;> simp
theorem res_callvm {op : Op} (f : Operand) (l : List Operand) : res P op ≠ .callvm f l:= by
 cases op <;> simp only [res,eqaRes] <;> (repeat' split) <;> simp
theorem res_bsl0 {op : Op} (e : Nat) : res P op ≠ .bsl0 e:= by
 cases op <;> simp only [res,eqaRes] <;> (repeat' split) <;> simp
theorem res_bslice {op : Op} {n esz : Nat} {l : List Operand} (h : res P op = .bslice n esz l) : ∃ t parts e i z,op = .buildSlice t n parts ∧ P.underlying t = some (.slice e) ∧ P.info? e = some i ∧ i.zero = some z ∧ esz = i.size ∧ l = parts.toList.map (·.2):= by
 cases op with
 | buildSlice t n' parts =>
  simp only [res] at h
  split at h
  ·rename_i e ht
   split at h
   ·rename_i i hi
    split at h
    ·rename_i z hz
     split at h
     case isFalse => cases h
     split at h
     case isFalse => cases h
     split at h
     case isFalse => cases h
     injection h with h1 h2 h3
     subst h1
     exact ⟨t,parts,e,i,z,rfl,ht,hi,hz,h2.symm,h3.symm⟩
    ·cases h
   ·cases h
  ·cases h
 | typeAssert x xt t c => cases c <;> simp only [res] at h <;> (repeat' split at h) <;> cases h
 | makeMap t r => cases r <;> simp only [res] at h <;> (repeat' split at h) <;> cases h
 | _ => simp only [res,eqaRes] at h; (repeat' split at h) <;> cases h
theorem res_mks {op : Op} {b : Bool} {esz bytes : Nat} {z : List AV} {l c : Operand} (h : res P op = .mks b esz bytes z l c) : ∃ t e i v,op = .makeSlice t l c ∧ P.underlying t = some (.slice e) ∧ P.info? e = some i ∧ i.zero = some v ∧ v.cells.size = i.size ∧ 0 < i.size ∧
  esz = i.size ∧ bytes = i.bytes ∧ z = v.cells.toList.map ofVal1:= by
 cases op with
 | makeSlice t l' c' =>
  simp only [res] at h
  split at h
  ·rename_i e ht
   split at h
   ·rename_i i b' hi hb
    split at h
    ·rename_i v hv
     split at h
     case isFalse => cases h
     rename_i hvs
     split at h
     case isFalse => cases h
     rename_i hpos
     split at h
     ·cases h
     ·injection h with h1 h2 h3 h4 h5 h6
      subst h5 h6
      exact ⟨t,e,i,v,rfl,ht,hi,hv,hvs,hpos,h2.symm,h3.symm,h4.symm⟩
    ·cases h
   ·cases h
  ·cases h
 | typeAssert x xt t c => cases c <;> simp only [res] at h <;> (repeat' split at h) <;> cases h
 | makeMap t r => cases r <;> simp only [res] at h <;> (repeat' split at h) <;> cases h
 | _ => simp only [res,eqaRes] at h; (repeat' split at h) <;> cases h
theorem mapO_lower (hI : Inv R N env a E) {m : List (Nat × Nat)} (hm : mOK m = true) {n : Nat} {xs ys : List AV} {vs : List Value} (h : mapO (lowerM m env.c n) xs = some ys) (hr : RepL E xs vs) : RepL (E.lend m) ys vs :=
 mapO_rep (fun x y v hl hr => lower_rep hI hm n hl hr) h hr
theorem ex_call (o : Oper) {c : Call} {f : FuncId} {args : List Operand} (ho : o.op = .call c) (hc : c.callee = .value (.func f)) (hargs : c.args.toList = args) (w : World) : (execOp a.eval o).run P w = (callFunc f (args.map a.eval).toArray).run P w:= by
 have : c.args.map a.eval = (args.map a.eval).toArray:= by rw [← hargs]; simp [← Array.toList_map]
 simp [execOp,ho,resolve,hc,Act.eval,Deferred.ofValue,invoke,this,Sem.run_bind,Sem.run]
theorem ex_callv (o : Oper) {c : Call} {x : Operand} {f : FuncId} {args : List Operand} {fs cs : List Value} (ho : o.op = .call c) (hc : c.callee = .value x) (hargs : c.args.toList = args) (he : a.eval x = .func (.func f) fs.toArray cs.toArray) (w : World) :
  (execOp a.eval o).run P w = (callFunc f (fs ++ args.map a.eval ++ cs).toArray).run P w:= by
 have : c.args.map a.eval = (args.map a.eval).toArray:= by rw [← hargs]; simp [← Array.toList_map]
 simp [execOp,ho,resolve,hc,he,Deferred.ofValue,invoke,this,Sem.run_bind,Sem.run]
theorem wp_awOp (hI : Inv R N env a E) (hR : R.Start) {o : Oper} (hd : ∀ k, o.dst = some k → k < N) {g : Option (Nat × Bool)} {KE : Env → Prop} (h : awOp P ⟨o.dst, res P o.op, g⟩ env KE)
    {K : Act → World → Prop} {Q : Exit → Act → World → Prop} (hK : ∀ v E' env', KE env' → Inv R N env' (a.put o.dst v) E' → K (a.put o.dst v) E'.w) : o.wp P a E.w K Q := by
  unfold awOp at h
  simp only at h
  split at h
  · rename_i f args hres
    obtain ⟨as, r, has, hac, hk⟩ := h
    obtain ⟨c, ho, hc, hargs⟩ := res_call hres
    exact wp_callF hI hR (cargs := args.map a.eval) (ex_call o ho hc hargs _) (mapO_lower hI rfl has (hI.evs args)) hac fun v E' hI' hr => hK v E' _ hk (hI'.putO hd hr)
  · rename_i x args hres
    obtain ⟨f, fst, caps, hx, as, r, has, hac, hk⟩ := h
    obtain ⟨c, ho, hc, hargs⟩ := res_callv hres
    have hv := hI.ev x
    rw [hx] at hv
    simp only [Rep] at hv
    obtain ⟨fs, cs, he, h1, h2⟩ := hv
    exact wp_callF hI hR (cargs := fs ++ args.map a.eval ++ cs) (ex_callv o ho hc hargs he _) (mapO_lower hI rfl has ((h1.append (hI.evs args)).append h2)) hac fun v E' hI' hr => hK v E' _ hk (hI'.putO hd hr)
  · rename_i f args hres
    exact absurd hres (res_callm f args)
  · rename_i f args hres
    exact absurd hres (res_callvm f args)
  · rename_i e hres
    exact absurd hres (res_bsl0 e)
  · obtain ⟨env', hs, hk⟩ := h
    exact wp_step hI hR hd hs fun v E' hI' => hK v E' env' hk hI'
theorem wp_awOpT (hI : Inv R N env a E) (hR : R.Start) {o : Oper} (hd : ∀ k, o.dst = some k → k < N) {g : Option (Nat × Bool)} {KE : Env → Prop} (h : awOp P ⟨o.dst, adjT (res P o.op), g⟩ env KE)
    {K : Act → World → Prop} {Q : Exit → Act → World → Prop} (hK : ∀ v E' env', KE env' → Inv R N env' (a.put o.dst v) E' → K (a.put o.dst v) E'.w) : o.wp P a E.w K Q := by
  have other : adjT (res P o.op) = res P o.op → o.wp P a E.w K Q := fun e => by
    rw [e] at h
    exact wp_awOp hI hR hd h hK
  cases hres : res P o.op with
  | call f args =>
    rw [hres] at h
    simp only [adjT, awOp] at h
    obtain ⟨c, ho, hc, hargs⟩ := res_call hres
    rcases h with ⟨as, r, has, hac, hk⟩ | ⟨m, as, c0, r, c1, hm, has, hc0, hac, hk⟩
    · exact wp_callF hI hR (cargs := args.map a.eval) (ex_call o ho hc hargs _) (mapO_lower hI rfl has (hI.evs args)) hac fun v E' hI' hr => hK v E' _ hk (hI'.putO hd hr)
    · exact wp_callM hI hR (cargs := args.map a.eval) hm hc0 (ex_call o ho hc hargs _) (mapO_lower hI hm has (hI.evs args)) hac fun v E' hI' hr => hK v E' _ hk (hI'.putO hd hr)
  | callv x args =>
    rw [hres] at h
    simp only [adjT, awOp] at h
    obtain ⟨f, fst, caps, hx, h⟩ := h
    obtain ⟨c, ho, hc, hargs⟩ := res_callv hres
    have hv := hI.ev x
    rw [hx] at hv
    simp only [Rep] at hv
    obtain ⟨fs, cs, he, h1, h2⟩ := hv
    rcases h with ⟨as, r, has, hac, hk⟩ | ⟨m, as, c0, r, c1, hm, has, hc0, hac, hk⟩
    · exact wp_callF hI hR (cargs := fs ++ args.map a.eval ++ cs) (ex_callv o ho hc hargs he _) (mapO_lower hI rfl has ((h1.append (hI.evs args)).append h2)) hac fun v E' hI' hr => hK v E' _ hk (hI'.putO hd hr)
    · exact wp_callM hI hR (cargs := fs ++ args.map a.eval ++ cs) hm hc0 (ex_callv o ho hc hargs he _) (mapO_lower hI hm has ((h1.append (hI.evs args)).append h2)) hac fun v E' hI' hr => hK v E' _ hk (hI'.putO hd hr)
  | bslice n esz l =>
    by_cases h0 : n = 0 ∧ l = []
    · obtain ⟨rfl, rfl⟩ := h0
      obtain ⟨t, parts, e, i, z, ho, ht, hi, hz, he, hl⟩ := res_bslice hres
      have hp0 : parts.toList = [] := by simpa using hl.symm
      have hp1 : parts = #[] := by rw [← Array.toArray_toList (xs := parts), hp0]
      subst hp1 he
      have h2 := h
      rw [hres] at h2
      simp only [adjT, awOp] at h2
      obtain ⟨d, hdd, h2⟩ := h2
      rcases h2 with h2 | h2
      · refine wp_awOp (KE := KE) (g := g) hI hR hd ?_ hK
        rw [hres]
        exact ⟨_, by simp only [step, hdd, stepBslice, List.map_nil, rowsOf], h2⟩
      · have hK' : ∀ v E', Inv R N (env.put d (.sl (.fr [d]) i.size [])) (a.put (some d) v) E' → K (a.put (some d) v) E'.w := fun v E' hI' => by
          have := hK v E' _ h2 (by rw [hdd]; exact hI')
          rw [hdd] at this
          exact this
        exact wp_bsl0 hI ho hdd (hd d hdd) ht hi hz hK'
    · refine other ?_
      rw [hres]
      cases n with
      | zero => cases l with
        | nil => exact absurd ⟨rfl, rfl⟩ h0
        | cons => rfl
      | succ n => rfl
  | _ => exact other (by rw [hres]; rfl)
theorem wanted_none {o : Oper} {f : Nat → Option Bool} (h : o.guard = none) : Region.wanted o f = true:= by simp [Region.wanted,h]
theorem yielded_slot (hI : Inv R N env a E) {ops : Array Oper} {j s : Nat} (hs : (ops[j]?).bind (·.dst) = some s) {t : Value} (ht : env.s s = .lit t) (hsN : s < N) : yielded ops a.tmps j = match t with | .bool b => some b | _ => none:= by
 have h:= hI.slots s
 rw [ht] at h
 simp only [Rep] at h
 unfold yielded
 rw [hs]
 have hlt : s < a.tmps.size:= by rw [hI.size]; exact hsN
 have hs2 : a.tmps[s]? = some t:= by
  rw [Array.getElem?_eq_getElem hlt]
  rw [Array.getD_eq_getD_getElem?,Array.getElem?_eq_getElem hlt] at h
  simpa using h
 simp only [Option.bind_some,hs2]
 cases t <;> rfl
theorem wpOp_awT (hI : Inv R N env a E) (hR : R.Start) {ops : Array Oper} {i : Nat} {o : Oper} (ho : ops[i]? = some o) (hd : ∀ (j : Nat) (o : Oper) (k : Nat),ops[j]? = some o → o.dst = some k → k < N)
  {KE : Env → Prop} (h : match (resOperT P ops o).guard with
   | none => awOp P (resOperT P ops o) env KE
   | some (s,want) => ∃ t,env.s s = .lit t ∧ (t = .bool want → awOp P (resOperT P ops o) env KE) ∧ (t ≠ .bool want → KE (env.putO o.dst (.lit undef))))
  {K : Act → World → Prop} {Q : Exit → Act → World → Prop} (hK : ∀ v E' env',KE env' → Inv R N env' (a.put o.dst v) E' → K (a.put o.dst v) E'.w) : wpOp P ops Q i K a E.w:= by
 unfold wpOp
 simp only [ho]
 have hd' : ∀ k,o.dst = some k → k < N:= fun k hk => hd i o k ho hk
 unfold resOperT resOper at h
 cases hg : o.guard with
 | none =>
  simp only [hg,resGuard] at h
  rw [if_pos (wanted_none hg)]
  exact .inl (wp_awOpT hI hR hd' h hK)
 | some p =>
  obtain ⟨j,w⟩:= p
  simp only [hg,resGuard] at h
  cases hs : (ops[j]?).bind (·.dst) with
  | none =>
   simp only [hs] at h
   simp [adjT,awOp,step,aval] at h
  | some s =>
   simp only [hs] at h
   obtain ⟨t,ht,h1,h2⟩:= h
   obtain ⟨oj,hoj,hdj⟩:= Option.bind_eq_some_iff.1 hs
   have hy:= yielded_slot hI hs ht (hd j oj s hoj hdj)
   by_cases htw : t = .bool w
   ·subst htw
    rw [if_pos (by simp [Region.wanted,hg,hy])]
    exact .inl (wp_awOpT hI hR hd' (h1 rfl) hK)
   ·rw [if_neg (by
     simp only [Region.wanted,hg,hy]
     cases t with
     | bool b => simpa using htw
     | _ => simp)]
    exact hK undef E _ (h2 htw) (hI.putO hd' (by simp only [Rep]))
theorem chkTok_some {x : Option AV} {y : AV} (h : chkTok x = some y) : x = some y ∧ tokFree y = true:= by
 unfold chkTok at h
 split at h
 ·split at h
  ·rename_i ht
   injection h with h
   subst h
   exact ⟨rfl,ht⟩
  ·cases h
 ·cases h
theorem okBs_app {a b : List Nat} {v : AV} (h : okBs (a ++ b) v = true) : okBs a v = true:= by
 unfold okBs at h ⊢
 split at h
 ·simp only [List.all_append,Bool.and_eq_true] at h
  exact h.1
 ·simp only [List.all_append,Bool.and_eq_true] at h
  exact h.1
 ·exact h
theorem loadc_load {agg : Bool} {size : Nat} {p : Operand} {x : AV} (h : aval env (.loadc agg size p) = some x) : aval env (.load agg size p) = some x:= by
 simp only [aval] at h ⊢
 split at h
 ·exact (chkTok_some h).1
 ·exact (chkTok_some h).1
 ·exact h
 ·cases h
theorem awOp_adj {app : Bool} {bs : List Nat} {d : Option Nat} {op : AOp} {g : Option (Nat × Bool)} {K : Env → Prop} (hop : ∀ b e y z l c,op ≠ .mks b e y z l c) (h : awOp P ⟨d,adj app bs op,g⟩ env K) : awOp P ⟨d,op,g⟩ env K:= by
 cases op with
 | mks b e y z l c => exact absurd rfl (hop b e y z l c)
 | load agg size p =>
  cases app with
  | false => exact h
  | true =>
   obtain ⟨E',hs0,hk⟩:= h
   have hs : step d (.loadc agg size p) env = some E':= hs0
   refine ⟨E',?_,hk⟩
   show step d (.load agg size p) env = some E'
   cases hv : env.ev p with
   | gp g =>
    simp only [step,hv] at hs ⊢
    exact hs
   | _ =>
    simp only [step,hv] at hs ⊢
    cases hx : aval env (.loadc agg size p) with
    | none => rw [hx] at hs; cases hs
    | some x =>
     rw [hx] at hs
     rw [loadc_load hx]
     exact hs
 | app e b bs' x y =>
  simp only [adj] at h
  obtain ⟨E',hs,hk⟩:= h
  refine ⟨E',?_,hk⟩
  simp only [step] at hs ⊢
  split at hs
  ·split at hs
   ·rename_i hb
    rw [if_pos (okBs_app hb)]
    exact hs
   ·cases hs
  ·cases hs
 | _ => exact h
theorem wp_awOpD (hI : Inv R N env a E) (hR : R.Start) {o : Oper} (hd : ∀ k,o.dst = some k → k < N) {app : Bool} {bs : List Nat} {g : Option (Nat × Bool)} {KE : Env → Prop} (h : awOp P ⟨o.dst,adj app bs (res P o.op),g⟩ env KE)
  {K : Act → World → Prop} {Q : Exit → Act → World → Prop} (hK : ∀ v E' env',KE env' → Inv R N env' (a.put o.dst v) E' → K (a.put o.dst v) E'.w) : o.wp P a E.w K Q:= by
 by_cases hm : ∃ b e y z l c,res P o.op = .mks b e y z l c
 ·obtain ⟨b,e,y,z,l,c,hres⟩:= hm
  obtain ⟨t,ty,i,v,ho,ht,hi,hv,hvs,hpos,rfl,rfl,rfl⟩:= res_mks hres
  rw [hres] at h
  simp only [adj,awOp,step] at h
  obtain ⟨E',hs,hk⟩:= h
  split at hs
  ·rename_i d hdd
   refine wp_mkf hI ho hdd (hd d hdd) ht hi hv hvs hpos hs fun v E1 hI' => ?_
   have:= hK v E1 _ hk (by rw [hdd]; exact hI')
   rw [hdd] at this
   exact this
  ·cases hs
 ·exact wp_awOp hI hR hd (awOp_adj (fun b e y z l c hres => hm ⟨b,e,y,z,l,c,hres⟩) h) hK
theorem wpOp_awD (hI : Inv R N env a E) (hR : R.Start) {ops : Array Oper} {i : Nat} {o : Oper} (ho : ops[i]? = some o) (hd : ∀ (j : Nat) (o : Oper) (k : Nat),ops[j]? = some o → o.dst = some k → k < N)
  {KE : Env → Prop} (h : match (resOperD P ops o).guard with
   | none => awOp P (resOperD P ops o) env KE
   | some (s,want) => ∃ t,env.s s = .lit t ∧ (t = .bool want → awOp P (resOperD P ops o) env KE) ∧ (t ≠ .bool want → KE (env.putO o.dst (.lit undef))))
  {K : Act → World → Prop} {Q : Exit → Act → World → Prop} (hK : ∀ v E' env',KE env' → Inv R N env' (a.put o.dst v) E' → K (a.put o.dst v) E'.w) : wpOp P ops Q i K a E.w:= by
 unfold wpOp
 simp only [ho]
 have hd' : ∀ k,o.dst = some k → k < N:= fun k hk => hd i o k ho hk
 unfold resOperD resOper at h
 cases hg : o.guard with
 | none =>
  simp only [hg,resGuard] at h
  rw [if_pos (wanted_none hg)]
  exact .inl (wp_awOpD hI hR hd' h hK)
 | some p =>
  obtain ⟨j,w⟩:= p
  simp only [hg,resGuard] at h
  cases hs : (ops[j]?).bind (·.dst) with
  | none =>
   simp only [hs] at h
   simp [adj,awOp,step,aval] at h
  | some s =>
   simp only [hs] at h
   obtain ⟨t,ht,h1,h2⟩:= h
   obtain ⟨oj,hoj,hdj⟩:= Option.bind_eq_some_iff.1 hs
   have hy:= yielded_slot hI hs ht (hd j oj s hoj hdj)
   by_cases htw : t = .bool w
   ·subst htw
    rw [if_pos (by simp [Region.wanted,hg,hy])]
    exact .inl (wp_awOpD hI hR hd' (h1 rfl) hK)
   ·rw [if_neg (by
     simp only [Region.wanted,hg,hy]
     cases t with
     | bool b => simpa using htw
     | _ => simp)]
    exact hK undef E _ (h2 htw) (hI.putO hd' (by simp only [Rep]))
theorem wpOps_aw (hR : R.Start) {ops : Array Oper} (hd : ∀ (j : Nat) (o : Oper) (k : Nat),ops[j]? = some o → o.dst = some k → k < N) {KE : Env → Prop} {Q : Exit → Act → World → Prop}
  (hQ : ∀ a' E' env',KE env' → Inv R N env' a' E' → Q .normal a' E'.w) :
  ∀ (l : List Nat) (env : Env) (a : Act) (E : RE),Inv R N env a E → (∀ i ∈ l,i < ops.size) → awOps P (l.filterMap fun i => (ops[i]?).map (resOperT P ops)) env KE → wpOps P ops Q l a E.w
 | [],env,a,E,hI,_,h => by
  simp only [List.filterMap_nil,awOps] at h
  exact hQ a E env h hI
 | i :: l,env,a,E,hI,hl,h => by
  have hi : i < ops.size:= hl i (by simp)
  have ho : ops[i]? = some ops[i]:= Array.getElem?_eq_getElem hi
  rw [wpOps_cons]
  rw [List.filterMap_cons,ho] at h
  simp only [Option.map_some] at h
  refine wpOp_awT hI hR ho hd (KE:= fun env' => awOps P (l.filterMap fun i => (ops[i]?).map (resOperT P ops)) env' KE) ?_ fun v E' env' hk hI' => wpOps_aw hR hd hQ l env' _ E' hI' (fun j hj => hl j (by simp [hj])) hk
  have hdst : (resOperT P ops ops[i]).dst = ops[i].dst:= by
   show (resOper P ops ops[i]).dst = _
   unfold resOper; split <;> rfl
  simp only [awOps,hdst] at h
  split <;> rename_i hg <;> rw [hg] at h <;> exact h
theorem filterMap_range' {α β : Type} (f : α → β) : ∀ (l pre : List α),(List.range' pre.length l.length).filterMap (fun i => ((pre ++ l)[i]?).map f) = l.map f
 | [],pre => by simp
 | x :: l,pre => by
  have ih:= filterMap_range' f l (pre ++ [x])
  simp only [List.length_cons,List.range'_succ,List.filterMap_cons]
  simp only [List.length_append,List.length_cons,List.length_nil,Nat.zero_add,List.append_assoc,List.cons_append,List.nil_append] at ih
  simp [ih]
theorem filterMap_range {α β : Type} (xs : Array α) (f : α → β) : (List.range xs.size).filterMap (fun i => (xs[i]?).map f) = xs.toList.map f:= by
 have h:= filterMap_range' f xs.toList []
 simp only [List.length_nil,List.nil_append,Array.length_toList] at h
 rw [List.range_eq_range']
 simpa using h
theorem wp_region_aw (hI : Inv R N env a E) (hR : R.Start) {id : Nat} {ops : Array Oper} (hd : ∀ (j : Nat) (o : Oper) (k : Nat),ops[j]? = some o → o.dst = some k → k < N) {KE : Env → Prop} {Q : Exit → Act → World → Prop}
  (h : awOps P (ops.toList.map (resOperT P ops)) env KE) (hQ : ∀ a' E' env',KE env' → Inv R N env' a' E' → Q .normal a' E'.w) : (Code.region id ops false).wp P Q a E.w:= by
 refine wp_region (wpOps_aw hR hd hQ _ env a E hI (fun i hi => List.mem_range.1 hi) ?_)
 rw [filterMap_range]
 exact h
end
end Go.Proofs.YtnndbbmidoidpaaGreatDoor.VL
end

