import Derived.Laws.MakeOwn
import Derived.Test.YtelbgkknneljeaaGreatDoorGe0
set_option linter.unusedVariables false
set_option linter.unusedSimpArgs false
section
namespace Go.Proofs.YtelbgkknneljeaaGreatDoor.VL
open Go.RowKit
section
variable {P : Program} {R : RE} {N : Nat} {env : Env} {a : Act} {E : RE}
theorem setRow_size (w:World)(g:Nat)(cs:Array Value):(w.setRow g cs).heap.size=w.heap.size:=by simp[World.setRow]
theorem belowX_setRow {M:Nat→Prop} {w0 w:World} (h:BelowX M w0 w) {g:Nat} (hg:w0.heap.size≤g∨M g)(cs:Array Value):BelowX M w0 (w.setRow g cs):=
 ⟨h.os,h.tape,h.output,by rw[setRow_size];exact h.size,fun k hk hm=>by
  have hne:k≠g:=by
   rintro rfl
   rcases hg with hg|hg
   ·omega
   ·exact hm hg
  rw[setRow_other w g k cs hne];exact h.block k hk hm⟩
theorem Inv.setLoc (h:Inv R N env a E) {d b:Nat} (hb:E.loc d=some b) {vals:Array Value} {ty:TypeId} (hh:E.w.heap[b]?=some (.cells vals ty (0,0))) {cs:List AV} {cur:Array Value}
  (hr:RepL E cs cur.toList)(ho:∀ u∈cur.toList,u.oneCell'=true) :
  Inv R N (env.putc d cs) a { E with w:=E.w.setRow b cur }∧Ext E { E with w:=E.w.setRow b cur }:=by
 obtain ⟨hB,hS,hown,_⟩:=h.locc d b hb
 have hx:Ext E { E with w:=E.w.setRow b cur }:=by
  refine ⟨fun _ _ h=>h,fun _ h=>h,fun b' o u hs hc=>?_,fun b' es ck hs hc=>?_,fun c b hc=>hc,fun g τ hg=>⟨hg,?_,fun _ h=>h⟩,rfl,fun c b' hc=>⟨hc,?_⟩⟩
  ·have hne:b'≠b:=by
    rintro rfl
    rcases hs with hs|hs
    ·exact hS o hs
    ·obtain ⟨h1,h2⟩:=h.Bok b' hs
     rcases hB with hB|hB
     ·omega
     ·exact h2 ⟨d,hB⟩
   have he:(E.w.setRow b cur).heap[b']?=E.w.heap[b']?:=setRow_other E.w b b' cur hne
   simp only[World.cell?,he] at hc ⊢
   exact hc
  ·have hne:b'≠b:=by
    rintro rfl
    exact hS 0 hs
   exact (setRow_other E.w b b' cur hne).trans hc
  ·have hne:g≠b:=by
    rintro rfl
    exact hown τ hg
   exact setRow_other E.w b g cur hne
  ·have hne:b'≠b:=by
    rintro rfl
    exact (h.mlocc c b' hc).2.2.2.2 d hb
   exact setRow_other E.w b b' cur hne
 refine ⟨⟨h.defers,h.Nlim,h.lentl,h.size,h.B,h.Bok,belowX_setRow h.below (hB.imp id fun e=>⟨d,e⟩) cur,h.Mlt,h.MS,h.par,h.G,h.S0,fun b o hs=>?_,fun g τ hg=>?_,h.own1,fun c b' hc=>?_,fun c cs' hc=>?_,h.loc1,fun c b' hc=>?_,h.mloc1,fun k=>(h.slots k).mono hx⟩,hx⟩
 ·rw[setRow_size];exact h.Slt b o hs
 ·rw[setRow_size];exact h.ownlt g τ hg
 ·by_cases hcd:c=d
  ·subst hcd
   rw[hb] at hc
   injection hc with hc
   subst hc
   exact ⟨hB,hS,hown,cs,cur,ty,by simp[Env.putc,upd],setRow_heap E.w b vals cur ty (0,0) hh,hr.mono hx,ho⟩
  ·obtain ⟨h1,h2,h3,cs',vals',ty',hcs,hh',hr',ho'⟩:=h.locc c b' hc
   have hne:b'≠b:=by
    rintro rfl
    exact hcd (h.loc1 c d b' hc hb)
   exact ⟨h1,h2,h3,cs',vals',ty',by simp[Env.putc,upd,hcd,hcs],(setRow_other E.w b b' cur hne).trans hh',hr'.mono hx,ho'⟩
 ·simp only[Env.putc,upd] at hc
  split at hc
  ·rename_i hcd;rw[hcd];exact ⟨b,hb⟩
  ·exact h.locd c cs' hc
 ·obtain ⟨h1,h2,h3⟩:=h.mlocc c b' hc
  exact ⟨h1,by rw[setRow_size];exact h2,h3⟩
theorem run_storeVar {t:TypeId} {i:TypeInfo} (hi:P.info? t=some i) {w:World} {b o:Nat} {ty:TypeId} {cur:Array Value} (hh:w.heap[b]?=some (.cells cur ty (0,0))) {v:Value} (hv:v.cells.size=i.size)
  (hl:o+i.size≤cur.size) (h1:∀ u∈v.cells.toList,u.oneCell'=true) :
  (storeVar t ⟨b,o,none⟩ v).run P w=.ok () (w.setRow b (cur.toList.take o++v.cells.toList++cur.toList.drop (o+i.size)).toArray):=by
 have:=run_storeCells_at P b o ty v.cells.toList 0 cur w hh (by simp;omega) h1
 simp only [Nat.add_zero,Array.length_toList,hv] at this
 unfold storeVar
 simp only [Sem.run_bind,run_sizeOf hi,Result.andThen_ok,hv,ne_eq,not_true,if_false]
 simp [Sem.run_bind,Sem.run,this]
def oneL (cs:List AV):Bool:=cs.all AV.one
theorem oneL_spec {cs:List AV} (h:oneL cs=true):∀ x∈cs,x.one=true:=fun x hx=>by
 simp only[oneL,List.all_eq_true] at h
 exact h x hx
def stepStore (size:Nat)(p x:AV)(env:Env):Option Env:=
 match p with
 | .lp c o=>match env.c c with
  | some cs=>if x.row=true then if oneL (cellsOf x)=true then if (cellsOf x).length=size then if o+size≤cs.length then some (env.putc c (cs.take o++cellsOf x++cs.drop (o+size))) else none else none else none else none
  | none=>none
 | _=>none
theorem wp_store (hI:Inv R N env a E) {o:Oper} {t:TypeId} {i:TypeInfo} {y z:Operand} (ho:o.op=.store t y z) (hi:P.info? t=some i) {env':Env} (h:stepStore i.size (env.ev y) (env.ev z) env=some env')
  {K:Act→World→Prop} {Q:Exit→Act→World→Prop} (hK:∀ E',Inv R N env' a E'→K (a.put o.dst undef) E'.w):o.wp P a E.w K Q:=by
 unfold stepStore at h
 split at h
 ·rename_i c off hc
  split at h
  ·rename_i cs hcs
   split at h
   case isFalse=>cases h
   rename_i hrow
   split at h
   case isFalse=>cases h
   rename_i hone
   split at h
   case isFalse=>cases h
   rename_i hlen
   split at h
   case isFalse=>cases h
   rename_i hle
   injection h with h
   subst h
   have hy:=hI.ev y
   have hz:=hI.ev z
   rw [hc] at hy
   simp only [Rep] at hy
   obtain ⟨b,hb,he⟩:=hy
   obtain ⟨h1,h2,h3,cs',vals,ty,hcs',hh,hr,ho'⟩:=hI.locc c b hb
   rw [hcs] at hcs'
   injection hcs' with hcs'
   subst hcs'
   have hzc:=rep_cells hz (row_or hrow)
   have hzl:=hzc.length
   rw [Array.length_toList] at hzl
   have hz1:=repL_one hzc (oneL_spec hone)
   have hrl:=hr.length
   rw [Array.length_toList] at hrl
   have hrun:=run_storeVar (P:=P) hi hh (o:=off) (v:=a.eval z) (by omega) (by omega) hz1
   have hnew:RepL E (cs.take off++cellsOf (env.ev z)++cs.drop (off+i.size)) (vals.toList.take off++(a.eval z).cells.toList++vals.toList.drop (off+i.size)):=
    ((hr.take off).append hzc).append (hr.drop _)
   have hall:∀ u∈(vals.toList.take off++(a.eval z).cells.toList++vals.toList.drop (off+i.size)),u.oneCell'=true:=by
    intro u hu
    rcases List.mem_append.1 hu with hu | hu
    ·rcases List.mem_append.1 hu with hu | hu
     ·exact ho' u (List.mem_of_mem_take hu)
     ·exact hz1 u hu
    ·exact ho' u (List.mem_of_mem_drop hu)
   obtain ⟨hI',_⟩:=hI.setLoc hb hh (cs:=cs.take off++cellsOf (env.ev z)++cs.drop (off+i.size)) (cur:=(vals.toList.take off++(a.eval z).cells.toList++vals.toList.drop (off+i.size)).toArray) (by simpa using hnew) (by simpa using hall)
   unfold Oper.wp
   have hex:(execOp a.eval o).run P E.w=.ok .skip (E.w.setRow b (vals.toList.take off++(a.eval z).cells.toList++vals.toList.drop (off+i.size)).toArray):=by
    simp [execOp,ho,he,Instr.storeAt,Instr.sureAddr,Sem.run_bind,hrun,Sem.run]
   rw [hex,Oper.upon_skip]
   exact hK _ hI'
  ·cases h
 ·cases h
theorem run_app_room {t ty e ty':TypeId} {i:TypeInfo} (ht:P.underlying t=some (.slice e)) (hi:P.info? e=some i) {w:World}
  {g n cap m c:Nat} {B:Option Addr} {cur:Array Value} (hg:w.heap[g]?=some (.cells cur ty' (0,0))) {news:List Value}
  (hf:(Builtin.firstCells i.size m (.slice B m c)).run P w=.ok news.toArray w) (hl:news.length=m * i.size) (h1:∀ u∈news,u.oneCell'=true) (hroom:n+m≤cap) (hfit:n * i.size+news.length≤cur.size) :
  (Builtin.append_ #[t,t] ty #[.slice (some ⟨g,0,none⟩) n cap,.slice B m c]).run P w =
   .ok (.slice (some ⟨g,0,none⟩) (n+m) cap) (w.setRow g (cur.toList.take (n * i.size)++news++cur.toList.drop (n * i.size+news.length)).toArray):=by
 have hst:=run_storeCells_at P g (n * i.size) ty' news 0 cur w hg (by simpa using hfit) h1
 simp only [Nat.add_zero] at hst
 simp [Builtin.append_,run_underlying ht,sizeOf,typeInfo,hi,Builtin.lenOf,hroom,hf,Addr.add_lit,hst]
theorem run_app_none {t ty e:TypeId} {i:TypeInfo} (ht:P.underlying t=some (.slice e))(hi:P.info? e=some i) {w:World} {c:Nat} {B:Option Addr} :
  (Builtin.append_ #[t,t] ty #[.slice none 0 0,.slice B 0 c]).run P w=.ok (.slice none 0 0) w:=by
 cases B<;>simp[Builtin.append_,run_underlying ht,sizeOf,typeInfo,hi,Builtin.lenOf,Builtin.firstCells,loadCells,loadCellsFrom]
theorem run_app_grow {t ty e:TypeId} {i:TypeInfo} {z:Value} (ht:P.underlying t=some (.slice e)) (hi:P.info? e=some i) (hz:i.zero=some z) {w:World}
  {n cap m c:Nat} {A B:Option Addr} {olds news:List Value}
  (hfo:(Builtin.firstCells i.size n (.slice A n cap)).run P w.drew=.ok olds.toArray w.drew)
  (hf:(Builtin.firstCells i.size m (.slice B m c)).run P w.drew=.ok news.toArray w.drew) (hg:cap<n+m) (h63:n+m≤9223372036854775807)
  (hfit:Builtin.nextslicecap (n+m) cap * i.bytes≤281474976710656) :
  (Builtin.append_ #[t,t] ty #[.slice A n cap,.slice B m c]).run P w =
   .ok (.slice (some ⟨w.heap.size,0,none⟩) (n+m) (grownCap w (n+m) cap e)) (w.drew.alloc (.cells (olds++news++(Builtin.zeroCells z.cells (grownCap w (n+m) cap e - (n+m))).toList).toArray e)):=by
 have hn:¬ (n+m≤cap):=by omega
 have h63':¬ (9223372036854775807<((n:Int)+(m:Int))):=by omega
 have h48':¬ (281474976710656<Builtin.nextslicecap (n+m) cap * i.bytes):=by omega
 simp [Builtin.append_,run_underlying ht,sizeOf,typeInfo,zeroValue,hi,hz,Builtin.lenOf,hn,h63',h48',Question.forced,hf,hfo,newRow,grownCap]
 congr 2
 apply Array.ext'
 simp [List.append_assoc]
theorem run_first {E:RE} {tk:Tok} {e:Nat} {rows:List AV} {v:Value} (hgn:goneB tk=false) (h:Rep E (.sl tk e rows) v) :
  ∃ A cap vs,v=.slice A rows.length cap∧RepL E.closed rows vs∧(∀ u∈vs,u.cells.size=e)∧(∀ u∈flat vs,u.oneCell'=true) ∧
   (Builtin.firstCells e rows.length v).run P E.w=.ok (flat vs).toArray E.w∧(Builtin.firstCells e rows.length v).run P E.w.drew=.ok (flat vs).toArray E.w.drew:=by
 simp only [Rep] at h
 obtain ⟨A,cap,vs,rfl,hcap,hr,he,h1,ht⟩:=h
 have hl:=hr.length
 have hfl:=flat_length he
 refine ⟨A,cap,vs,rfl,hr,he,h1,?_⟩
 by_cases hne:rows=[]
 ·subst hne
  simp at hl
  subst hl
  cases A<;>simp [Builtin.firstCells,flat,loadCells,loadCellsFrom,Sem.run]
 ·have hat:∃ S b o,A=some ⟨b,o,none⟩∧At E.w S (flat vs) b o:=by
   cases tk with
   | none=>obtain ⟨b,o,ha,hat⟩:=ht hne;exact ⟨_,b,o,ha,hat⟩
   | bor=>obtain ⟨b,o,ha,hat⟩:=ht hne;exact ⟨_,b,o,ha,hat⟩
   | nil=>exact absurd (List.eq_nil_of_length_eq_zero (by omega)) hne
   | own τ=>
    rcases ht with ⟨_,h0⟩ | ⟨g,cur,ty,ha,hat,_⟩
    ·exact absurd (List.eq_nil_of_length_eq_zero (by omega)) hne
    ·exact ⟨_,g,0,ha,hat⟩
   | fr τ=>
    rcases ht with ⟨h0,_⟩ | ⟨g,cur,ty,ha,hat,_⟩
    ·exact absurd h0 hne
    ·exact ⟨_,g,0,ha,hat⟩
   | gone=>cases hgn
  obtain ⟨S,b,o,rfl,hat⟩:=hat
  have hlen:(flat vs).length=rows.length * e:=by rw [hfl,hl]
  constructor
  ·exact run_firstCells_some E.w e rows.length ⟨b,o,none⟩ rows.length cap (flat vs) hlen fun j v hj=>by rw [Addr.add_lit];exact (hat j v hj).2
  ·exact run_firstCells_some E.w.drew e rows.length ⟨b,o,none⟩ rows.length cap (flat vs) hlen fun j v hj=>by rw [Addr.add_lit];exact (hat j v hj).2
def stepApp (esz bytes:Nat) (d:Nat) (s y:AV) (env:Env):Option Env:=
 match y with
 | .sl tk' e' rows'=>
  if goneB tk'=false∧(e'=esz∨rows'=[]) then
  match s with
  | .sl (.fr τ) e rows=>if e=esz then if rows.length+rows'.length≤4294967296∧bytes≤32768 then some ((env.strip τ).put d (.sl (.fr [d]) esz (rows++rows'))) else none else none
  | .sl .nil _ _=>if rows'.length≤4294967296∧bytes≤32768 then some (env.put d (.sl (.own [d]) esz rows')) else none
  | .sl (.own τ) e rows=>if e=esz then if rows.length+rows'.length≤4294967296∧bytes≤32768 then some ((env.strip τ).put d (.sl (.own [d]) esz (rows++rows'))) else none else none
  | _=>none
  else none
 | _=>none
end
end Go.Proofs.YtelbgkknneljeaaGreatDoor.VL
end

section
namespace Go.Proofs.YtelbgkknneljeaaGreatDoor.VL
open Go.RowKit
section
variable {P : Program} {R : RE} {N : Nat} {env : Env} {a : Act} {E : RE}
theorem Ext.drew (E:RE):Ext E { E with w:=E.w.drew }:=
 ⟨fun _ _ h=>h,fun _ h=>h,fun _ _ _ _ h=>h,fun _ _ _ _ h=>h,fun _ _ h=>h,fun _ _ h=>⟨h,rfl,fun _ h=>h⟩,rfl,fun _ _ h=>⟨h,rfl⟩⟩
theorem Inv.drew (h:Inv R N env a E):Inv R N env a { E with w:=E.w.drew }:=by
 have hx:=Ext.drew E
 refine ⟨h.defers,h.Nlim,h.lentl,h.size,h.B,h.Bok,h.below.drew,h.Mlt,h.MS,h.par,h.G,h.S0,h.Slt,h.ownlt,h.own1,fun c b hb=>?_,h.locd,h.loc1,h.mlocc,h.mloc1,fun k=>(h.slots k).mono hx⟩
 obtain ⟨h1,h2,h3,cs,vals,ty,hcs,hh,hr,ho⟩:=h.locc c b hb
 exact ⟨h1,h2,h3,cs,vals,ty,hcs,hh,hr.mono hx,ho⟩
theorem Inv.grow (h:Inv R N env a E) {τ τ':List Nat} {g cap e:Nat} {cur:Array Value} {ty:TypeId} {rows rows':List AV} {vs vs':List Value}
  (hh:E.w.heap[g]?=some (.cells cur ty (0,0))) (hown:E.own g τ) (hS:∀ o,E.S g o→o<rows.length * e) (hat:At E.w E.S (flat vs) g 0)
  (hr:RepL E.closed rows vs) (hr':RepL E.closed rows' vs') (he:∀ u∈vs,u.cells.size=e) (he':∀ u∈vs',u.cells.size=e) (ho:∀ u∈flat vs,u.oneCell'=true) (ho':∀ u∈flat vs',u.oneCell'=true)
  (hcap:rows.length+rows'.length≤cap) (hm:cap≤maxLen) (hc:cur.size=cap * e) :
  ∃ E',E'.w=E.w.setRow g (cur.toList.take (rows.length * e)++flat vs'++cur.toList.drop (rows.length * e+(flat vs').length)).toArray∧Inv R N (env.strip τ) a E' ∧
   Rep E' (.sl (.own τ') e (rows++rows')) (.slice (some ⟨g,0,none⟩) (rows.length+rows'.length) cap):=by
 have hvl:=hr.length
 have hvl':=hr'.length
 have hfl:=flat_length he
 have hfl':=flat_length he'
 have hI:=h.unownT τ
 have hglt:=(h.ownlt g τ hown).2
 have hgB:=(h.ownlt g τ hown).1
 have hnl:∀ c,E.loc c≠some g:=fun c hc=>(h.locc c g hc).2.2.1 τ hown
 have hno:∀ t,¬ (E.unown τ).own g t:=fun t ht=>ht.2 (h.own1 g t τ ht.1 hown)
 have hle:rows.length * e+rows'.length * e≤cap * e:=by rw [← Nat.add_mul];exact Nat.mul_le_mul_right _ hcap
 have htake:(cur.toList.take (rows.length * e))=flat vs:=by
  apply List.ext_getElem?
  intro j
  rw [List.getElem?_take]
  split
  ·rename_i hj
   have hjl:j<(flat vs).length:=by rw [hfl,hvl];exact hj
   have h1:=(hat j _ (List.getElem?_eq_getElem hjl)).2
   simp only [World.cell?,hh,Nat.zero_add] at h1
   rw [List.getElem?_eq_getElem hjl]
   simpa using h1
  ·rename_i hj
   rw [List.getElem?_eq_none (by rw [hfl,hvl];omega)]
 let new:Array Value:=(cur.toList.take (rows.length * e)++flat vs'++cur.toList.drop (rows.length * e+(flat vs').length)).toArray
 have hnewsz:new.size=cap * e:=by
  simp only [new,List.size_toArray,List.length_append,List.length_take,List.length_drop,Array.length_toList,hc,hfl',hvl']
  omega
 have hnew:∀ (j:Nat) (u:Value),(flat (vs++vs'))[j]?=some u→new[j]?=some u:=by
  intro j u hj
  have e1:flat (vs++vs')=flat vs++flat vs':=by simp [flat]
  rw [e1] at hj
  have hjl:=(List.getElem?_eq_some_iff.1 hj).1
  simp only [new,List.getElem?_toArray]
  rw [htake,List.getElem?_append_left hjl]
  exact hj
 let E':RE:={ E.unown τ with w:=E.w.setRow g new,S:=fun b o=>E.S b o∨(b=g∧o<(rows.length+rows'.length) * e),own:=fun b t=>(E.unown τ).own b t∨(b=g∧t=τ') }
 have hother:∀ b,b≠g→(E.w.setRow g new).heap[b]?=E.w.heap[b]?:=fun b hb=>setRow_other E.w g b new hb
 have hself:(E.w.setRow g new).heap[g]?=some (.cells new ty (0,0)):=setRow_heap E.w g cur new ty (0,0) hh
 have hx:Ext (E.unown τ) E':=by
  refine ⟨fun _ _ h=>.inl h,fun _ h=>h,fun b o u hs hcell=>?_,fun b es ck hs hmap=>?_,fun c b hc=>hc,fun b t ht=>⟨.inl ht,?_,fun o hs=>?_⟩,rfl,fun c b hc=>⟨hc,hother b fun e=>(h.mlocc c b hc).2.2.2.1 τ (e ▸ hown)⟩⟩
  ·by_cases hb:b=g
   ·subst hb
    have ho1:o<rows.length * e:=by
     rcases hs with hs | hs
     ·exact hS o hs
     ·have:=(h.Bok b hs).1;omega
    have hol:o<(flat vs).length:=by rw [hfl,hvl];exact ho1
    have h1:=(hat o _ (List.getElem?_eq_getElem hol)).2
    rw [Nat.zero_add] at h1
    have h2:E.w.cell? ⟨b,o,none⟩=some u:=hcell
    rw [h1] at h2
    injection h2 with h2
    show (E.w.setRow b new).cell? ⟨b,o,none⟩=some u
    simp only [World.cell?,hself]
    have h3:=hnew o u (by rw [show flat (vs++vs')=flat vs++flat vs' by simp [flat],List.getElem?_append_left hol,List.getElem?_eq_getElem hol,h2])
    simpa using h3
   ·show (E.w.setRow g new).cell? ⟨b,o,none⟩=some u
    simp only [World.cell?,hother b hb]
    exact hcell
  ·by_cases hb:b=g
   ·subst hb
    have:E.w.heap[b]?=some (.map es ck):=hmap
    rw [hh] at this
    cases this
   ·exact (hother b hb).trans hmap
  ·have hb:b≠g:=fun e=>hno t (e ▸ ht)
   exact hother b hb
  ·rcases hs with hs | ⟨hb,_⟩
   ·exact hs
   ·exact absurd ht (hb ▸ hno t)
 refine ⟨E',rfl,⟨hI.defers,hI.Nlim,hI.lentl,hI.size,hI.B,hI.Bok,belowX_setRow hI.below (.inl hgB) new,hI.Mlt,fun k hk o hs=>?_,hI.par,hI.G,fun b o hb=>?_,fun b o hb=>?_,fun b t ht=>?_,fun b t t' h1 h2=>?_,fun c b hb=>?_,hI.locd,hI.loc1,fun c b hc=>?_,hI.mloc1,fun k=>(hI.slots k).mono hx⟩,?_⟩
 ·rcases hs with hs | ⟨hs,_⟩
  ·exact h.MS k hk o hs
  ·have:=h.Mlt k hk;omega
 ·rw [← h.S0 b o hb]
  constructor
  ·rintro (hs | ⟨hs,_⟩)
   ·exact hs
   ·omega
  ·exact .inl
 ·show b<(E.w.setRow g new).heap.size
  rw [setRow_size]
  rcases hb with hb | ⟨hb,_⟩
  ·exact h.Slt b o hb
  ·omega
 ·show _∧b<(E.w.setRow g new).heap.size
  rw [setRow_size]
  rcases ht with ht | ⟨ht,_⟩
  ·exact hI.ownlt b t ht
  ·subst ht;exact ⟨hgB,hglt⟩
 ·rcases h1 with h1 | ⟨h1,rfl⟩<;>rcases h2 with h2 | ⟨h2,rfl⟩
  ·exact hI.own1 b t t' h1 h2
  ·exact absurd h1 (h2 ▸ hno t)
  ·exact absurd h2 (h1 ▸ hno t')
  ·rfl
 ·obtain ⟨h1,h2,h3,cs',vals',ty',hcs,hh',hrr,ho1⟩:=hI.locc c b hb
  have hbg:b≠g:=fun e=>hnl c (e ▸ hb)
  refine ⟨h1,fun o hs=>?_,fun t ht=>?_,cs',vals',ty',hcs,(hother b hbg).trans hh',hrr.mono hx,ho1⟩
  ·rcases hs with hs | ⟨hs,_⟩
   ·exact h2 o hs
   ·exact hbg hs
  ·rcases ht with ht | ⟨ht,_⟩
   ·exact h3 t ht
   ·exact hbg ht
 ·obtain ⟨h1,h2,h3,h4,h5⟩:=h.mlocc c b hc
  have hbg:b≠g:=fun e=>h4 τ (e ▸ hown)
  refine ⟨h1,by show b<(E.w.setRow g new).heap.size;rw [setRow_size];exact h2,fun o hs=>?_,fun t ht=>?_,h5⟩
  ·rcases hs with hs | ⟨hs,_⟩
   ·exact h3 o hs
   ·exact hbg hs
  ·rcases ht with ht | ⟨ht,_⟩
   ·exact h4 t ht.1
   ·exact hbg ht
 ·simp only [Rep]
  have hcl:Ext E.closed E'.closed:=by
   have:=hx.closed
   rwa [RE.unown_closed] at this
  refine ⟨_,cap,vs++vs',by rw [List.length_append],by rw [List.length_append];exact hcap,(hr.mono hcl).append (hr'.mono hcl),?_,?_,.inr ⟨g,new,ty,rfl,?_,hself,hm,hnewsz,.inr ⟨rfl,rfl⟩,fun o hs=>?_⟩⟩
  ·intro u hu
   rcases List.mem_append.1 hu with hu | hu
   ·exact he u hu
   ·exact he' u hu
  ·intro u hu
   rw [show flat (vs++vs')=flat vs++flat vs' by simp [flat]] at hu
   rcases List.mem_append.1 hu with hu | hu
   ·exact ho u hu
   ·exact ho' u hu
  ·intro j u hj
   have hjl:=(List.getElem?_eq_some_iff.1 hj).1
   rw [show flat (vs++vs')=flat vs++flat vs' by simp [flat],List.length_append,hfl,hfl',hvl,hvl',← Nat.add_mul] at hjl
   refine ⟨.inr ⟨rfl,by omega⟩,?_⟩
   show (E.w.setRow g new).cell? _=some u
   simp only [World.cell?,hself,Nat.zero_add]
   simpa using hnew j u hj
  ·rw [List.length_append]
   rcases hs with hs | ⟨_,hs⟩
   ·have:=hS o hs
    have h2:rows.length * e≤(rows.length+rows'.length) * e:=Nat.mul_le_mul_right _ (by omega)
    omega
   ·exact hs
theorem size_zeroCells' {z:Value} {s n:Nat} (hz:z.cells.size=s):(Builtin.zeroCells z.cells n).toList.length=n*s:=by
 rw[Array.length_toList,size_zeroCells,hz]
theorem run_app_zero {t ty e:TypeId} {i:TypeInfo} (ht:P.underlying t=some (.slice e))(hi:P.info? e=some i) {w:World} {c:Nat} {A B:Option Addr} :
  (Builtin.append_ #[t,t] ty #[.slice A 0 0,.slice B 0 c]).run P w=.ok (.slice A 0 0) w:=by
 cases A<;>cases B<;>simp[Builtin.append_,run_underlying ht,sizeOf,typeInfo,hi,Builtin.lenOf,Builtin.firstCells,loadCells,loadCellsFrom,storeCells,Sem.run]
theorem zeroCells_one {z:Array Value} (h1:∀ u ∈ z.toList,u.oneCell' = true) (hpos:0 < z.size) (n:Nat):∀ u ∈ (Builtin.zeroCells z n).toList,u.oneCell' = true:=by
 intro u hu
 simp only [Builtin.zeroCells,Array.toList_map,List.mem_map] at hu
 obtain ⟨i,_,rfl⟩:=hu
 have hlt:i % z.size < z.size:=Nat.mod_lt _ hpos
 have:z[i % z.size]! = z[i % z.size]:=by simp [hlt]
 rw [this]
 exact h1 _ (by simp)
theorem wp_app (hI:Inv R N env a E) {o:Oper} {c:Call} {t e:TypeId} {i:TypeInfo} {z:Value} {x y:Operand} {d:Nat} (ho:o.op=.call c) (hd:o.dst=some d) (hdN:d<N) (hc:c.callee=.builtin .append)
  (hat:c.argTypes.toList=[t,t]) (har:c.args.toList=[x,y]) (ht:P.underlying t=some (.slice e)) (hi:P.info? e=some i) (hz:i.zero=some z) (hzs:z.cells.size=i.size) (hsz:0<i.size) (hz1:(z.cells.toList.all fun u=>u.oneCell')=true)
  {env':Env} (h:stepApp i.size i.bytes d (env.ev x) (env.ev y) env=some env')
  {K:Act→World→Prop} {Q:Exit→Act→World→Prop} (hK:∀ v E',Inv R N env' (a.put (some d) v) E'→K (a.put (some d) v) E'.w):o.wp P a E.w K Q:=by
 have hargs:c.args=#[x,y]:=by rw [← Array.toArray_toList (xs:=c.args),har]
 have hats:c.argTypes=#[t,t]:=by rw [← Array.toArray_toList (xs:=c.argTypes),hat]
 have hx:=hI.ev x
 have hy:=hI.ev y
 have wpof:∀ {v:Value} {w':World},(Builtin.append_ #[t,t] o.type #[a.eval x,a.eval y]).run P E.w=.ok v w'→K (a.put (some d) v) w'→o.wp P a E.w K Q:=by
  intro v w' hr hk
  unfold Oper.wp
  have hex:(execOp a.eval o).run P E.w=.ok (.value v) w':=by
   simp [execOp,ho,hc,hargs,hats,resolve,invoke,builtin,Sem.run_bind,hr,Sem.run]
  rw [hex,Oper.upon_value,hd]
  exact hk
 have hz1':∀ u∈z.cells.toList,u.oneCell'=true:=fun u hu=>(List.all_eq_true.1 hz1) u hu
 unfold stepApp at h
 split at h
 case h_2=>cases h
 rename_i tk' e' rows' hyv
 rw [hyv] at hy
 split at h
 case isFalse=>cases h
 rename_i hee
 obtain ⟨hgn,hee⟩:=hee
 have hy':∃ B cap' vs',a.eval y=.slice B rows'.length cap'∧RepL E.closed rows' vs'∧(∀ u∈vs',u.cells.size=i.size)∧(∀ u∈flat vs',u.oneCell'=true) ∧
   (Builtin.firstCells i.size rows'.length (a.eval y)).run P E.w=.ok (flat vs').toArray E.w∧(Builtin.firstCells i.size rows'.length (a.eval y)).run P E.w.drew=.ok (flat vs').toArray E.w.drew:=by
  rcases hee with rfl | hnil
  ·exact run_first hgn hy
  ·obtain ⟨B,cap',vs',e1,h1,h2,h3,h4,h5⟩:=run_first (P:=P) hgn hy
   subst hnil
   have hl:=h1.length
   simp at hl
   subst hl
   refine ⟨B,cap',[],e1,h1,by simp,by simp [flat],?_,?_⟩
   ·rw [e1];cases B<;>simp [Builtin.firstCells,flat,loadCells,loadCellsFrom,Sem.run]
   ·rw [e1];cases B<;>simp [Builtin.firstCells,flat,loadCells,loadCellsFrom,Sem.run]
 obtain ⟨B,cap',vs',ey,hr',he',ho',hf1,hf2⟩:=hy'
 rw [ey] at hf1 hf2
 have hvl':=hr'.length
 have hfl':=flat_length he'
 split at h
 · -- onto what nobody else knows
  rename_i τ e1 rows hxv
  rw [hxv] at hx
  split at h
  case isFalse=>cases h
  rename_i he1
  subst he1
  split at h
  case isFalse=>cases h
  rename_i hb
  injection h with h
  subst h
  obtain ⟨A,cap,vs,ex,hr,he,ho1,hfo1,hfo2⟩:=run_first (P:=P) rfl hx
  have hvl:=hr.length
  have hfl:=flat_length he
  have hmul:(rows.length+rows'.length) * i.bytes≤140737488355328:=by
   have:=Nat.mul_le_mul hb.1 hb.2
   omega
  have hfa:flat (vs++vs')=flat vs++flat vs':=by simp [flat]
  simp only [Rep] at hx
  obtain ⟨A2,cap2,vs2,ex2,hcap,hr2,he2,ho2,htk⟩:=hx
  rw [ex] at ex2
  injection ex2 with q1 _ q2
  subst q1 q2
  by_cases hroom:rows.length+rows'.length≤cap
  ·rcases htk with ⟨hrn,hc0⟩ | ⟨g,cur,ty,hA,hat',hh,hm,hcs,hown,hgS,hone⟩
   ·subst hrn hc0
    have h2:rows'=[]:=by
     apply List.eq_nil_of_length_eq_zero
     have:(0:Nat)+rows'.length≤0:=hroom
     omega
    subst h2
    refine wpof (by rw [ex,ey];exact run_app_zero ht hi) (hK _ _ ((hI.unownT τ).put hdN ?_))
    simp only [Rep]
    exact ⟨A,0,[],rfl,Nat.le_refl _,by simp [RepL],by simp,by simp [flat],.inl ⟨rfl,rfl⟩⟩
   ·subst hA
    have hvl2:=hr2.length
    have hfl2:=flat_length he2
    have hrun:=run_app_room (P:=P) (ty:=o.type) ht hi hh hf1 (n:=rows.length) (cap:=cap) (by rw [hfl',hvl']) ho' hroom (by rw [hfl',hvl',hcs,← Nat.add_mul];exact Nat.mul_le_mul_right _ hroom)
    obtain ⟨new,hnewdef⟩:∃ new,new=(cur.toList.take (rows.length * i.size)++flat vs'++cur.toList.drop (rows.length * i.size+(flat vs').length)).toArray:=⟨_,rfl⟩
    rw [← hnewdef] at hrun
    have hle:rows.length * i.size+rows'.length * i.size≤cap * i.size:=by rw [← Nat.add_mul];exact Nat.mul_le_mul_right _ hroom
    have htake:(cur.toList.take (rows.length * i.size))=flat vs2:=by
     apply List.ext_getElem?
     intro j
     rw [List.getElem?_take]
     split
     ·rename_i hj
      have hjl:j<(flat vs2).length:=by rw [hfl2,hvl2];exact hj
      have h1:=(hat' j _ (List.getElem?_eq_getElem hjl)).2
      simp only [World.cell?,hh,Nat.zero_add] at h1
      rw [List.getElem?_eq_getElem hjl]
      simpa using h1
     ·rename_i hj
      rw [List.getElem?_eq_none (by rw [hfl2,hvl2];omega)]
    have hnewsz:new.size=cap * i.size:=by
     simp only [hnewdef,List.size_toArray,List.length_append,List.length_take,List.length_drop,Array.length_toList,hcs,hfl',hvl']
     omega
    have hself:(E.w.setRow g new).heap[g]?=some (.cells new ty (0,0)):=setRow_heap E.w g cur new ty (0,0) hh
    obtain ⟨hI',hx'⟩:=hI.setLab [d] (w':=E.w.setRow g new) hown hgS (setRow_size _ _ _) rfl rfl rfl fun b hb=>setRow_other E.w g b new hb
    refine wpof (by rw [ex,ey];exact hrun) (hK _ _ (hI'.put hdN ?_))
    have hcl:=hx'.closed
    rw [RE.unown_closed] at hcl
    have hfa2:flat (vs2++vs')=flat vs2++flat vs':=by simp [flat]
    simp only [Rep]
    refine ⟨_,cap,vs2++vs',by rw [List.length_append],by rw [List.length_append];exact hroom,(hr2.mono hcl).append (hr'.mono hcl),fun u hu=>(List.mem_append.1 hu).elim (he2 u) (he' u),fun u hu=>?_,
     .inr ⟨g,new,ty,rfl,fun j u hj=>⟨trivial,?_⟩,hself,hm,hnewsz,.inr (by simp),hgS,fun u hu=>?_⟩⟩
    ·rw [hfa2] at hu
     exact (List.mem_append.1 hu).elim (ho2 u) (ho' u)
    ·show (E.w.setRow g new).cell? _=some u
     simp only [World.cell?,hself,Nat.zero_add]
     rw [hfa2] at hj
     have hjl:=(List.getElem?_eq_some_iff.1 hj).1
     rw [hnewdef]
     simp only [List.getElem?_toArray]
     rw [htake,List.getElem?_append_left hjl]
     exact hj
    ·rw [hnewdef] at hu
     rcases List.mem_append.1 hu with hu | hu
     ·rcases List.mem_append.1 hu with hu | hu
      ·exact hone u (List.mem_of_mem_take hu)
      ·exact ho' u hu
     ·exact hone u (List.mem_of_mem_drop hu)
  ·rw [ex] at hfo2
   have hrun:=run_app_grow (P:=P) (ty:=o.type) ht hi hz (w:=E.w) hfo2 hf2 (by omega) (by omega) (growslice_fits (by omega) hmul)
   have hcapge:=grownCap_ge E.w (rows.length+rows'.length) cap e
   have hcaple:=grownCap_le_maxLen E.w (rows.length+rows'.length) cap e (by simp only [maxLen];omega)
   have hU:=hI.drew.unownT τ
   obtain ⟨hI',hx'⟩:=hU.newLab [d] (.cells (flat vs++flat vs'++(Builtin.zeroCells z.cells (grownCap E.w (rows.length+rows'.length) cap e - (rows.length+rows'.length))).toList).toArray e)
   refine wpof (by rw [ex,ey];exact hrun) (hK _ _ (hI'.put hdN ?_))
   have hcl:=hx'.closed
   rw [RE.unown_closed] at hcl
   have hdr:=(Ext.drew E).closed
   simp only [Rep]
   refine ⟨_,grownCap E.w (rows.length+rows'.length) cap e,vs++vs',by rw [List.length_append],by rw [List.length_append];omega,((hr.mono hdr).mono hcl).append ((hr'.mono hdr).mono hcl),fun u hu=>(List.mem_append.1 hu).elim (he u) (he' u),fun u hu=>?_,
    .inr ⟨E.w.heap.size,_,e,rfl,fun j u hj=>⟨trivial,?_⟩,heap_alloc_new _ _,hcaple,?_,.inr ⟨rfl,by simp⟩,fun o hs=>?_,fun u hu=>?_⟩⟩
   ·rw [hfa] at hu
    exact (List.mem_append.1 hu).elim (ho1 u) (ho' u)
   ·rw [hfa] at hj
    have hjl:=(List.getElem?_eq_some_iff.1 hj).1
    show (World.alloc E.w.drew _).cell? ⟨E.w.drew.heap.size,0+j,none⟩=some u
    simp only [World.cell?]
    rw [heap_alloc_new E.w.drew]
    simp only [Nat.zero_add]
    rw [if_neg (by simp),List.getElem?_toArray]
    rw [List.getElem?_append_left hjl]
    exact hj
   ·simp only [List.size_toArray,List.length_append]
    rw [hfl,hfl',size_zeroCells' hzs,hvl,hvl',← Nat.add_mul,← Nat.add_mul]
    congr 1
    omega
   ·have:=hI.Slt _ o hs
    exact absurd this (Nat.lt_irrefl _)
   ·rcases List.mem_append.1 hu with hu | hu
    ·exact (List.mem_append.1 hu).elim (ho1 u) (ho' u)
    ·exact zeroCells_one hz1' (by omega) _ u hu
 · -- onto nil
  rename_i e1 r1 hxv
  rw [hxv] at hx
  simp only [Rep] at hx
  obtain ⟨A,cap,vs,ex,hcap,hr,he,ho1,hA,hcap0⟩:=hx
  subst hA hcap0
  split at h
  case isFalse=>cases h
  rename_i hb
  injection h with h
  subst h
  have hr1:r1=[]:=List.eq_nil_of_length_eq_zero (by omega)
  subst hr1
  by_cases hm0:rows'=[]
  ·subst hm0
   refine wpof (by rw [ex,ey];exact run_app_none ht hi) (hK _ E (hI.put hdN ?_))
   simp only [Rep]
   simp at hvl'
   subst hvl'
   exact ⟨none,0,[],rfl,Nat.le_refl _,by simp [RepL],by simp,by simp [flat],.inl ⟨rfl,rfl⟩⟩
  ·have hpos:0<rows'.length:=by rcases rows' with _ | ⟨q,qs⟩;exact absurd rfl hm0;simp
   have hmul:rows'.length * i.bytes≤140737488355328:=by
    have:=Nat.mul_le_mul hb.1 hb.2
    omega
   have hrun:=run_app_grow (P:=P) (ty:=o.type) (n:=0) (cap:=0) (A:=none) (olds:=[]) ht hi hz (w:=E.w) (by simp [Builtin.firstCells,Sem.run]) hf2 (by omega) (by omega) (growslice_fits (by omega) (by simpa using hmul))
   have hcapge:=grownCap_ge E.w (0+rows'.length) 0 e
   have hcaple:=grownCap_le_maxLen E.w (0+rows'.length) 0 e (by simp only [maxLen];omega)
   obtain ⟨E',hw',hI',_,hrep⟩:=hI.drew.newOwn [d] (ty:=e) (rows:=rows') (vs:=vs') (e:=i.size) (cap:=grownCap E.w (0+rows'.length) 0 e)
    (rest:=(Builtin.zeroCells z.cells (grownCap E.w (0+rows'.length) 0 e - (0+rows'.length))).toList) (hr'.mono (Ext.drew E).closed) he' ho' (by omega) hcaple (by
     rw [List.length_append,hfl',size_zeroCells' hzs,hvl',← Nat.add_mul];congr 1;omega)
   simp only [Nat.zero_add] at hrun hrep hw'
   refine wpof (by rw [ex,ey];simpa using hrun) ?_
   have:=hK _ E' (hI'.put hdN hrep)
   rw [hw'] at this
   simpa using this
 · -- onto what is owned
  rename_i τ e1 rows hxv
  rw [hxv] at hx
  split at h
  case isFalse=>cases h
  rename_i he1
  subst he1
  split at h
  case isFalse=>cases h
  rename_i hb
  injection h with h
  subst h
  obtain ⟨A,cap,vs,ex,hr,he,ho1,_,hfo2⟩:=run_first (P:=P) rfl hx
  have hvl:=hr.length
  have hfl:=flat_length he
  have hmul:(rows.length+rows'.length) * i.bytes≤140737488355328:=by
   have:=Nat.mul_le_mul hb.1 hb.2
   omega
  by_cases hroom:rows.length+rows'.length≤cap
  ·simp only [Rep] at hx
   obtain ⟨A2,cap2,vs2,ex2,hcap,hr2,he2,ho2,htk⟩:=hx
   have hvl2:=hr2.length
   rw [ex] at ex2
   injection ex2 with h1 _ h2
   subst h1 h2
   rcases htk with ⟨hA,hc0⟩ | ⟨g,cur,ty,hA,hat',hh,hm,hcs,hown,hS⟩
   ·subst hA hc0
    have h1:rows=[]:=List.eq_nil_of_length_eq_zero (by omega)
    have h2:rows'=[]:=List.eq_nil_of_length_eq_zero (by omega)
    subst h1 h2
    refine wpof (by rw [ex,ey];exact run_app_none ht hi) (hK _ (E.unown τ) ((hI.unownT τ).put hdN ?_))
    simp only [Rep]
    exact ⟨none,0,[],rfl,Nat.le_refl _,by simp [RepL],by simp,by simp [flat],.inl ⟨rfl,rfl⟩⟩
   ·subst hA
    have hrun:=run_app_room (P:=P) (ty:=o.type) ht hi hh hf1 (n:=rows.length) (cap:=cap) (by rw [hfl',hvl']) ho' hroom (by rw [hfl',hvl',hcs,← Nat.add_mul];exact Nat.mul_le_mul_right _ hroom)
    obtain ⟨E',hw',hI',hrep⟩:=hI.grow (τ':=[d]) hh hown hS hat' hr2 hr' he2 he' ho2 ho' hroom hm hcs
    refine wpof (by rw [ex,ey];exact hrun) ?_
    have:=hK _ E' (hI'.put hdN hrep)
    rw [hw'] at this
    exact this
  ·rw [ex] at hfo2
   have hrun:=run_app_grow (P:=P) (ty:=o.type) ht hi hz (w:=E.w) hfo2 hf2 (by omega) (by omega) (growslice_fits (by omega) hmul)
   have hcapge:=grownCap_ge E.w (rows.length+rows'.length) cap e
   have hcaple:=grownCap_le_maxLen E.w (rows.length+rows'.length) cap e (by simp only [maxLen];omega)
   have hbase:RepL ({ E with w:=E.w.drew }:RE).closed (rows++rows') (vs++vs'):=(hr.mono (Ext.drew E).closed).append (hr'.mono (Ext.drew E).closed)
   have hfa:flat (vs++vs')=flat vs++flat vs':=by simp [flat]
   have hunown:RepL (({ E with w:=E.w.drew }:RE).unown τ).closed (rows++rows') (vs++vs'):=hbase
   obtain ⟨E',hw',hI',_,hrep⟩:=(hI.drew.unownT τ).newOwn [d] (ty:=e) (rows:=rows++rows') (vs:=vs++vs') (e:=i.size) (cap:=grownCap E.w (rows.length+rows'.length) cap e)
    (rest:=(Builtin.zeroCells z.cells (grownCap E.w (rows.length+rows'.length) cap e - (rows.length+rows'.length))).toList) hunown
    (fun u hu=>(List.mem_append.1 hu).elim (he u) (he' u)) (fun u hu=>by rw [hfa] at hu;exact (List.mem_append.1 hu).elim (ho1 u) (ho' u)) (by rw [List.length_append];omega) hcaple (by
     rw [hfa,List.length_append,List.length_append,hfl,hfl',size_zeroCells' hzs,hvl,hvl',← Nat.add_mul,← Nat.add_mul];congr 1;omega)
   refine wpof (by rw [ex,ey];exact hrun) ?_
   have:=hK _ E' (hI'.put hdN hrep)
   rw [hw',hfa,List.length_append] at this
   exact this
 ·cases h
def rowsOf (esz:Nat):List AV→Option (List AV)
 | []=>some []
 | x::xs=>match closeV x with
  | some r=>if r.row=true then if oneL (cellsOf r)=true then if (cellsOf r).length=esz then match rowsOf esz xs with
    | some rs=>some (r::rs)
    | none=>none
   else none else none else none
  | none=>none
def stepBslice (esz d:Nat) (xs:List AV) (env:Env):Option Env:=
 match rowsOf esz xs with
 | some rows=>some (env.put d (.sl (.own [d]) esz rows))
 | none=>none
mutual
theorem plain_rep:∀ {x:AV} {E:RE} {v:Value},plainV x=true→Rep E x v→Rep E.closed (unownV x) v
 | .lit u,E,v,_,h=>by simpa only[unownV,Rep] using h
 | .gl i,E,v,_,h=>by simp only[unownV,Rep] at h ⊢;exact h
 | .gp g,E,v,_,h=>by simpa only[unownV,Rep] using h
 | .rp cs,E,v,_,h=>by simp only[unownV,Rep] at h ⊢;exact h
 | .mp k vs,E,v,_,h=>by simp only[unownV,Rep] at h ⊢;exact h
 | .dead,E,v,_,h=>by simp only[unownV,Rep]
 | .sl .none e rows,E,v,_,h=>by simp only[unownV,Rep] at h ⊢;exact h
 | .sl .nil e rows,E,v,_,h=>by simp only[unownV,Rep] at h ⊢;exact h
 | .sl .bor e rows,E,v,hp,h=>by simp[plainV] at hp
 | .sl (.own τ) e rows,E,v,_,h=>by
  simp only[unownV,Rep] at h ⊢
  obtain ⟨A,cap,vs,rfl,hcap,hr,he,h1,ht⟩:=h
  refine ⟨A,cap,vs,rfl,hcap,hr,he,h1,fun hne=>?_⟩
  rcases ht with ⟨_,h0⟩| ⟨g,cur,ty,ha,hat,_⟩
  ·exact absurd (List.eq_nil_of_length_eq_zero (by omega)) hne
  ·exact ⟨g,0,ha,hat⟩
 | .sl (.fr τ) e rows,E,v,hp,h=>by simp[plainV] at hp
 | .sl .gone e rows,E,v,hp,h=>by simp[plainV] at hp
 | .mf t al,E,v,hp,h=>by simp[plainV] at hp
 | .agg cs,E,v,hp,h=>by
  simp only[plainV] at hp
  simp only[unownV,Rep] at h ⊢
  obtain ⟨vs,rfl,h⟩:=h
  exact ⟨vs,rfl,plainL_rep hp h⟩
 | .tup cs,E,v,hp,h=>by
  simp only[plainV] at hp
  simp only[unownV,Rep] at h ⊢
  obtain ⟨vs,rfl,h⟩:=h
  exact ⟨vs,rfl,plainL_rep hp h⟩
 | .ifc t x,E,v,hp,h=>by
  simp only[plainV] at hp
  simp only[unownV,Rep] at h ⊢
  obtain ⟨u,rfl,h⟩:=h
  exact ⟨u,rfl,plain_rep hp h⟩
 | .clo f a b,E,v,hp,h=>by
  simp only[plainV,Bool.and_eq_true] at hp
  simp only[unownV,Rep] at h ⊢
  obtain ⟨fs,cs,rfl,h1,h2⟩:=h
  exact ⟨fs,cs,rfl,plainL_rep hp.1 h1,plainL_rep hp.2 h2⟩
 | .bp cs,E,v,hp,h=>by simp[plainV] at hp
 | .lp c o,E,v,hp,h=>by simp[plainV] at hp
 | .ml c o n k g e,E,v,hp,h=>by simp[plainV] at hp
 | .mu c k vs,E,v,hp,h=>by simp[plainV] at hp
theorem plainL_rep:∀ {xs:List AV} {E:RE} {vs:List Value},plainL xs=true→RepL E xs vs→RepL E.closed (unownL xs) vs
 | [],E,vs,_,h=>by simpa only[unownL,RepL] using h
 | x::xs,E,vs,hp,h=>by
  simp only[plainL,Bool.and_eq_true] at hp
  simp only[unownL,RepL] at h ⊢
  obtain ⟨v,ws,rfl,h1,h2⟩:=h
  exact ⟨v,ws,rfl,plain_rep hp.1 h1,plainL_rep hp.2 h2⟩
end
theorem close1_rep {x r:AV} {v:Value} (hI:Inv R N env a E) (h:closeV.closeV1 x=some r) (hr:Rep E x v):Rep E.closed r v:=by
 cases x with
 | lit u=>simp only [closeV.closeV1] at h;injection h with h;subst h;simpa only [Rep] using hr
 | gl i=>simp only [closeV.closeV1] at h;injection h with h;subst h;simp only [Rep] at hr ⊢;exact hr
 | rp cs=>simp only [closeV.closeV1] at h;injection h with h;subst h;simp only [Rep] at hr ⊢;exact hr
 | mp k vs=>simp only [closeV.closeV1] at h;injection h with h;subst h;simp only [Rep] at hr ⊢;exact hr
 | sl t e rows=>
  have main:∀ t',t'=.none→t≠.bor→t≠.nil→(∀ τ,t≠.fr τ)→t≠.gone→Rep E.closed (.sl t' e rows) v:=by
   rintro t' rfl h1 h2 h3 h4
   simp only [Rep] at hr ⊢
   obtain ⟨A,cap,vs,rfl,hcap,hrr,he,ho,ht⟩:=hr
   refine ⟨A,cap,vs,rfl,hcap,hrr,he,ho,fun hne=>?_⟩
   cases t with
   | none=>exact ht hne
   | bor=>exact absurd rfl h1
   | nil=>exact absurd rfl h2
   | own τ=>
    rcases ht with ⟨_,h0⟩ | ⟨g,cur,ty,hA,hat,_⟩
    ·exact absurd (List.eq_nil_of_length_eq_zero (by omega)) hne
    ·exact ⟨g,0,hA,hat⟩
   | fr τ=>exact absurd rfl (h3 τ)
   | gone=>exact absurd rfl h4
  cases t with
  | bor=>simp [closeV.closeV1] at h
  | fr τ=>simp [closeV.closeV1] at h
  | gone=>simp [closeV.closeV1] at h
  | none=>simp only [closeV.closeV1] at h;injection h with h;subst h;exact main _ rfl (by simp) (by simp) (by simp) (by simp)
  | own τ=>simp only [closeV.closeV1] at h;injection h with h;subst h;exact main _ rfl (by simp) (by simp) (by simp) (by simp)
  | nil=>
   cases rows with
   | nil=>simp only [closeV.closeV1] at h;injection h with h;subst h;simp only [Rep] at hr ⊢;exact hr
   | cons q qs=>simp [closeV.closeV1] at h
 | ifc t y=>
  cases y with
  | lit u=>simp only [closeV.closeV1] at h;injection h with h;subst h;simpa only [Rep] using hr
  | rp cs=>simp only [closeV.closeV1] at h;injection h with h;subst h;simp only [Rep] at hr ⊢;exact hr
  | _=>simp [closeV.closeV1] at h
 | clo f p q=>
  simp only [closeV.closeV1] at h
  split at h
  ·rename_i hp
   injection h with h
   subst h
   exact plain_rep (x:=.clo f p q) (by simpa only [plainV] using hp) hr
  ·cases h
 | _=>simp [closeV.closeV1] at h
theorem close1L_rep (hI:Inv R N env a E):∀ {xs rs:List AV} {vs:List Value},xs.mapM closeV.closeV1=some rs→RepL E xs vs→RepL E.closed rs vs
 | [],rs,vs,h,hr=>by
  simp at h
  subst h
  simpa only[RepL] using hr
 | x::xs,rs,vs,h,hr=>by
  rw[List.mapM_cons] at h
  simp only[RepL] at hr
  obtain ⟨v,us,rfl,h1,h2⟩:=hr
  cases hx:closeV.closeV1 x with
  | none=>simp[hx] at h
  | some r=>
   cases hxs:xs.mapM closeV.closeV1 with
   | none=>simp[hx,hxs] at h
   | some rs'=>
    simp[hx,hxs] at h
    subst h
    simp only[RepL]
    exact ⟨v,us,rfl,close1_rep hI hx h1,close1L_rep hI hxs h2⟩
theorem close_rep {x r:AV} {v:Value} (hI:Inv R N env a E)(h:closeV x=some r)(hr:Rep E x v):Rep E.closed r v:=by
 cases x with
 | agg cs=>
  simp only[closeV] at h
  split at h
  ·rename_i l hl
   injection h with h
   subst h
   simp only[Rep] at hr ⊢
   obtain ⟨vs,rfl,hr⟩:=hr
   exact ⟨vs,rfl,close1L_rep hI hl hr⟩
  ·cases h
 | ifc t y=>
  simp only[closeV] at h
  split at h
  ·rename_i u hu
   injection h with h
   subst h
   simp only[Rep] at hr ⊢
   obtain ⟨w,rfl,hr⟩:=hr
   exact ⟨w,rfl,close1_rep hI hu hr⟩
  ·cases h
 | sl t e rows=>
  refine close1_rep hI (x:=.sl t e rows) ?_ hr
  rw[←h]
  cases t<;>cases rows<;>rfl
 | lit u=>exact close1_rep hI (x:=.lit u) h hr
 | gl i=>exact close1_rep hI (x:=.gl i) h hr
 | rp cs=>exact close1_rep hI (x:=.rp cs) h hr
 | mp k vs=>exact close1_rep hI (x:=.mp k vs) h hr
 | clo f p q=>exact close1_rep hI (x:=.clo f p q) h hr
 | dead=>simp only[closeV] at h;injection h with h;subst h;simp only[Rep]
 | _=>simp[closeV] at h
theorem rowsOf_rep (hI:Inv R N env a E) {esz:Nat}:∀ {xs rows:List AV} {vs:List Value},rowsOf esz xs=some rows→RepL E xs vs →
  RepL E.closed rows vs∧(∀ u∈vs,u.cells.size=esz)∧(∀ u∈flat vs,u.oneCell'=true)
 | [],rows,vs,h,hr=>by
  simp only[rowsOf] at h
  injection h with h
  subst h
  simp only[RepL] at hr
  subst hr
  simp[RepL,flat]
 | x::xs,rows,vs,h,hr=>by
  simp only[rowsOf] at h
  split at h
  case h_2=>cases h
  rename_i r hc
  split at h
  case isFalse=>cases h
  rename_i hrow
  split at h
  case isFalse=>cases h
  rename_i hone
  split at h
  case isFalse=>cases h
  rename_i hlen
  split at h
  case h_2=>cases h
  rename_i rs hrs
  injection h with h
  subst h
  simp only[RepL] at hr
  obtain ⟨v,us,rfl,h1,h2⟩:=hr
  obtain ⟨k1,k2,k3⟩:=rowsOf_rep hI hrs h2
  have hv:=close_rep hI hc h1
  have hvc:=rep_cells hv (row_or hrow)
  have hl:=hvc.length
  rw[Array.length_toList] at hl
  refine ⟨by simp only[RepL];exact ⟨v,us,rfl,hv,k1⟩,fun u hu=>?_,fun u hu=>?_⟩
  ·rcases List.mem_cons.1 hu with rfl|hu
   ·omega
   ·exact k2 u hu
  ·have:flat (v::us)=v.cells.toList++flat us:=by simp[flat]
   rw[this] at hu
   rcases List.mem_append.1 hu with hu|hu
   ·exact repL_one hvc (oneL_spec hone) u hu
   ·exact k3 u hu
end
end Go.Proofs.YtelbgkknneljeaaGreatDoor.VL
end

section
namespace Go.Proofs.YtelbgkknneljeaaGreatDoor.VL
open Go.RowKit
section
variable {P : Program} {R : RE} {N : Nat} {env : Env} {a : Act} {E : RE}
theorem fill_rows {size:Nat}:∀ (vs:List Value) (k:Nat) (cells:Array Value),(∀ u∈vs,u.cells.size=size)→(k+vs.length) * size≤cells.size →
  ∃ out:Array Value,Instr.fill (fun i=>some (i * size,size)) cells ((List.range' k vs.length).zip vs)=some out∧out.toList=cells.toList.take (k * size)++flat vs++cells.toList.drop ((k+vs.length) * size)
 | [],k,cells,_,_=>⟨cells,by simp [Instr.fill],by simp [flat]⟩
 | v::vs,k,cells,h,hl=>by
  have hv:=h v (by simp)
  simp only [List.length_cons] at hl
  have hmul:(k+(vs.length+1)) * size=k * size+size+vs.length * size:=by rw [Nat.add_mul,Nat.add_mul];omega
  have h2:(k+1+vs.length) * size=k * size+size+vs.length * size:=by rw [Nat.add_mul,Nat.add_mul];omega
  have h3:(k+1) * size=k * size+size:=by rw [Nat.add_mul];omega
  rw [hmul] at hl
  have hz:=setZip_eq cells (k * size) v.cells.toList 0 cells (by simp [hv];omega)
  simp only [Nat.add_zero,Array.length_toList,hv] at hz
  have hsz:(v.cells.toList.zipIdx.foldl (fun cs (x:Value × Nat)=>cs.setIfInBounds (k * size+x.2) x.1) cells).size=cells.size:=by
   rw [← Array.length_toList,hz]
   simp [hv]
   omega
  obtain ⟨out,h1,hout⟩:=fill_rows vs (k+1) (v.cells.toList.zipIdx.foldl (fun cs (x:Value × Nat)=>cs.setIfInBounds (k * size+x.2) x.1) cells) (fun u hu=>h u (by simp [hu])) (by rw [h2,hsz];omega)
  refine ⟨out,?_,?_⟩
  ·simp only [List.length_cons,List.range'_succ,List.zip_cons_cons,Instr.fill]
   rw [if_neg (by simp [hv];omega),← Array.foldl_toList,Array.toList_zipIdx]
   exact h1
  ·rw [hout,hz,h2,h3]
   simp only [List.length_cons,hmul]
   have hfl:flat (v::vs)=v.cells.toList++flat vs:=by simp [flat]
   rw [hfl]
   have e1:(cells.toList.take (k * size)++v.cells.toList).length=k * size+size:=by simp [hv];omega
   rw [← e1,List.take_left',List.drop_append]
   ·simp [e1]
    try rw [List.drop_of_length_le (by simp [hv])]
    try simp
    try (congr 1;omega)
   all_goals rfl
theorem zip_parts {α β:Type} {l:List (α×β)} {ks:List α} (h:l.map (·.1)=ks):l=ks.zip (l.map (·.2)):=by
 subst h
 induction l with
 | nil=>rfl
 | cons x l ih=>simp[←ih]
theorem wp_bslice (hI:Inv R N env a E) {o:Oper} {t e:TypeId} {i:TypeInfo} {z:Value} {n d:Nat} {parts:Array (Nat × Operand)} (ho:o.op=.buildSlice t n parts) (hd:o.dst=some d) (hdN:d<N)
  (ht:P.underlying t=some (.slice e)) (hi:P.info? e=some i) (hz:i.zero=some z) (hzs:z.cells.size=i.size) (hidx:parts.toList.map (·.1)=List.range n) (hlim:n * i.size≤16777216) (hsz:0<i.size)
  {env':Env} (h:stepBslice i.size d ((parts.toList.map (·.2)).map env.ev) env=some env')
  {K:Act→World→Prop} {Q:Exit→Act→World→Prop} (hK:∀ v E',Inv R N env' (a.put (some d) v) E'→K (a.put (some d) v) E'.w):o.wp P a E.w K Q:=by
 unfold stepBslice at h
 split at h
 case h_2=>cases h
 rename_i rows hrows
 injection h with h
 subst h
 obtain ⟨hr,he,ho1⟩:=rowsOf_rep hI hrows (hI.evs (parts.toList.map (·.2)))
 have hvl:=hr.length
 have hfl:=flat_length he
 generalize hvs:(parts.toList.map (·.2)).map a.eval=vs at hr he ho1 hvl hfl
 have hn:vs.length=n:=by
  have:=congrArg List.length hidx
  rw [← hvs]
  simpa using this
 obtain ⟨out,hfill,hout⟩:=fill_rows (size:=i.size) vs 0 ((Array.range (n * i.size)).map (z.cells[· % z.cells.size]!)) he (by simp [hn])
 have hparts:(parts.map fun (i,x)=>(i,a.eval x)).toList=(List.range' 0 vs.length).zip vs:=by
  have h1:=zip_parts (l:=(parts.toList.map fun p=>(p.1,a.eval p.2))) (ks:=List.range n) (by rw [← hidx];simp)
  simp only [Array.toList_map]
  rw [h1,hn,List.range_eq_range',← hvs]
  congr 1
  simp
 have hout':out=(flat vs).toArray:=by
  apply Array.ext'
  rw [hout]
  simp only [Nat.zero_mul,List.take_zero,List.nil_append,Nat.zero_add,hn]
  rw [List.drop_of_length_le (by simp)]
  simp
 obtain ⟨E',hw',hI',_,hrep⟩:=hI.newOwn [d] (ty:=e) (rows:=rows) (vs:=vs) (e:=i.size) (cap:=rows.length) (rest:=[]) hr he ho1 (Nat.le_refl _) (by have:rows.length≤rows.length * i.size:=Nat.le_mul_of_pos_right _ hsz;rw [← hvl,hn] at this ⊢;simp only [maxLen];omega) (by simp [hfl,hvl])
 unfold Oper.wp
 have hex:(execOp a.eval o).run P E.w=.ok (.value (.slice (some ⟨E.w.heap.size,0,none⟩) n n)) (E.w.alloc (.cells (flat vs).toArray e)):=by
  have hzero:(zeroValue e).run P E.w=.ok z E.w:=by simp [zeroValue,typeInfo,program,Sem.run,hi,hz,Bind.bind,Sem.bind,Pure.pure]
  have hfill':Instr.fill (fun i_1=>some (i_1 * i.size,i.size)) ((Array.range (n * i.size)).map fun x=>z.cells[x % z.cells.size]!) (parts.map fun (i,x)=>(i,a.eval x)).toList=some out:=by rw [hparts];exact hfill
  simp only [execOp,ho,Instr.buildSlice,Sem.run_bind,run_underlying_eq ht,Result.andThen_ok,run_sizeOf hi]
  rw [if_neg (by omega)]
  by_cases h0:n * i.size=0
  ·have hn0:n=0:=by rcases Nat.mul_eq_zero.1 h0 with h | h<;>omega
   have hvs0:vs=[]:=List.eq_nil_of_length_eq_zero (by omega)
   subst hn0 hvs0
   have hp0:parts.toList=[]:=by
    have:=congrArg List.length hidx
    simpa using this
   have hp1:parts=#[]:=by rw [← Array.toArray_toList (xs:=parts),hp0]
   subst hp1
   simp [Sem.run_bind,Sem.run,Instr.fill,newRow,newObj,flat,World.alloc_eq,Array.range_zero']
  ·rw [if_neg h0]
   simp only [Sem.run_bind,hzero,Result.andThen_ok,Sem.run_pure,hfill']
   simp [newRow,newObj,Sem.run_bind,Sem.run,hout',World.alloc_eq]
 rw [hex,Oper.upon_value,hd]
 have:=hK _ E' (hI'.put hdN hrep)
 rw [hw'] at this
 simp only [List.append_nil] at this
 rw [← hvl,hn] at this
 exact this
def stepAlloc (d:Nat)(z:List AV)(env:Env):Option Env:=
 if oneL z=true then some (((env.fresh d).putc d z).put d (.lp d 0)) else none
def stepBox (d:Nat)(x:Operand)(env:Env):Option Env:=
 if ((env.fresh d).ev x).row=true then if oneL (cellsOf ((env.fresh d).ev x))=true then some (((env.fresh d).putc d (cellsOf ((env.fresh d).ev x))).put d (.lp d 0)) else none else none
theorem rep_new (E:RE) (d:Nat) (w:World) (b:Nat):Rep { E with w:=w,loc:=upd E.loc d (some b) } (.lp d 0) (.pointer (some ⟨b,0,none⟩)):=by
 simp only [Rep]
 exact ⟨b,by simp [upd],rfl⟩
theorem wp_alloc (hI:Inv R N env a E) {o:Oper} {t:TypeId} {z:Value} {d:Nat} (ho:o.op=.alloc t) (hd:o.dst=some d) (hdN:d<N) (hz:(P.info? t).bind (·.zero)=some z)
  {env':Env} (h:stepAlloc d (z.cells.toList.map ofVal1) env=some env')
  {K:Act→World→Prop} {Q:Exit→Act→World→Prop} (hK:∀ v E',Inv R N env' (a.put (some d) v) E'→K (a.put (some d) v) E'.w):o.wp P a E.w K Q:=by
 unfold stepAlloc at h
 split at h
 case isFalse=>cases h
 rename_i hone
 injection h with h
 subst h
 obtain ⟨E0,hw0,hI0,hl0,hc0⟩:=hI.fresh d
 have hr:RepL E0 (z.cells.toList.map ofVal1) z.cells.toList:=repL_ofVal1 E0 _
 obtain ⟨hI1,_⟩:=hI0.newLoc d hdN hl0 (ty:=t) hr (repL_one hr (oneL_spec hone))
 obtain ⟨inf,hinf,hz'⟩:=Option.bind_eq_some_iff.1 hz
 unfold Oper.wp
 have hex:(execOp a.eval o).run P E.w=.ok (.value (.pointer (some ⟨E.w.heap.size,0,none⟩))) (E.w.alloc (.cells z.cells t)):=by
  have hzero:(zeroValue t).run P E.w=.ok z E.w:=by simp [zeroValue,typeInfo,program,Sem.run,hinf,hz',Bind.bind,Sem.bind,Pure.pure]
  simp [execOp,ho,Instr.alloc,Sem.run_bind,hzero,newVar,newRow,newObj,Sem.run,World.alloc_eq]
 rw [hex,Oper.upon_value,hd]
 have:=hK _ _ (hI1.put hdN (rep_new E0 d _ _))
 simp only [hw0] at this
 exact this
def stepMks (agg:Bool)(esz bytes d:Nat)(z:List AV)(l c:AV)(env:Env):Option Env:=
 match intOfA l,intOfA c with
 | some n,some n'=>if n=n'∧0≤n∧n≤4294967296∧bytes≤32768 then if oneL z=true then some (((env.fresh d).putc d (List.replicate n.toNat z).flatten).put d (.ml d 0 n.toNat n.toNat agg esz)) else none else none
 | _,_=>none
theorem made_list (z:Array Value):∀ n:Nat,(madeCells z (n*z.size)).toList=(List.replicate n z.toList).flatten
 | 0=>by simp[madeCells]
 | n+1=>by
  have ih:=made_list z n
  rw[List.replicate_succ',List.flatten_append,←ih]
  simp only[madeCells,Array.toList_map,Array.toList_range,Nat.succ_mul,List.range_add,List.map_append,List.map_map,List.flatten_cons,List.flatten_nil,List.append_nil]
  congr 1
  apply List.ext_getElem
  ·simp
  ·intro i h1 h2
   have hi:i<z.size:=by simpa using h2
   simp[Nat.mod_eq_of_lt hi,hi]
theorem oneL_flatten {z:List AV} (h:oneL z=true)(n:Nat):oneL (List.replicate n z).flatten=true:=by
 simp only[oneL,List.all_eq_true] at h ⊢
 intro x hx
 obtain ⟨l,hl,hxl⟩:=List.mem_flatten.1 hx
 rw[List.eq_of_mem_replicate hl] at hxl
 exact h x hxl
theorem repL_flatten {E:RE} {z:List AV} {vs:List Value} (h:RepL E z vs):∀ n:Nat,RepL E (List.replicate n z).flatten (List.replicate n vs).flatten
 | 0=>by simp[RepL]
 | n+1=>by
  simp only[List.replicate_succ,List.flatten_cons]
  exact h.append (repL_flatten h n)
theorem wp_mks (hI:Inv R N env a E) {o:Oper} {t e:TypeId} {i:TypeInfo} {z:Value} {l c:Operand} {b:Bool} {d:Nat} (ho:o.op=.makeSlice t l c) (hd:o.dst=some d) (hdN:d<N)
  (ht:P.underlying t=some (.slice e)) (hi:P.info? e=some i) (hz:i.zero=some z) (hzs:z.cells.size=i.size)
  {env':Env} (h:stepMks b i.size i.bytes d (z.cells.toList.map ofVal1) (env.ev l) (env.ev c) env=some env')
  {K:Act→World→Prop} {Q:Exit→Act→World→Prop} (hK:∀ v E',Inv R N env' (a.put (some d) v) E'→K (a.put (some d) v) E'.w):o.wp P a E.w K Q:=by
 unfold stepMks at h
 have hl:=hI.ev l
 have hc:=hI.ev c
 split at h
 case h_2=>cases h
 rename_i n n' hn hn'
 have evi:∀ {x:AV} {m:Int} {v:Value},intOfA x=some m→Rep E x v→∃ k,v=.int k m:=by
  intro x m v hx hr
  unfold intOfA at hx
  split at hx
  ·injection hx with hx
   subst hx
   simp only [Rep] at hr
   exact ⟨_,hr⟩
  ·cases hx
 obtain ⟨kl,el⟩:=evi hn hl
 obtain ⟨kc,ec⟩:=evi hn' hc
 split at h
 case isFalse=>cases h
 rename_i hb
 obtain ⟨rfl,h0,hm,hby⟩:=hb
 split at h
 case isFalse=>cases h
 rename_i hone
 injection h with h
 subst h
 obtain ⟨E0,hw0,hI0,hl0,hc0⟩:=hI.fresh d
 have hr0:RepL E0 (z.cells.toList.map ofVal1) z.cells.toList:=repL_ofVal1 E0 _
 have hr:=repL_flatten hr0 n.toNat
 have hcells:(madeCells z.cells (n.toNat * i.size)).toList=(List.replicate n.toNat z.cells.toList).flatten:=by rw [← hzs];exact made_list z.cells n.toNat
 have hmul:(i.bytes:Int) * n≤140737488355328:=by
  have h1:(i.bytes:Int) * n≤(i.bytes:Int) * 4294967296:=Int.mul_le_mul_of_nonneg_left hm (by omega)
  omega
 have hrun:=run_make (P:=P) E.w t e i z ht hi hz kl kc n n h0 (Int.le_refl _) (by omega) (by omega)
 obtain ⟨hI1,_⟩:=hI0.newLoc d hdN hl0 (ty:=e) (vals:=madeCells z.cells (n.toNat * i.size)) (cs:=(List.replicate n.toNat (z.cells.toList.map ofVal1)).flatten) (by rw [hcells];exact hr) (by rw [hcells];exact repL_one hr (oneL_spec (oneL_flatten hone _)))
 unfold Oper.wp
 have hex:(execOp a.eval o).run P E.w=.ok (.value (.slice (some ⟨E.w.heap.size,0,none⟩) n.toNat n.toNat)) (E.w.alloc (.cells (madeCells z.cells (n.toNat * i.size)) e)):=by
  simp [execOp,ho,el,ec,Sem.run_bind,hrun,Sem.run]
 rw [hex,Oper.upon_value,hd]
 have:=hK (.slice (some ⟨E0.w.heap.size,0,none⟩) n.toNat n.toNat) _ (hI1.put hdN (x:=.ml d 0 n.toNat n.toNat b i.size) (by
  simp only [Rep]
  exact ⟨E0.w.heap.size,by simp [upd],rfl⟩))
 simp only [hw0] at this
 exact this
def stepMko (esz bytes d:Nat) (c:AV) (env:Env):Option Env:=
 match intOfA c with
 | some n'=>if 0≤n'∧n'≤4294967296∧bytes≤32768 then some (env.put d (.sl (.own [d]) esz [])) else none
 | none=>none
theorem wp_mko (hI:Inv R N env a E) {o:Oper} {t e:TypeId} {i:TypeInfo} {z:Value} {k0:IntKind} {c:Operand} {d:Nat} (ho:o.op=.makeSlice t (.const (.int k0 0)) c) (hd:o.dst=some d) (hdN:d<N)
  (ht:P.underlying t=some (.slice e)) (hi:P.info? e=some i) (hz:i.zero=some z) (hzs:z.cells.size=i.size)
  {env':Env} (h:stepMko i.size i.bytes d (env.ev c) env=some env')
  {K:Act→World→Prop} {Q:Exit→Act→World→Prop} (hK:∀ v E',Inv R N env' (a.put (some d) v) E'→K (a.put (some d) v) E'.w):o.wp P a E.w K Q:=by
 unfold stepMko at h
 have hc:=hI.ev c
 split at h
 case h_2=>cases h
 rename_i n hn
 unfold intOfA at hn
 split at hn
 case h_2=>cases hn
 rename_i kc n' hcv
 injection hn with hn
 subst hn
 rw [hcv] at hc
 simp only [Rep] at hc
 split at h
 case isFalse=>cases h
 rename_i hb
 obtain ⟨h0,hm,hby⟩:=hb
 injection h with h
 subst h
 have hmul:(i.bytes:Int) * n'≤140737488355328:=by
  have h1:(i.bytes:Int) * n'≤(i.bytes:Int) * 4294967296:=Int.mul_le_mul_of_nonneg_left hm (by omega)
  omega
 have hrun:=run_make (P:=P) E.w t e i z ht hi hz k0 kc 0 n' (Int.le_refl _) h0 (by omega) (by omega)
 obtain ⟨E',hw',hI',_,hrep⟩:=hI.newOwn [d] (ty:=e) (rows:=[]) (vs:=[]) (e:=i.size) (cap:=n'.toNat) (rest:=(madeCells z.cells (n'.toNat * i.size)).toList) (by simp [RepL]) (by simp) (by simp [flat]) (Nat.zero_le _) (by simp only [maxLen];omega) (by simp [flat,size_madeCells])
 unfold Oper.wp
 have hex:(execOp a.eval o).run P E.w=.ok (.value (.slice (some ⟨E.w.heap.size,0,none⟩) 0 n'.toNat)) (E.w.alloc (.cells (madeCells z.cells (n'.toNat * i.size)) e)):=by
  have hz0:a.eval (.const (.int k0 0))=.int k0 0:=rfl
  simp [execOp,ho,hz0,hc,Sem.run_bind,hrun,Sem.run]
 rw [hex,Oper.upon_value,hd]
 have:=hK _ E' (hI'.put hdN hrep)
 rw [hw'] at this
 simpa [flat] using this
theorem wp_box (hI:Inv R N env a E) {o:Oper} {t:TypeId} {x:Operand} {d:Nat} (ho:o.op=.box t x) (hd:o.dst=some d) (hdN:d<N)
  {env':Env} (h:stepBox d x env=some env')
  {K:Act→World→Prop} {Q:Exit→Act→World→Prop} (hK:∀ v E',Inv R N env' (a.put (some d) v) E'→K (a.put (some d) v) E'.w):o.wp P a E.w K Q:=by
 unfold stepBox at h
 split at h
 case isFalse=>cases h
 rename_i hrow
 split at h
 case isFalse=>cases h
 rename_i hone
 injection h with h
 subst h
 obtain ⟨E0,hw0,hI0,hl0,hc0⟩:=hI.fresh d
 have hx:=hI0.ev x
 have hr:=rep_cells hx (row_or hrow)
 obtain ⟨hI1,_⟩:=hI0.newLoc d hdN hl0 (ty:=t) hr (repL_one hr (oneL_spec hone))
 unfold Oper.wp
 have hex:(execOp a.eval o).run P E.w=.ok (.value (.pointer (some ⟨E.w.heap.size,0,none⟩))) (E.w.alloc (.cells (a.eval x).cells t)):=by
  simp [execOp,ho,Instr.box,Sem.run_bind,newVar,newRow,newObj,Sem.run,World.alloc_eq]
 rw [hex,Oper.upon_value,hd]
 have:=hK _ _ (hI1.put hdN (rep_new E0 d _ _))
 simp only [hw0] at this
 exact this
end
end Go.Proofs.YtelbgkknneljeaaGreatDoor.VL
end

section
namespace Go.Proofs.YtelbgkknneljeaaGreatDoor.VL
open Go.RowKit
def mapO {α β:Type} (f:α→Option β):List α→Option (List β)
 | []=>some []
 | x::xs=>match f x with
  | some y=>match mapO f xs with
   | some ys=>some (y::ys)
   | none=>none
  | none=>none
def lowTok:Tok→Tok
 | .own _=>.none
 | .fr _=>.bor
 | t=>t
def chunk (agg:Bool)(e:Nat):Nat→List AV→List AV
 | 0,_=>[]
 | n+1,l=>(match agg with|true=>.agg (l.take e)|false=>(l.take 1).headD .dead)::chunk agg e n (l.drop e)
def lentAs (m:List (Nat×Nat))(c:Nat):Option Nat:=match m with
 | []=>none
 | (c',k)::r=>if c=c' then some k else lentAs r c
def lentOf (m:List (Nat×Nat))(k:Nat):Option Nat:=match m with
 | []=>none
 | (c,k')::r=>if k=k' then some c else lentOf r k
def lowerM (m:List (Nat × Nat)) (C:Nat→Option (List AV)):Nat→AV→Option AV
 | 0,_=>none
 | n+1,x=>match x with
  | .sl t e rows=>some (.sl (lowTok t) e rows)
  | .agg cs=>match mapO (lowerM m C n) cs with
   | some l=>some (.agg l)
   | none=>none
  | .lp c o=>match lentAs m c with
   | some k=>some (.lp k o)
   | none=>match C c with
    | some cs=>match mapO (match m with | []=>lowerM m C n | _::_=>closeV) (cs.drop o) with
     | some l=>some (.bp l)
     | none=>none
    | none=>none
  | .clo f a b=>match mapO (lowerM m C n) a with
   | some l=>match mapO (lowerM m C n) b with
    | some m=>some (.clo f l m)
    | none=>none
   | none=>none
  | .ifc t v=>match lowerM m C n v with
   | some u=>some (.ifc t u)
   | none=>none
  | .ml c o len cap g e=>match lentAs m c with
   | some k=>some (.ml k o len cap g e)
   | none=>match C c with
    | some cs=>if o+len * e≤cs.length∧len≤cap∧(g=true∨e=1) then match mapO closeV ((cs.drop o).take (len * e)) with
     | some l=>some (.sl .bor e (chunk g e len l))
     | none=>none
     else none
    | none=>none
  | .tup _=>none
  | .mu _ _ _=>none
  | .mf _ _=>none
  | x=>some x
abbrev lower (C:Nat→Option (List AV)):Nat→AV→Option AV:=lowerM [] C
def retv (C:Nat→Option (List AV)) (keep:Bool):Nat→AV→Option AV
 | 0,_=>none
 | n+1,x=>match x with
  | .lit v=>some (.lit v)
  | .gl i=>some (.gl i)
  | .mp k v=>some (.mp k v)
  | .rp cs=>some (.rp cs)
  | .dead=>some .dead
  | .sl t e rows=>match t with
   | .bor=>none
   | .own τ=>if keep then some (.sl (.own τ) e rows) else some (.sl .none e rows)
   | .fr τ=>if keep then some (.sl (.fr τ) e rows) else none
   | .gone=>none
   | t=>some (.sl t e rows)
  | .mu τ k v=>some (.mp k v)
  | .mf τ al=>if keep then some (.mf τ al) else none
  | .agg cs=>match mapO (retv C keep n) cs with
   | some l=>some (.agg l)
   | none=>none
  | .tup cs=>match mapO (retv C keep n) cs with
   | some l=>some (.tup l)
   | none=>none
  | .clo f a b=>match mapO (retv C keep n) a with
   | some l=>match mapO (retv C keep n) b with
    | some m=>some (.clo f l m)
    | none=>none
   | none=>none
  | .ifc t v=>match retv C keep n v with
   | some u=>some (.ifc t u)
   | none=>none
  | .lp c o=>if 100000≤c then (if keep then some (.lp c o) else none) else match C c with
   | some cs=>match mapO (retv C false n) (cs.drop o) with
    | some l=>some (.rp l)
    | none=>none
   | none=>none
  | .ml c o len cap g e=>if 100000≤c then (if keep then some (.ml c o len cap g e) else none) else match C c with
   | some cs=>if o+len * e≤cs.length∧len≤cap∧(g=true∨e=1) then match mapO (retv C false n) ((cs.drop o).take (len * e)) with
    | some l=>some (.sl .none e (chunk g e len l))
    | none=>none
    else none
   | none=>none
  | _=>none
mutual
/-- May a value leave a call? -/
def resOK:AV→Bool
 | .lit _=>true
 | .gl _=>true
 | .mp _ _=>true
 | .rp _=>true
 | .sl .bor _ _=>false
 | .sl _ _ _=>true
 | .agg cs=>resOKL cs
 | .tup cs=>resOKL cs
 | .ifc _ v=>resOK v
 | .clo _ a b=>resOKL a&&resOKL b
 | .dead=>true
 | .lp _ _=>true
 | .ml _ _ _ _ _ _=>true
 | .mf _ _=>true
 | _=>false
def resOKL:List AV→Bool
 | []=>true
 | x::xs=>resOK x&&resOKL xs
end
mutual
/-- A call's owners' marks get the call's own name in front. -/
def retag (d:Nat):AV→AV
 | .sl (.own t) e rows=>.sl (.own (d::t)) e rows
 | .sl (.fr t) e rows=>.sl (.fr (d::t)) e rows
 | .mf t al=>.mf (d::t) al
 | .agg cs=>.agg (retagL d cs)
 | .tup cs=>.tup (retagL d cs)
 | .clo f a b=>.clo f (retagL d a) (retagL d b)
 | .ifc t v=>.ifc t (retag d v)
 | x=>x
def retagL (d:Nat):List AV→List AV
 | []=>[]
 | x::xs=>retag d x::retagL d xs
end
mutual
/-- Cells that were lent get their owner's names again. -/
def unlend (m:List (Nat × Nat)):AV→AV
 | .lp k o=>match lentOf m k with | some c=>.lp c o | none=>.dead
 | .ml k o n cap g e=>match lentOf m k with | some c=>.ml c o n cap g e | none=>.dead
 | .agg cs=>.agg (unlendL m cs)
 | .tup cs=>.tup (unlendL m cs)
 | .clo f a b=>.clo f (unlendL m a) (unlendL m b)
 | .ifc t v=>.ifc t (unlend m v)
 | x=>x
def unlendL (m:List (Nat × Nat)):List AV→List AV
 | []=>[]
 | x::xs=>unlend m x::unlendL m xs
end
structure RE.Start (R:RE):Prop where
 own:∀ g τ,¬ R.own g τ
 S:∀ b o,R.S b o→b<R.w.heap.size
 Bok:∀ b,R.B b→b<R.w.heap.size∧¬ R.M b
 Mlt:∀ k,R.M k→k<R.w.heap.size
 MS:∀ k,R.M k→∀ o,¬ R.S k o
 loc1:∀ c c' b,R.loc c=some b→R.loc c'=some b→c=c'
 lim:∀ c b,R.loc c=some b→100000≤c
 mloc:∀ c,R.mloc c=none
 glob:∀ g∈GS,R.w.cell? ⟨g,0,none⟩= some (.iface (R.G g).1 (.pointer (some (R.G g).2)))
 globM:∀ g∈GS,¬ R.M g
 globD:GOK fun g=>R.w.heap[g]?
 globB:∀ g∈GB,¬ R.M g
 gsent:∀ g∈GS,(R.G g).1=GT∧(∃ cs ty,R.w.heap[(R.G g).2.block]?=some (.cells cs ty (0,0)))∧¬ R.M (R.G g).2.block
 gdist:∀ g∈GS,∀ k∈GS,(R.G g).2=(R.G k).2→g=k
def RE.Holds (R E:RE)(c0:List (Nat×List AV)):Prop:=∀ c b,R.loc c=some b→∃ cs vals ty,getC c0 c=some cs∧E.w.heap[b]?=some (.cells vals ty (0,0))∧RepL E.closed cs vals.toList∧∀ u∈vals.toList,u.oneCell'=true
structure After (R E:RE):Prop where
 below:BelowX R.M R.w E.w
 MS:∀ k,R.M k→∀ o,¬ E.S k o
 S0:∀ b o,b<R.w.heap.size→(E.S b o↔R.S b o)
 Slt:∀ b o,E.S b o→b<E.w.heap.size
 G:E.G=R.G
 ownlt:∀ g τ,E.own g τ→R.w.heap.size≤g∧g<E.w.heap.size
 own1:∀ g τ τ',E.own g τ→E.own g τ'→τ=τ'
 loc:∀ c b,E.loc c=some b→R.loc c=some b
def Enters (P:Program)(f:FuncId):Prop:=∀ (args:Array Value)(w:World),(callFunc f args).run P w=.ok (.enter f args) w
structure AM (P:Program)(f:FuncId)(args:List AV)(c0:List (Nat×List AV))(r:AV)(c1:List (Nat×List AV)):Prop where
 res:resOK r=true
 enters:Enters P f
 calls:∀ (R:RE)(cargs:List Value),R.Start→R.Holds R c0→(∀ c cs,getC c0 c=some cs→∃ b,R.loc c=some b)→RepL R args cargs→Calls P f cargs.toArray R.w fun e w'=>∃ v E',e=.returned v∧E'.w=w'∧Rep E' r v∧After R E'∧R.Holds E' c1
def AC (P:Program) (f:FuncId) (args:List AV) (r:AV):Prop:=AM P f args [] r []
theorem enters_of {P:Program} {f:FuncId} {fn:Func} (hf:P.funcs[f]?=some fn)(hn:(fn.name== "runtime.NumGoroutine")=false)(hb:fn.body.isNone=false):Enters P f:=by
 intro args w
 unfold callFunc
 have hn':¬ (fn.name = "runtime.NumGoroutine"):=by simpa using hn
 have hb':¬ (fn.body=none):=fun e=>by rw[e] at hb;cases hb
 simp[program,Sem.run,Bind.bind,Sem.bind,hf,hn',hb',Pure.pure]
section
variable {P : Program} {R : RE} {N : Nat} {env : Env} {a : Act} {E : RE}
def RE.lend (E:RE)(m:List (Nat×Nat)):RE:=
 { E with B:=fun b=>b<E.w.heap.size∧¬ ∃ k,(lentOf m k).bind E.loc=some b,loc:=fun k=>(lentOf m k).bind E.loc,own:=fun _ _=>False,mloc:=fun _=>none }
def mOK (m:List (Nat×Nat)):Bool:=m.all fun q=>lentAs m q.1==some q.2&&lentOf m q.2==some q.1&&decide (100000≤q.2)
theorem lentAs_mem {m:List (Nat×Nat)} {c k:Nat} (h:lentAs m c=some k):(c,k)∈m:=by
 induction m with
 | nil=>cases h
 | cons q r ih=>
  obtain ⟨c',k'⟩:=q
  simp only[lentAs] at h
  split at h
  ·rename_i e
   injection h with h
   subst e h
   simp
  ·exact List.mem_cons_of_mem _ (ih h)
theorem lentOf_mem {m:List (Nat×Nat)} {c k:Nat} (h:lentOf m k=some c):(c,k)∈m:=by
 induction m with
 | nil=>cases h
 | cons q r ih=>
  obtain ⟨c',k'⟩:=q
  simp only[lentOf] at h
  split at h
  ·rename_i e
   injection h with h
   subst e h
   simp
  ·exact List.mem_cons_of_mem _ (ih h)
theorem lent_iff {m:List (Nat×Nat)} (hm:mOK m=true) {c k:Nat}:lentAs m c=some k↔lentOf m k=some c:=by
 simp only[mOK,List.all_eq_true,Bool.and_eq_true,beq_iff_eq] at hm
 exact ⟨fun h=>(hm _ (lentAs_mem h)).1.2,fun h=>(hm _ (lentOf_mem h)).1.1⟩
theorem lent_lim {m:List (Nat×Nat)} (hm:mOK m=true) {c k:Nat} (h:lentOf m k=some c):100000≤k:=by
 simp only[mOK,List.all_eq_true,Bool.and_eq_true,beq_iff_eq,decide_eq_true_eq] at hm
 exact (hm _ (lentOf_mem h)).2
theorem Inv.glob (h:Inv R N env a E)(hR:R.Start):∀ g∈GS,E.w.cell? ⟨g,0,none⟩= some (.iface (E.G g).1 (.pointer (some (E.G g).2))):=by
 intro g hg
 have:=hR.glob g hg
 have hlt:=World.block_lt_of_cell? R.w _ this
 rw[h.below.cell hlt (hR.globM g hg),this,h.G]
theorem Inv.sent (h:Inv R N env a E)(hR:R.Start):∀ g∈GS,(E.G g).1=GT∧∃ cs ty,E.w.heap[(E.G g).2.block]?=some (.cells cs ty (0,0)):=by
 intro g hg
 obtain ⟨h1,⟨cs,ty,h2⟩,h3⟩:=hR.gsent g hg
 rw[h.G]
 exact ⟨h1,cs,ty,(h.below.block _ (lt_of_heap h2) h3).trans h2⟩
theorem Inv.lentB (h:Inv R N env a E) {m:List (Nat×Nat)} {k:Nat} (hk:(E.lend m).M k):(R.w.heap.size≤k∨R.M k)∧k<E.w.heap.size∧∀ o,¬ E.S k o:=by
 obtain ⟨c,hc⟩:=hk
 obtain ⟨c',_,hb⟩:=Option.bind_eq_some_iff.1 hc
 obtain ⟨h1,h2,_,_,_,_,_,hh,_⟩:=h.locc c' k hb
 exact ⟨h1.imp id fun e=>⟨c',e⟩,(Array.getElem?_eq_some_iff.1 hh).1,h2⟩
theorem Inv.start (h:Inv R N env a E)(hR:R.Start) {m:List (Nat×Nat)} (hm:mOK m=true):(E.lend m).Start:=
 ⟨fun _ _ h=>h,h.Slt,fun b hb=>hb,fun k hk=>(h.lentB hk).2.1,fun k hk=>(h.lentB hk).2.2,fun c c' b h1 h2=>by
  obtain ⟨x,hx,hb⟩:=Option.bind_eq_some_iff.1 h1
  obtain ⟨y,hy,hb'⟩:=Option.bind_eq_some_iff.1 h2
  have:=h.loc1 x y b hb hb'
  subst this
  have e1:=(lent_iff hm).2 hx
  have e2:=(lent_iff hm).2 hy
  rw[e1] at e2
  injection e2,fun c b hb=>by
  obtain ⟨x,hx,_⟩:=Option.bind_eq_some_iff.1 hb
  exact lent_lim hm hx,fun _=>rfl,h.glob hR,fun g hg hk=>by
  have hlt:=World.block_lt_of_cell? R.w _ (hR.glob g hg)
  rcases (h.lentB hk).1 with h1|h1
  ·have:g<R.w.heap.size:=hlt
   omega
  ·exact hR.globM g hg h1,hR.globD.congr fun g hg o hu=>by
  have hlt:g<R.w.heap.size:=lt_of_heap hu
  exact (h.below.block g hlt (hR.globB g hg)).trans hu,fun g hg hk=>by
  obtain ⟨u,hu⟩:=hR.globD.sm g hg
  have hlt:=lt_of_heap hu
  rcases (h.lentB hk).1 with h1|h1
  ·have:g<R.w.heap.size:=hlt
   omega
  ·exact hR.globB g hg h1,fun g hg=>by
  obtain ⟨h1,⟨cs,ty,h2⟩,h3⟩:=hR.gsent g hg
  have h4:(E.lend m).G=R.G:=h.G
  rw[h4]
  refine ⟨h1,⟨cs,ty,(h.below.block _ (lt_of_heap h2) h3).trans h2⟩,fun hk=>?_⟩
  have hlt:=lt_of_heap h2
  rcases (h.lentB hk).1 with h5|h5
  ·omega
  ·exact h3 h5,fun g hg k hk e=>by
  have h4:(E.lend m).G=R.G:=h.G
  rw[h4] at e
  exact hR.gdist g hg k hk e⟩
theorem mapO_rep {E E':RE} {f:AV→Option AV}:∀ {xs ys:List AV} {vs:List Value},(∀ x y v,f x=some y→Rep E x v→Rep E' y v)→mapO f xs=some ys→RepL E xs vs→RepL E' ys vs
 | [],ys,vs,_,h,hr=>by
  simp only[mapO] at h
  injection h with h
  subst h
  simpa only[RepL] using hr
 | x::xs,ys,vs,hf,h,hr=>by
  simp only[mapO] at h
  split at h
  case h_2=>cases h
  rename_i y hy
  split at h
  case h_2=>cases h
  rename_i ys' hys
  injection h with h
  subst h
  simp only[RepL] at hr ⊢
  obtain ⟨v,ws,rfl,h1,h2⟩:=hr
  exact ⟨v,ws,rfl,hf _ _ _ hy h1,mapO_rep hf hys h2⟩
theorem Inv.lend_B (h:Inv R N env a E) {m:List (Nat×Nat)} {b:Nat} (hb:E.B b):(E.lend m).B b:=by
 obtain ⟨h1,h2⟩:=h.Bok b hb
 refine ⟨Nat.lt_of_lt_of_le h1 h.below.size,fun hk=>?_⟩
 rcases (h.lentB hk).1 with h3|h3
 ·omega
 ·exact h2 h3
theorem Inv.ext_callee (h:Inv R N env a E)(m:List (Nat×Nat)):Ext E.bor (E.lend m).bor:=
 ⟨fun _ _ h=>h,fun b hb=>h.lend_B hb,fun _ _ _ _ hc=>hc,fun _ _ _ _ hc=>hc,fun c b hc=>by simp[RE.bor] at hc,fun g τ hg=>(hg:False).elim,rfl,fun c b hc=>by simp[RE.bor] at hc⟩
theorem callee_closed (E:RE)(m:List (Nat×Nat)):(E.lend m).closed=E.closed:=rfl
def chunkV (agg:Bool)(e:Nat):Nat→List Value→List Value
 | 0,_=>[]
 | n+1,l=>(match agg with|true=>.agg (l.take e).toArray|false=>(l.take 1).headD undef)::chunkV agg e n (l.drop e)
theorem chunk_length (g:Bool)(e:Nat):∀ (n:Nat)(l:List AV),(chunk g e n l).length=n
 | 0,l=>rfl
 | n+1,l=>by simp[chunk,chunk_length g e n]
theorem chunk_rep {E:RE} {g:Bool} {e:Nat} (hg:g=true∨e=1):∀ (n:Nat) {l:List AV} {us:List Value},RepL E l us→us.length=n * e→(∀ u∈us,u.oneCell'=true) →
  RepL E (chunk g e n l) (chunkV g e n us)∧flat (chunkV g e n us)=us∧∀ u∈chunkV g e n us,u.cells.size=e
 | 0,l,us,hr,hl,h1=>by
  have:us=[]:=List.eq_nil_of_length_eq_zero (by simpa using hl)
  subst this
  simp [chunk,chunkV,RepL,flat]
 | n+1,l,us,hr,hl,h1=>by
  have hl':us.length=n * e+e:=by rw [hl,Nat.add_mul,Nat.one_mul]
  obtain ⟨k1,k2,k3⟩:=chunk_rep hg n (hr.drop e) (by rw [List.length_drop];omega) fun u hu=>h1 u (List.mem_of_mem_drop hu)
  have hflat:∀ v:Value,flat (v::chunkV g e n (us.drop e))=v.cells.toList++us.drop e:=by intro v;show v.cells.toList++flat (chunkV g e n (us.drop e))=_;rw [k2]
  cases g with
  | true=>
   refine ⟨?_,?_,?_⟩
   ·simp only [chunk,chunkV,RepL]
    exact ⟨_,_,rfl,by simp only [Rep];exact ⟨_,rfl,hr.take e⟩,k1⟩
   ·simp only [chunkV]
    rw [hflat]
    simp [Value.cells]
   ·intro u hu
    simp only [chunkV] at hu
    rcases List.mem_cons.1 hu with rfl | hu
    ·simp [Value.cells];omega
    ·exact k3 u hu
  | false=>
   have he:e=1:=by simpa using hg
   subst he
   cases us with
   | nil=>simp at hl'
   | cons u us=>
    cases l with
    | nil=>simp [RepL] at hr
    | cons x xs=>
     simp only [RepL] at hr
     obtain ⟨v,ws,he,hx,hxs⟩:=hr
     injection he with e1 e2
     subst e1 e2
     have hu1:u.cells=#[u]:=cells_one (h1 u (by simp))
     refine ⟨?_,?_,?_⟩
     ·simp only [chunk,chunkV,RepL,List.take_succ_cons,List.headD_cons]
      exact ⟨_,_,rfl,hx,k1⟩
     ·simp only [chunkV,List.take_succ_cons,List.headD_cons]
      rw [hflat,hu1]
      simp
     ·intro w hw
      simp only [chunkV,List.take_succ_cons,List.headD_cons] at hw
      rcases List.mem_cons.1 hw with rfl | hw
      ·rw [hu1];rfl
      ·exact k3 w hw
theorem lower_rep (h:Inv R N env a E) {m:List (Nat × Nat)} (hm:mOK m=true):∀ (n:Nat) {x y:AV} {v:Value},lowerM m env.c n x=some y→Rep E x v→Rep (E.lend m) y v
 | 0,x,y,v,hl,hr=>by simp [lowerM] at hl
 | n+1,x,y,v,hl,hr=>by
  have ih:∀ x y v,lowerM m env.c n x=some y→Rep E x v→Rep (E.lend m) y v:=fun x y v=>lower_rep h hm n
  cases x with
  | lit u=>simp only [lowerM] at hl;injection hl with hl;subst hl;simpa only [Rep] using hr
  | gl i=>simp only [lowerM] at hl;injection hl with hl;subst hl;simp only [Rep] at hr ⊢;exact hr
  | gp g=>simp only [lowerM] at hl;injection hl with hl;subst hl;simpa only [Rep] using hr
  | dead=>simp only [lowerM] at hl;injection hl with hl;subst hl;simp only [Rep]
  | mp k vs=>simp only [lowerM] at hl;injection hl with hl;subst hl;simp only [Rep,callee_closed] at hr ⊢;exact hr
  | rp cs=>simp only [lowerM] at hl;injection hl with hl;subst hl;simp only [Rep,callee_closed] at hr ⊢;exact hr
  | tup cs=>simp [lowerM] at hl
  | mu c k vs=>simp [lowerM] at hl
  | mf c al=>simp [lowerM] at hl
  | bp cs=>
   simp only [lowerM] at hl
   injection hl with hl
   subst hl
   simp only [Rep] at hr ⊢
   obtain ⟨b,o,vs,rfl,h1,h2⟩:=hr
   exact ⟨b,o,vs,rfl,h1.mono (h.ext_callee m),h2.mono (fun b o hb=>h.lend_B hb) fun _ _ _ _ hc=>hc⟩
  | sl t e rows=>
   simp only [lowerM] at hl
   injection hl with hl
   subst hl
   simp only [Rep,callee_closed] at hr ⊢
   obtain ⟨A,cap,vs,rfl,hcap,hrr,he,ho,ht⟩:=hr
   refine ⟨A,cap,vs,rfl,hcap,hrr,he,ho,?_⟩
   cases t with
   | none=>exact ht
   | nil=>exact ht
   | bor=>
    intro hne
    obtain ⟨b,o,hA,hat⟩:=ht hne
    exact ⟨b,o,hA,hat.mono (fun b o hb=>h.lend_B hb) fun _ _ _ _ hc=>hc⟩
   | own τ=>
    intro hne
    rcases ht with ⟨_,h0⟩ | ⟨g,cur,ty,hA,hat,_⟩
    ·exact absurd (List.eq_nil_of_length_eq_zero (by omega)) hne
    ·exact ⟨g,0,hA,hat⟩
   | gone=>trivial
   | fr τ=>
    intro hne
    rcases ht with ⟨h0,_⟩ | ⟨g,cur,ty,hA,hat,_,_,_,hn,_⟩
    ·exact absurd h0 hne
    ·have hlt:=(h.ownlt g τ hn).2
     refine ⟨g,0,hA,fun j u hj=>⟨⟨hlt,?_⟩,(hat j u hj).2⟩⟩
     rintro ⟨k,hk⟩
     obtain ⟨c,_,hb⟩:=Option.bind_eq_some_iff.1 hk
     exact (h.locc c g hb).2.2.1 τ hn
  | agg cs=>
   simp only [lowerM] at hl
   split at hl
   ·rename_i l hml
    injection hl with hl
    subst hl
    simp only [Rep] at hr ⊢
    obtain ⟨vs,rfl,hr⟩:=hr
    exact ⟨vs,rfl,mapO_rep ih hml hr⟩
   ·cases hl
  | clo f p q=>
   simp only [lowerM] at hl
   split at hl
   ·rename_i l hml
    split at hl
    ·rename_i m hmm
     injection hl with hl
     subst hl
     simp only [Rep] at hr ⊢
     obtain ⟨fs,cs,rfl,h1,h2⟩:=hr
     exact ⟨fs,cs,rfl,mapO_rep ih hml h1,mapO_rep ih hmm h2⟩
    ·cases hl
   ·cases hl
  | ifc t u=>
   simp only [lowerM] at hl
   split at hl
   ·rename_i l hml
    injection hl with hl
    subst hl
    simp only [Rep] at hr ⊢
    obtain ⟨w,rfl,h1⟩:=hr
    exact ⟨w,rfl,ih _ _ _ hml h1⟩
   ·cases hl
  | ml c o len cap g e=>
   simp only [lowerM] at hl
   simp only [Rep] at hr
   obtain ⟨b,hb,rfl⟩:=hr
   split at hl
   ·rename_i k hk
    injection hl with hl
    subst hl
    simp only [Rep]
    refine ⟨b,?_,rfl⟩
    show (lentOf m k).bind E.loc=some b
    rw [(lent_iff hm).1 hk]
    exact hb
   ·rename_i hk
    split at hl
    ·rename_i cs hcs
     split at hl
     ·rename_i hcond
      split at hl
      ·rename_i l hml
       injection hl with hl
       subst hl
       obtain ⟨h1,h2,h3,cs',vals,ty,hcs',hh,hrr,ho⟩:=h.locc c b hb
       rw [hcs] at hcs'
       injection hcs' with hcs'
       subst hcs'
       have hrl:=hrr.length
       have hq:RepL E.closed l ((vals.toList.drop o).take (len * e)):=mapO_rep (fun x y v hx hr=>close_rep h hx hr) hml ((hrr.drop o).take _)
       obtain ⟨k1,k2,k3⟩:=chunk_rep hcond.2.2 len hq (by rw [List.length_take,List.length_drop];omega) fun u hu=>ho u (List.mem_of_mem_drop (List.mem_of_mem_take hu))
       simp only [Rep,callee_closed]
       refine ⟨_,cap,_,by rw [chunk_length],by rw [chunk_length];exact hcond.2.1,k1,k3,fun u hu=>?_,fun _=>⟨b,o,rfl,?_⟩⟩
       ·rw [k2] at hu
        exact ho u (List.mem_of_mem_drop (List.mem_of_mem_take hu))
       ·rw [k2]
        intro j u hj
        refine ⟨⟨lt_of_heap hh,?_⟩,?_⟩
        ·rintro ⟨k,hkb⟩
         obtain ⟨c',hc',hb'⟩:=Option.bind_eq_some_iff.1 hkb
         have:=h.loc1 c c' b hb hb'
         subst this
         rw [(lent_iff hm).2 hc'] at hk
         cases hk
        ·rw [List.getElem?_take] at hj
         split at hj
         ·rw [List.getElem?_drop] at hj
          show E.w.cell? _=_
          simp [World.cell?,hh]
          simpa using hj
         ·cases hj
      ·cases hl
     ·cases hl
    ·cases hl
  | lp c o=>
   simp only [lowerM] at hl
   simp only [Rep] at hr
   obtain ⟨b,hb,rfl⟩:=hr
   split at hl
   ·rename_i k hk
    injection hl with hl
    subst hl
    simp only [Rep]
    refine ⟨b,?_,rfl⟩
    show (lentOf m k).bind E.loc=some b
    rw [(lent_iff hm).1 hk]
    exact hb
   ·rename_i hk
    split at hl
    ·rename_i cs hcs
     split at hl
     ·rename_i l hml
      injection hl with hl
      subst hl
      obtain ⟨h1,h2,h3,cs',vals,ty,hcs',hh,hrr,_⟩:=h.locc c b hb
      rw [hcs] at hcs'
      injection hcs' with hcs'
      subst hcs'
      simp only [Rep]
      refine ⟨b,o,vals.toList.drop o,rfl,?_,fun j u hj=>⟨⟨lt_of_heap hh,?_⟩,?_⟩⟩
      ·cases m with
       | nil=>exact mapO_rep ih hml (hrr.drop o)
       | cons q r=>exact (mapO_rep (E':=E.closed) (fun x y v hx hr=>close_rep h hx hr) hml (hrr.drop o)).mono ((Ext.closed_bor (E.lend (q::r))))
      ·rintro ⟨k,hkb⟩
       obtain ⟨c',hc',hb'⟩:=Option.bind_eq_some_iff.1 hkb
       have:=h.loc1 c c' b hb hb'
       subst this
       rw [(lent_iff hm).2 hc'] at hk
       cases hk
      ·rw [List.getElem?_drop] at hj
       show E.w.cell? _=_
       simp [World.cell?,hh]
       simpa using hj
     ·cases hl
    ·cases hl
mutual
theorem retag_rep {E E':RE} (d:Nat)(hx:Ext E.closed E'.closed)(ho:∀ g τ,E.own g τ→E'.own g (d::τ))(hw:E'.w=E.w)(hS:E'.S=E.S)(hG:E'.G=E.G)(hl:∀ c b,E.loc c=some b→E'.loc c=some b):∀ {x:AV} {v:Value},resOK x=true→Rep E x v→Rep E' (retag d x) v
 | .lit u,v,_,h=>by simpa only[retag,Rep] using h
 | .gl i,v,_,h=>by simp only[retag,Rep] at h ⊢;rw[hG];exact h
 | .mp k vs,v,_,h=>by
  simp only[retag]
  simp only[Rep] at h ⊢
  obtain ⟨b,es,ck,vs',rfl,hh,hs,hk,hv,hr⟩:=h
  exact ⟨b,es,ck,vs',rfl,by rw[hw];exact hh,by rw[hS];exact hs,hk,hv,hr.mono hx⟩
 | .rp cs,v,_,h=>by
  simp only[retag]
  simp only[Rep] at h ⊢
  obtain ⟨b,o,vs,rfl,hr,hat⟩:=h
  exact ⟨b,o,vs,rfl,hr.mono hx,by rw[hw,hS];exact hat⟩
 | .sl .none e rows,v,_,h=>by
  simp only[retag]
  simp only[Rep] at h ⊢
  obtain ⟨A,cap,vs,rfl,hcap,hr,he,h1,ht⟩:=h
  exact ⟨A,cap,vs,rfl,hcap,hr.mono hx,he,h1,by rw[hw,hS];exact ht⟩
 | .sl .nil e rows,v,_,h=>by
  simp only[retag]
  simp only[Rep] at h ⊢
  obtain ⟨A,cap,vs,rfl,hcap,hr,he,h1,ht⟩:=h
  exact ⟨A,cap,vs,rfl,hcap,hr.mono hx,he,h1,ht⟩
 | .sl .bor e rows,v,hk,h=>by simp[resOK] at hk
 | .sl (.own τ) e rows,v,_,h=>by
  simp only[retag]
  simp only[Rep] at h ⊢
  obtain ⟨A,cap,vs,rfl,hcap,hr,he,h1,ht⟩:=h
  refine ⟨A,cap,vs,rfl,hcap,hr.mono hx,he,h1,?_⟩
  rcases ht with ht|⟨g,cur,ty,ha,hat,hh,hm,hc,hown,hs⟩
  ·exact .inl ht
  ·exact .inr ⟨g,cur,ty,ha,by rw[hw,hS];exact hat,by rw[hw];exact hh,hm,hc,ho g τ hown,by rw[hS];exact hs⟩
 | .sl .gone e rows,v,_,h=>by
  simp only[retag]
  simp only[Rep] at h ⊢
  obtain ⟨A,cap,vs,rfl,hcap,hr,he,h1,ht⟩:=h
  exact ⟨A,cap,vs,rfl,hcap,hr.mono hx,he,h1,trivial⟩
 | .sl (.fr τ) e rows,v,_,h=>by
  simp only[retag]
  simp only[Rep] at h ⊢
  obtain ⟨A,cap,vs,rfl,hcap,hr,he,h1,ht⟩:=h
  refine ⟨A,cap,vs,rfl,hcap,hr.mono hx,he,h1,?_⟩
  rcases ht with ht|⟨g,cur,ty,ha,hat,hh,hm,hc,hown,hs,h2⟩
  ·exact .inl ht
  ·exact .inr ⟨g,cur,ty,ha,by rw[hw];exact hat,by rw[hw];exact hh,hm,hc,ho g τ hown,by rw[hS];exact hs,h2⟩
 | .mu τ k vs,v,hk,h=>by simp[resOK] at hk
 | .mf τ al,v,_,h=>by
  simp only[retag]
  simp only[Rep] at h ⊢
  obtain ⟨b,rfl,h⟩:=h
  refine ⟨b,rfl,fun e=>?_⟩
  obtain ⟨hh,hown,hs⟩:=h e
  exact ⟨by rw[hw];exact hh,ho b τ hown,by rw[hS];exact hs⟩
 | .agg cs,v,hk,h=>by
  simp only[resOK] at hk
  simp only[retag,Rep] at h ⊢
  obtain ⟨vs,rfl,h⟩:=h
  exact ⟨vs,rfl,retagL_rep d hx ho hw hS hG hl hk h⟩
 | .tup cs,v,hk,h=>by
  simp only[resOK] at hk
  simp only[retag,Rep] at h ⊢
  obtain ⟨vs,rfl,h⟩:=h
  exact ⟨vs,rfl,retagL_rep d hx ho hw hS hG hl hk h⟩
 | .ifc t x,v,hk,h=>by
  simp only[resOK] at hk
  simp only[retag,Rep] at h ⊢
  obtain ⟨u,rfl,h⟩:=h
  exact ⟨u,rfl,retag_rep d hx ho hw hS hG hl hk h⟩
 | .bp cs,v,hk,h=>by simp[resOK] at hk
 | .lp c o,v,hk,h=>by
  simp only[retag,Rep] at h ⊢
  obtain ⟨b,hb,rfl⟩:=h
  exact ⟨b,hl _ _ hb,rfl⟩
 | .ml c o n k g e,v,hk,h=>by
  simp only[retag,Rep] at h ⊢
  obtain ⟨b,hb,rfl⟩:=h
  exact ⟨b,hl _ _ hb,rfl⟩
 | .clo f p q,v,hk,h=>by
  simp only[resOK,Bool.and_eq_true] at hk
  simp only[retag,Rep] at h ⊢
  obtain ⟨fs,cs,rfl,h1,h2⟩:=h
  exact ⟨fs,cs,rfl,retagL_rep d hx ho hw hS hG hl hk.1 h1,retagL_rep d hx ho hw hS hG hl hk.2 h2⟩
 | .gp g,v,hk,h=>by simp[resOK] at hk
 | .dead,v,hk,h=>by simp only[retag,Rep]
theorem retagL_rep {E E':RE} (d:Nat)(hx:Ext E.closed E'.closed)(ho:∀ g τ,E.own g τ→E'.own g (d::τ))(hw:E'.w=E.w)(hS:E'.S=E.S)(hG:E'.G=E.G)(hl:∀ c b,E.loc c=some b→E'.loc c=some b):∀ {xs:List AV} {vs:List Value},resOKL xs=true→RepL E xs vs→RepL E' (retagL d xs) vs
 | [],vs,_,h=>by simpa only[retagL,RepL] using h
 | x::xs,vs,hk,h=>by
  simp only[resOKL,Bool.and_eq_true] at hk
  simp only[retagL,RepL] at h ⊢
  obtain ⟨v,ws,rfl,h1,h2⟩:=h
  exact ⟨v,ws,rfl,retag_rep d hx ho hw hS hG hl hk.1 h1,retagL_rep d hx ho hw hS hG hl hk.2 h2⟩
end
def RE.setL (E:RE)(L:Nat→Option Nat):RE:={ E with loc:=L }
theorem setL_closed (E:RE)(L:Nat→Option Nat):(E.setL L).closed=E.closed:=rfl
theorem setL_bor (E:RE)(L:Nat→Option Nat):(E.setL L).bor=E.bor:=rfl
mutual
theorem unlend_rep {E:RE} (m:List (Nat × Nat)) {L:Nat→Option Nat} (hl:∀ k b,E.loc k=some b→∃ c,lentOf m k=some c∧L c=some b):∀ {x:AV} {v:Value},Rep E x v→Rep (E.setL L) (unlend m x) v
 | .lit u,v,h=>by simpa only [unlend,Rep] using h
 | .gl i,v,h=>by simp only [unlend,Rep] at h ⊢;exact h
 | .gp i,v,h=>by simpa only [unlend,Rep] using h
 | .mp k vs,v,h=>by simp only [unlend];simp only [Rep,setL_closed] at h ⊢;exact h
 | .mu t k vs,v,h=>by simp only [unlend];simp only [Rep,setL_closed] at h ⊢;exact h
 | .rp cs,v,h=>by simp only [unlend];simp only [Rep,setL_closed] at h ⊢;exact h
 | .bp cs,v,h=>by simp only [unlend];simp only [Rep,setL_bor] at h ⊢;exact h
 | .sl .none e rows,v,h=>by simp only [unlend];simp only [Rep,setL_closed] at h ⊢;exact h
 | .sl .nil e rows,v,h=>by simp only [unlend];simp only [Rep,setL_closed] at h ⊢;exact h
 | .sl .bor e rows,v,h=>by simp only [unlend];simp only [Rep,setL_closed] at h ⊢;exact h
 | .sl (.own τ) e rows,v,h=>by simp only [unlend];simp only [Rep,setL_closed] at h ⊢;exact h
 | .sl (.fr τ) e rows,v,h=>by simp only [unlend];simp only [Rep,setL_closed] at h ⊢;exact h
 | .sl .gone e rows,v,h=>by simp only [unlend];simp only [Rep,setL_closed] at h ⊢;exact h
 | .mf t al,v,h=>by simp only [unlend];simp only [Rep] at h ⊢;exact h
 | .lp k o,v,h=>by
  simp only [Rep] at h
  obtain ⟨b,hb,rfl⟩:=h
  obtain ⟨c,hc,hc'⟩:=hl _ _ hb
  simp only [unlend,hc,Rep]
  exact ⟨b,hc',rfl⟩
 | .ml k o n q g e,v,h=>by
  simp only [Rep] at h
  obtain ⟨b,hb,rfl⟩:=h
  obtain ⟨c,hc,hc'⟩:=hl _ _ hb
  simp only [unlend,hc,Rep]
  exact ⟨b,hc',rfl⟩
 | .agg cs,v,h=>by
  simp only [unlend,Rep] at h ⊢
  obtain ⟨vs,rfl,h⟩:=h
  exact ⟨vs,rfl,unlendL_rep m hl h⟩
 | .tup cs,v,h=>by
  simp only [unlend,Rep] at h ⊢
  obtain ⟨vs,rfl,h⟩:=h
  exact ⟨vs,rfl,unlendL_rep m hl h⟩
 | .clo f p q,v,h=>by
  simp only [unlend,Rep] at h ⊢
  obtain ⟨fs,cs,rfl,h1,h2⟩:=h
  exact ⟨fs,cs,rfl,unlendL_rep m hl h1,unlendL_rep m hl h2⟩
 | .ifc t x,v,h=>by
  simp only [unlend,Rep] at h ⊢
  obtain ⟨u,rfl,h⟩:=h
  exact ⟨u,rfl,unlend_rep m hl h⟩
 | .dead,v,h=>by simp only [unlend,Rep]
theorem unlendL_rep {E:RE} (m:List (Nat × Nat)) {L:Nat→Option Nat} (hl:∀ k b,E.loc k=some b→∃ c,lentOf m k=some c∧L c=some b):∀ {xs:List AV} {vs:List Value},RepL E xs vs→RepL (E.setL L) (unlendL m xs) vs
 | [],vs,h=>by simpa only [unlendL,RepL] using h
 | x::xs,vs,h=>by
  simp only [unlendL,RepL] at h ⊢
  obtain ⟨v,ws,rfl,h1,h2⟩:=h
  exact ⟨v,ws,rfl,unlend_rep m hl h1,unlendL_rep m hl h2⟩
end
mutual
theorem resOK_unlend (m:List (Nat×Nat)):∀ {x:AV},resOK x=true→resOK (unlend m x)=true
 | .lit u,h=>h
 | .gl i,h=>h
 | .gp i,h=>h
 | .mp k vs,h=>h
 | .mu t k vs,h=>h
 | .mf t al,h=>h
 | .rp cs,h=>h
 | .bp cs,h=>h
 | .sl t e rows,h=>h
 | .lp k o,h=>by simp only[unlend];split<;>rfl
 | .ml k o n q g e,h=>by simp only[unlend];split<;>rfl
 | .agg cs,h=>by simp only[unlend,resOK] at h ⊢;exact resOKL_unlend m h
 | .tup cs,h=>by simp only[unlend,resOK] at h ⊢;exact resOKL_unlend m h
 | .clo f p q,h=>by simp only[unlend,resOK,Bool.and_eq_true] at h ⊢;exact ⟨resOKL_unlend m h.1,resOKL_unlend m h.2⟩
 | .ifc t x,h=>by simp only[unlend,resOK] at h ⊢;exact resOK_unlend m h
 | .dead,h=>h
theorem resOKL_unlend (m:List (Nat×Nat)):∀ {xs:List AV},resOKL xs=true→resOKL (unlendL m xs)=true
 | [],h=>h
 | x::xs,h=>by simp only[unlendL,resOKL,Bool.and_eq_true] at h ⊢;exact ⟨resOK_unlend m h.1,resOKL_unlend m h.2⟩
end
def lentC (m:List (Nat×Nat))(C:Nat→Option (List AV)):Option (List (Nat×List AV)):=mapO (fun q=>match C q.1 with
 | some cs=>match mapO closeV cs with
  | some l=>some (q.2,l)
  | none=>none
 | none=>none) m
def backC (m:List (Nat×Nat))(c1:List (Nat×List AV))(env:Env):Env:=⟨env.s,fun c=>match lentAs m c with
 | some k=>(match env.c c with
  | some _=>getC c1 k
  | none=>none)
 | none=>env.c c⟩
theorem lentC_get {C:Nat→Option (List AV)}:∀ {m:List (Nat × Nat)} {c0:List (Nat × List AV)},lentC m C=some c0 →
  (∀ c k,(c,k)∈m→lentOf m k=some c→∃ cs l,C c=some cs∧mapO closeV cs=some l∧getC c0 k=some l)∧∀ k l,getC c0 k=some l→∃ c,lentOf m k=some c
 | [],c0,h=>by
  simp only [lentC,mapO] at h
  injection h with h
  subst h
  exact ⟨fun c k hm=>by simp at hm,fun k l h=>by simp [getC] at h⟩
 | (c',k')::m,c0,h=>by
  simp only [lentC,mapO] at h
  split at h
  case h_2=>cases h
  rename_i y hy
  split at h
  case h_2=>cases h
  rename_i ys hys
  injection h with h
  subst h
  split at hy
  case h_2=>cases hy
  rename_i cs hcs
  split at hy
  case h_2=>cases hy
  rename_i l hl
  injection hy with hy
  subst hy
  obtain ⟨ih1,ih2⟩:=lentC_get (m:=m) (c0:=ys) hys
  refine ⟨fun c k hmem hof=>?_,fun k x hx=>?_⟩
  ·simp only [lentOf] at hof
   simp only [getC]
   split at hof
   ·rename_i e
    injection hof with hof
    subst hof
    exact ⟨cs,l,hcs,hl,by rw [if_pos e]⟩
   ·rename_i e
    obtain ⟨cs2,l2,e1,e2,e3⟩:=ih1 c k (lentOf_mem hof) hof
    exact ⟨cs2,l2,e1,e2,by rw [if_neg e];exact e3⟩
  ·simp only [getC] at hx
   simp only [lentOf]
   split at hx
   ·rename_i e;exact ⟨c',by rw [if_pos e]⟩
   ·rename_i e
    obtain ⟨c,hc⟩:=ih2 k x hx
    exact ⟨c,by rw [if_neg e];exact hc⟩
theorem Inv.holds (h:Inv R N env a E) {m:List (Nat × Nat)} (hm:mOK m=true) {c0:List (Nat × List AV)} (hc:lentC m env.c=some c0) :
  (E.lend m).Holds (E.lend m) c0∧∀ k cs,getC c0 k=some cs→∃ b,(E.lend m).loc k=some b:=by
 obtain ⟨g1,g2⟩:=lentC_get hc
 refine ⟨fun k b hb=>?_,fun k cs hk=>?_⟩
 ·obtain ⟨c,hc',hb'⟩:=Option.bind_eq_some_iff.1 hb
  obtain ⟨cs,l,e1,e2,e3⟩:=g1 c k (lentOf_mem hc') hc'
  obtain ⟨_,_,_,cs',vals,ty,hcs',hh,hrr,ho⟩:=h.locc c b hb'
  rw [e1] at hcs'
  injection hcs' with hcs'
  subst hcs'
  exact ⟨l,vals,ty,e3,hh,mapO_rep (E':=E.closed) (fun x y v hx hr=>close_rep h hx hr) e2 hrr,ho⟩
 ·obtain ⟨c,hc'⟩:=g2 k cs hk
  obtain ⟨cs',l,e1,_,_⟩:=g1 c k (lentOf_mem hc') hc'
  obtain ⟨b,hb⟩:=h.locd c cs' e1
  exact ⟨b,by show (lentOf m k).bind E.loc=some b;rw [hc'];exact hb⟩
theorem Inv.afterCall (h:Inv R N env a E) {m:List (Nat × Nat)} (hm:mOK m=true) {c0 c1:List (Nat × List AV)} (hc0:lentC m env.c=some c0) {E1:RE} (ha:After (E.lend m) E1) (hh1:(E.lend m).Holds E1 c1) (d:Nat) {r:AV} {v:Value} (hk:resOK r=true)
  (hr:Rep (E1.setL E.loc) r v) :
  ∃ E',E'.w=E1.w∧Inv R N (backC m c1 env) a E'∧Rep E' (retag d r) v:=by
 let E':RE:={ E with w:=E1.w,S:=E1.S,own:=fun g t=>E.own g t∨∃ τ,t=d::τ∧E1.own g τ }
 have hsz:E.w.heap.size≤E1.w.heap.size:=ha.below.size
 have hold:∀ b,b<E.w.heap.size→¬ (E.lend m).M b→E1.w.heap[b]?=E.w.heap[b]?:=ha.below.block
 have hS0:∀ b o,b<E.w.heap.size→(E1.S b o ↔ E.S b o):=ha.S0
 have hownlt:∀ g τ,E1.own g τ→E.w.heap.size≤g∧g<E1.w.heap.size:=ha.ownlt
 have hSM:∀ b o,E.S b o→¬ (E.lend m).M b:=fun b o hs hM=>(h.lentB hM).2.2 o hs
 have hBM:∀ b,E.B b→¬ (E.lend m).M b:=fun b hb=>(h.lend_B (m:=m) hb).2
 have hownM:∀ g τ,E.own g τ→¬ (E.lend m).M g:=fun g τ hg ⟨k,hk⟩=>by
  obtain ⟨c,_,hb⟩:=Option.bind_eq_some_iff.1 hk
  exact (h.locc c g hb).2.2.1 τ hg
 have hmlM:∀ t b,E.mloc t=some b→¬ (E.lend m).M b:=fun t b hb ⟨k,hk⟩=>by
  obtain ⟨c,_,hb'⟩:=Option.bind_eq_some_iff.1 hk
  exact (h.mlocc t b hb).2.2.2.2 c hb'
 have hx:Ext E E':=by
  refine ⟨fun b o hs=>(hS0 b o (h.Slt b o hs)).2 hs,fun _ hb=>hb,fun b o u hb hc=>?_,fun b es ck hb hc=>?_,fun c b hc=>hc,fun g τ hg=>⟨.inl hg,?_,fun o hs=>?_⟩,rfl,fun t b hb=>⟨?_,?_⟩⟩
  ·have hlt:b<E.w.heap.size:=hb.elim (h.Slt b o) fun hb=>Nat.lt_of_lt_of_le (h.Bok b hb).1 h.below.size
   have hnM:¬ (E.lend m).M b:=hb.elim (hSM b o) (hBM b)
   show E1.w.cell? _=_
   simp only [World.cell?,hold b hlt hnM]
   exact hc
  ·exact (hold b (h.Slt b 0 hb) (hSM b 0 hb)).trans hc
  ·exact hold g (h.ownlt g τ hg).2 (hownM g τ hg)
  ·exact (hS0 g o (h.ownlt g τ hg).2).1 hs
  ·exact hb
  ·exact hold b (h.mlocc t b hb).2.1 (hmlM t b hb)
 have hxc:Ext (E1.setL E.loc).closed E'.closed:=⟨fun _ _ h=>h,fun _ h=>h,fun _ _ _ _ hc=>hc,fun _ _ _ _ hc=>hc,fun c b hc=>by simp [RE.closed] at hc,fun g τ hg=>(hg:False).elim,ha.G.symm,fun c b hc=>by simp [RE.closed] at hc⟩
 have hxc1:Ext E1.closed E'.closed:=hxc
 have hbel:BelowX R.M R.w E1.w:=⟨ha.below.os.trans h.below.os,ha.below.tape.trans h.below.tape,ha.below.output.trans h.below.output,Nat.le_trans h.below.size hsz,fun k hk hM=>by
  rw [hold k (Nat.lt_of_lt_of_le hk h.below.size) (fun hM'=>by
   rcases (h.lentB hM').1 with h1 | h1
   ·omega
   ·exact hM h1)]
  exact h.below.block k hk hM⟩
 refine ⟨E',rfl,⟨h.defers,h.Nlim,h.lentl,h.size,h.B,h.Bok,hbel,h.Mlt,fun k hk o hs=>?_,h.par,h.G,fun b o hb=>?_,ha.Slt,fun g t ht=>?_,fun g t t' h1 h2=>?_,fun c b hb=>?_,fun c cs hc=>?_,h.loc1,fun t b hb=>?_,h.mloc1,fun k=>(h.slots k).mono hx⟩,?_⟩
 ·exact h.MS k hk o ((hS0 k o (Nat.lt_of_lt_of_le (h.Mlt k hk) h.below.size)).1 hs)
 ·have:=h.below.size
  rw [← h.S0 b o hb]
  exact hS0 b o (by omega)
 ·rcases ht with ht | ⟨τ,rfl,ht⟩
  ·have:=h.ownlt g t ht;exact ⟨this.1,by show g<E1.w.heap.size;omega⟩
  ·have:=hownlt g τ ht;have:=h.below.size;exact ⟨by omega,by show g<E1.w.heap.size;omega⟩
 ·rcases h1 with h1 | ⟨τ,rfl,h1⟩<;>rcases h2 with h2 | ⟨τ',rfl,h2⟩
  ·exact h.own1 g t t' h1 h2
  ·have:=(h.ownlt g _ h1).2;have:=(hownlt g _ h2).1;omega
  ·have:=(h.ownlt g _ h2).2;have:=(hownlt g _ h1).1;omega
  ·rw [ha.own1 g τ τ' h1 h2]
 ·obtain ⟨h1,h2,h3,cs,vals,ty,hcs,hh,hrr,ho⟩:=h.locc c b hb
  have hlt:=lt_of_heap hh
  have hS':∀ o,¬ E'.S b o:=fun o hs=>h2 o ((hS0 b o hlt).1 hs)
  have hown':∀ t,¬ E'.own b t:=fun t ht=>by
   rcases ht with ht | ⟨τ,rfl,ht⟩
   ·exact h3 t ht
   ·have:=(hownlt b τ ht).1;omega
  cases hl:lentAs m c with
  | some k=>
   have hloc:(E.lend m).loc k=some b:=by
    show (lentOf m k).bind E.loc=some b
    rw [(lent_iff hm).1 hl]
    exact hb
   obtain ⟨cs1,vals1,ty1,e1,e2,e3,e4⟩:=hh1 k b hloc
   exact ⟨h1,hS',hown',cs1,vals1,ty1,by simp only [backC,hl,hcs,e1],e2,(e3.mono hxc1).mono (Ext.closed_le E'),e4⟩
  | none=>
   have hnM:¬ (E.lend m).M b:=by
    rintro ⟨k,hk⟩
    obtain ⟨c',hc',hb'⟩:=Option.bind_eq_some_iff.1 hk
    have:=h.loc1 c c' b hb hb'
    subst this
    rw [(lent_iff hm).2 hc'] at hl
    cases hl
   exact ⟨h1,hS',hown',cs,vals,ty,by simp only [backC,hl,hcs],(hold b hlt hnM).trans hh,hrr.mono hx,ho⟩
 ·simp only [backC] at hc
  split at hc
  ·split at hc
   ·rename_i hcs;exact h.locd c _ hcs
   ·cases hc
  ·exact h.locd c cs hc
 ·obtain ⟨h1,h2,h3,h4,h5⟩:=h.mlocc t b hb
  refine ⟨h1,by show b<E1.w.heap.size;omega,fun o hs=>h3 o ((hS0 b o h2).1 hs),fun t ht=>?_,h5⟩
  rcases ht with ht | ⟨τ,rfl,ht⟩
  ·exact h4 t ht
  ·have:=(hownlt b τ ht).1;omega
 ·exact retag_rep (E:=E1.setL E.loc) (E':=E') d hxc (fun g τ hg=>Or.inr ⟨τ,rfl,hg⟩) rfl rfl ha.G.symm (fun c b hb=>hb) hk hr
theorem Ext.setL_of_none {E1:RE} {L:Nat→Option Nat} (h:∀ c,E1.loc c=none):Ext E1 (E1.setL L):=
 ⟨fun _ _ h=>h,fun _ h=>h,fun _ _ _ _ hc=>hc,fun _ _ _ _ hc=>hc,fun c b hc=>(by rw[h c] at hc;cases hc),fun g τ hg=>⟨hg,rfl,fun _ h=>h⟩,rfl,fun t b hb=>⟨hb,rfl⟩⟩
theorem wp_callM (hI:Inv R N env a E) (hR:R.Start) {o:Oper} {f:FuncId} {cargs:List Value} {args:List AV} {r:AV} {m:List (Nat × Nat)} {c0 c1:List (Nat × List AV)} (hm:mOK m=true) (hc0:lentC m env.c=some c0)
  (hex:(execOp a.eval o).run P E.w=(callFunc f cargs.toArray).run P E.w)
  (hargs:RepL (E.lend m) args cargs) (hac:AM P f args c0 r c1) {K:Act→World→Prop} {Q:Exit→Act→World→Prop}
  (hK:∀ v E',Inv R N (backC m c1 env) a E'→Rep E' (retag (o.dst.getD 0) (unlend m r)) v→K (a.put o.dst v) E'.w):o.wp P a E.w K Q:=by
 unfold Oper.wp
 rw [hex,hac.enters,Oper.upon_enter]
 obtain ⟨hh,hl⟩:=hI.holds hm hc0
 refine (hac.calls (E.lend m) cargs (hI.start hR hm) hh hl hargs).mono ?_
 rintro e w' ⟨v,E1,rfl,rfl,hr,ha,hh1⟩
 have hr2:Rep (E1.setL E.loc) (unlend m r) v:=unlend_rep m (fun k b hb=>by
  have:=ha.loc k b hb
  obtain ⟨c,hc,hb'⟩:=Option.bind_eq_some_iff.1 this
  exact ⟨c,hc,hb'⟩) hr
 obtain ⟨E',hw,hI',hr'⟩:=hI.afterCall hm hc0 ha hh1 (o.dst.getD 0) (resOK_unlend m hac.res) hr2
 have:=hK v E' hI' hr'
 rw [hw] at this
 exact this
theorem wp_callF (hI:Inv R N env a E) (hR:R.Start) {o:Oper} {f:FuncId} {cargs:List Value} {args:List AV} {r:AV} (hex:(execOp a.eval o).run P E.w=(callFunc f cargs.toArray).run P E.w)
  (hargs:RepL (E.lend []) args cargs) (hac:AC P f args r) {K:Act→World→Prop} {Q:Exit→Act→World→Prop}
  (hK:∀ v E',Inv R N env a E'→Rep E' (retag (o.dst.getD 0) r) v→K (a.put o.dst v) E'.w):o.wp P a E.w K Q:=by
 unfold Oper.wp
 rw [hex,AM.enters hac,Oper.upon_enter]
 obtain ⟨hh,hl⟩:=hI.holds (m:=[]) (c0:=[]) rfl rfl
 refine (AM.calls hac (E.lend []) cargs (hI.start hR rfl) hh hl hargs).mono ?_
 rintro e w' ⟨v,E1,rfl,rfl,hr,ha,hh1⟩
 have hr2:Rep (E1.setL E.loc) r v:=hr.mono (Ext.setL_of_none fun c=>by
  cases hc:E1.loc c with
  | none=>rfl
  | some b=>have:=ha.loc c b hc;cases this)
 obtain ⟨E',hw,hI',hr'⟩:=hI.afterCall (m:=[]) rfl rfl ha hh1 (o.dst.getD 0) (AM.res hac) hr2
 have:=hK v E' hI' hr'
 rw [hw] at this
 exact this
end
end Go.Proofs.YtelbgkknneljeaaGreatDoor.VL
end

