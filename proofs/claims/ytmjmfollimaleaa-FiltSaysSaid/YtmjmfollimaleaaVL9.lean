/- The value logic, part 9: stores into local cells; append. -/
import Derived.Test.YtmjmfollimaleaaVL8
set_option linter.unusedVariables false
set_option linter.unusedSimpArgs false
namespace Go.Proofs.Ytmjmfollimaleaa.VL
open Go.RowKit

section
variable {P : Program} {R : RE} {N : Nat} {env : Env} {a : Act} {E : RE}

theorem setRow_size (w : World) (g : Nat) (cs : Array Value) : (w.setRow g cs).heap.size = w.heap.size := by simp [World.setRow]

theorem below_setRow' {B : Nat} {w0 w : World} (h : Below B w0 w) {g : Nat} (hg : B ≤ g) (cs : Array Value) : Below B w0 (w.setRow g cs) :=
  h.trans ⟨rfl, rfl, rfl, by rw [setRow_size]; exact Nat.le_refl _, fun k hk => setRow_other w g k cs (by omega)⟩

theorem belowX_setRow {M : Nat → Prop} {w0 w : World} (h : BelowX M w0 w) {g : Nat} (hg : w0.heap.size ≤ g ∨ M g) (cs : Array Value) : BelowX M w0 (w.setRow g cs) :=
  ⟨h.os, h.tape, h.output, by rw [setRow_size]; exact h.size, fun k hk hm => by
    have hne : k ≠ g := by
      rintro rfl
      rcases hg with hg | hg
      · omega
      · exact hm hg
    rw [setRow_other w g k cs hne]; exact h.block k hk hm⟩

/-- A local cell is written. -/
theorem Inv.setLoc (h : Inv R N env a E) {d b : Nat} (hb : E.loc d = some b) {vals : Array Value} {ty : TypeId} (hh : E.w.heap[b]? = some (.cells vals ty (0, 0))) {cs : List AV} {cur : Array Value}
    (hr : RepL E cs cur.toList) (ho : ∀ u ∈ cur.toList, u.oneCell' = true) :
    Inv R N (env.putc d cs) a { E with w := E.w.setRow b cur } ∧ Ext E { E with w := E.w.setRow b cur } := by
  obtain ⟨hB, hS, hown, _⟩ := h.locc d b hb
  have hx : Ext E { E with w := E.w.setRow b cur } := by
    refine ⟨fun _ _ h => h, fun _ h => h, fun b' o u hs hc => ?_, fun b' es ck hs hc => ?_, fun c b hc => hc, fun g τ hg => ⟨hg, ?_, fun _ h => h⟩, rfl, fun c b' hc => ⟨hc, ?_⟩⟩
    · have hne : b' ≠ b := by
        rintro rfl
        rcases hs with hs | hs
        · exact hS o hs
        · obtain ⟨h1, h2⟩ := h.Bok b' hs
          rcases hB with hB | hB
          · omega
          · exact h2 ⟨d, hB⟩
      have he : (E.w.setRow b cur).heap[b']? = E.w.heap[b']? := setRow_other E.w b b' cur hne
      simp only [World.cell?, he] at hc ⊢
      exact hc
    · have hne : b' ≠ b := by
        rintro rfl
        exact hS 0 hs
      exact (setRow_other E.w b b' cur hne).trans hc
    · have hne : g ≠ b := by
        rintro rfl
        exact hown τ hg
      exact setRow_other E.w b g cur hne
    · have hne : b' ≠ b := by
        rintro rfl
        exact (h.mlocc c b' hc).2.2.2.2 d hb
      exact setRow_other E.w b b' cur hne
  refine ⟨⟨h.defers, h.Nlim, h.lentl, h.size, h.B, h.Bok, belowX_setRow h.below (hB.imp id fun e => ⟨d, e⟩) cur, h.Mlt, h.MS, h.par, h.G, h.S0, fun b o hs => ?_, fun g τ hg => ?_, h.own1, fun c b' hc => ?_, fun c cs' hc => ?_, h.loc1, fun c b' hc => ?_, h.mloc1, fun k => (h.slots k).mono hx⟩, hx⟩
  · rw [setRow_size]; exact h.Slt b o hs
  · rw [setRow_size]; exact h.ownlt g τ hg
  · by_cases hcd : c = d
    · subst hcd
      rw [hb] at hc
      injection hc with hc
      subst hc
      exact ⟨hB, hS, hown, cs, cur, ty, by simp [Env.putc, upd], setRow_heap E.w b vals cur ty (0, 0) hh, hr.mono hx, ho⟩
    · obtain ⟨h1, h2, h3, cs', vals', ty', hcs, hh', hr', ho'⟩ := h.locc c b' hc
      have hne : b' ≠ b := by
        rintro rfl
        exact hcd (h.loc1 c d b' hc hb)
      exact ⟨h1, h2, h3, cs', vals', ty', by simp [Env.putc, upd, hcd, hcs], (setRow_other E.w b b' cur hne).trans hh', hr'.mono hx, ho'⟩
  · simp only [Env.putc, upd] at hc
    split at hc
    · rename_i hcd; rw [hcd]; exact ⟨b, hb⟩
    · exact h.locd c cs' hc
  · obtain ⟨h1, h2, h3⟩ := h.mlocc c b' hc
    exact ⟨h1, by rw [setRow_size]; exact h2, h3⟩

theorem run_storeVar {t : TypeId} {i : TypeInfo} (hi : P.info? t = some i) {w : World} {b o : Nat} {ty : TypeId} {cur : Array Value} (hh : w.heap[b]? = some (.cells cur ty (0, 0))) {v : Value} (hv : v.cells.size = i.size)
    (hl : o + i.size ≤ cur.size) (h1 : ∀ u ∈ v.cells.toList, u.oneCell' = true) :
    (storeVar t ⟨b, o, none⟩ v).run P w = .ok () (w.setRow b (cur.toList.take o ++ v.cells.toList ++ cur.toList.drop (o + i.size)).toArray) := by
  have := run_storeCells_at P b o ty v.cells.toList 0 cur w hh (by simp; omega) h1
  simp only [Nat.add_zero, Array.length_toList, hv] at this
  unfold storeVar
  simp only [Sem.run_bind, run_sizeOf hi, Result.andThen_ok, hv, ne_eq, not_true, if_false]
  simp [Sem.run_bind, Sem.run, this]

def oneL (cs : List AV) : Bool := cs.all AV.one

theorem oneL_spec {cs : List AV} (h : oneL cs = true) : ∀ x ∈ cs, x.one = true := fun x hx => by
  simp only [oneL, List.all_eq_true] at h
  exact h x hx

/-- Store: what it does to an environment. -/
def stepStore (size : Nat) (p x : AV) (env : Env) : Option Env :=
  match p with
  | .lp c o => match env.c c with
    | some cs => if x.row = true then if oneL (cellsOf x) = true then if (cellsOf x).length = size then if o + size ≤ cs.length then some (env.putc c (cs.take o ++ cellsOf x ++ cs.drop (o + size))) else none else none else none else none
    | none => none
  | _ => none

theorem wp_store (hI : Inv R N env a E) {o : Oper} {t : TypeId} {i : TypeInfo} {y z : Operand} (ho : o.op = .store t y z) (hi : P.info? t = some i) {env' : Env} (h : stepStore i.size (env.ev y) (env.ev z) env = some env')
    {K : Act → World → Prop} {Q : Exit → Act → World → Prop} (hK : ∀ E', Inv R N env' a E' → K (a.put o.dst undef) E'.w) : o.wp P a E.w K Q := by
  unfold stepStore at h
  split at h
  · rename_i c off hc
    split at h
    · rename_i cs hcs
      split at h
      case isFalse => cases h
      rename_i hrow
      split at h
      case isFalse => cases h
      rename_i hone
      split at h
      case isFalse => cases h
      rename_i hlen
      split at h
      case isFalse => cases h
      rename_i hle
      injection h with h
      subst h
      have hy := hI.ev y
      have hz := hI.ev z
      rw [hc] at hy
      simp only [Rep] at hy
      obtain ⟨b, hb, he⟩ := hy
      obtain ⟨h1, h2, h3, cs', vals, ty, hcs', hh, hr, ho'⟩ := hI.locc c b hb
      rw [hcs] at hcs'
      injection hcs' with hcs'
      subst hcs'
      have hzc := rep_cells hz (row_or hrow)
      have hzl := hzc.length
      rw [Array.length_toList] at hzl
      have hz1 := repL_one hzc (oneL_spec hone)
      have hrl := hr.length
      rw [Array.length_toList] at hrl
      have hrun := run_storeVar (P := P) hi hh (o := off) (v := a.eval z) (by omega) (by omega) hz1
      have hnew : RepL E (cs.take off ++ cellsOf (env.ev z) ++ cs.drop (off + i.size)) (vals.toList.take off ++ (a.eval z).cells.toList ++ vals.toList.drop (off + i.size)) :=
        ((hr.take off).append hzc).append (hr.drop _)
      have hall : ∀ u ∈ (vals.toList.take off ++ (a.eval z).cells.toList ++ vals.toList.drop (off + i.size)), u.oneCell' = true := by
        intro u hu
        rcases List.mem_append.1 hu with hu | hu
        · rcases List.mem_append.1 hu with hu | hu
          · exact ho' u (List.mem_of_mem_take hu)
          · exact hz1 u hu
        · exact ho' u (List.mem_of_mem_drop hu)
      obtain ⟨hI', _⟩ := hI.setLoc hb hh (cs := cs.take off ++ cellsOf (env.ev z) ++ cs.drop (off + i.size)) (cur := (vals.toList.take off ++ (a.eval z).cells.toList ++ vals.toList.drop (off + i.size)).toArray) (by simpa using hnew) (by simpa using hall)
      unfold Oper.wp
      have hex : (execOp a.eval o).run P E.w = .ok .skip (E.w.setRow b (vals.toList.take off ++ (a.eval z).cells.toList ++ vals.toList.drop (off + i.size)).toArray) := by
        simp [execOp, ho, he, Instr.storeAt, Instr.sureAddr, Sem.run_bind, hrun, Sem.run]
      rw [hex, Oper.upon_skip]
      exact hK _ hI'
    · cases h
  · cases h

/-! ### append -/
theorem run_app_room {t ty e ty' : TypeId} {i : TypeInfo} (ht : P.underlying t = some (.slice e)) (hi : P.info? e = some i) {w : World}
    {g n cap m c : Nat} {B : Option Addr} {cur : Array Value} (hg : w.heap[g]? = some (.cells cur ty' (0, 0))) {news : List Value}
    (hf : (Builtin.firstCells i.size m (.slice B m c)).run P w = .ok news.toArray w) (hl : news.length = m * i.size) (h1 : ∀ u ∈ news, u.oneCell' = true) (hroom : n + m ≤ cap) (hfit : n * i.size + news.length ≤ cur.size) :
    (Builtin.append_ #[t, t] ty #[.slice (some ⟨g, 0, none⟩) n cap, .slice B m c]).run P w =
      .ok (.slice (some ⟨g, 0, none⟩) (n + m) cap) (w.setRow g (cur.toList.take (n * i.size) ++ news ++ cur.toList.drop (n * i.size + news.length)).toArray) := by
  have hst := run_storeCells_at P g (n * i.size) ty' news 0 cur w hg (by simpa using hfit) h1
  simp only [Nat.add_zero] at hst
  simp [Builtin.append_, run_underlying ht, sizeOf, typeInfo, hi, Builtin.lenOf, hroom, hf, Addr.add_lit, hst]

theorem run_app_none {t ty e : TypeId} {i : TypeInfo} (ht : P.underlying t = some (.slice e)) (hi : P.info? e = some i) {w : World} {c : Nat} {B : Option Addr} :
    (Builtin.append_ #[t, t] ty #[.slice none 0 0, .slice B 0 c]).run P w = .ok (.slice none 0 0) w := by
  cases B <;> simp [Builtin.append_, run_underlying ht, sizeOf, typeInfo, hi, Builtin.lenOf, Builtin.firstCells, loadCells, loadCellsFrom]

theorem run_app_grow {t ty e : TypeId} {i : TypeInfo} {z : Value} (ht : P.underlying t = some (.slice e)) (hi : P.info? e = some i) (hz : i.zero = some z) {w : World}
    {n cap m c : Nat} {A B : Option Addr} {olds news : List Value}
    (hfo : (Builtin.firstCells i.size n (.slice A n cap)).run P w.drew = .ok olds.toArray w.drew)
    (hf : (Builtin.firstCells i.size m (.slice B m c)).run P w.drew = .ok news.toArray w.drew) (hg : cap < n + m) (h63 : n + m ≤ 9223372036854775807)
    (hfit : Builtin.nextslicecap (n + m) cap * i.bytes ≤ 281474976710656) :
    (Builtin.append_ #[t, t] ty #[.slice A n cap, .slice B m c]).run P w =
      .ok (.slice (some ⟨w.heap.size, 0, none⟩) (n + m) (grownCap w (n + m) cap e)) (w.drew.alloc (.cells (olds ++ news ++ (Builtin.zeroCells z.cells (grownCap w (n + m) cap e - (n + m))).toList).toArray e)) := by
  have hn : ¬ (n + m ≤ cap) := by omega
  have h63' : ¬ (9223372036854775807 < ((n : Int) + (m : Int))) := by omega
  have h48' : ¬ (281474976710656 < Builtin.nextslicecap (n + m) cap * i.bytes) := by omega
  simp [Builtin.append_, run_underlying ht, sizeOf, typeInfo, zeroValue, hi, hz, Builtin.lenOf, hn, h63', h48', Question.forced, hf, hfo, newRow, grownCap]
  congr 2
  apply Array.ext'
  simp [List.append_assoc]

/-- The first cells of a slice that is read. -/
theorem run_first {E : RE} {tk : Tok} {e : Nat} {rows : List AV} {v : Value} (hgn : goneB tk = false) (h : Rep E (.sl tk e rows) v) :
    ∃ A cap vs, v = .slice A rows.length cap ∧ RepL E.closed rows vs ∧ (∀ u ∈ vs, u.cells.size = e) ∧ (∀ u ∈ flat vs, u.oneCell' = true) ∧
      (Builtin.firstCells e rows.length v).run P E.w = .ok (flat vs).toArray E.w ∧ (Builtin.firstCells e rows.length v).run P E.w.drew = .ok (flat vs).toArray E.w.drew := by
  simp only [Rep] at h
  obtain ⟨A, cap, vs, rfl, hcap, hr, he, h1, ht⟩ := h
  have hl := hr.length
  have hfl := flat_length he
  refine ⟨A, cap, vs, rfl, hr, he, h1, ?_⟩
  by_cases hne : rows = []
  · subst hne
    simp at hl
    subst hl
    cases A <;> simp [Builtin.firstCells, flat, loadCells, loadCellsFrom, Sem.run]
  · have hat : ∃ S b o, A = some ⟨b, o, none⟩ ∧ At E.w S (flat vs) b o := by
      cases tk with
      | none => obtain ⟨b, o, ha, hat⟩ := ht hne; exact ⟨_, b, o, ha, hat⟩
      | bor => obtain ⟨b, o, ha, hat⟩ := ht hne; exact ⟨_, b, o, ha, hat⟩
      | nil => exact absurd (List.eq_nil_of_length_eq_zero (by omega)) hne
      | own τ =>
        rcases ht with ⟨_, h0⟩ | ⟨g, cur, ty, ha, hat, _⟩
        · exact absurd (List.eq_nil_of_length_eq_zero (by omega)) hne
        · exact ⟨_, g, 0, ha, hat⟩
      | fr τ =>
        rcases ht with ⟨h0, _⟩ | ⟨g, cur, ty, ha, hat, _⟩
        · exact absurd h0 hne
        · exact ⟨_, g, 0, ha, hat⟩
      | gone => cases hgn
    obtain ⟨S, b, o, rfl, hat⟩ := hat
    have hlen : (flat vs).length = rows.length * e := by rw [hfl, hl]
    constructor
    · exact run_firstCells_some E.w e rows.length ⟨b, o, none⟩ rows.length cap (flat vs) hlen fun j v hj => by rw [Addr.add_lit]; exact (hat j v hj).2
    · exact run_firstCells_some E.w.drew e rows.length ⟨b, o, none⟩ rows.length cap (flat vs) hlen fun j v hj => by rw [Addr.add_lit]; exact (hat j v hj).2

def tokOf : Tok → Option (List Nat)
  | .own τ => some τ
  | .fr τ => some τ
  | _ => none

/-- append: what it does to an environment. -/
def stepApp (esz bytes : Nat) (d : Nat) (s y : AV) (env : Env) : Option Env :=
  match y with
  | .sl tk' e' rows' =>
    if goneB tk' = false ∧ (e' = esz ∨ rows' = []) then
    match s with
    | .sl (.fr τ) e rows => if e = esz then if rows.length + rows'.length ≤ 4294967296 ∧ bytes ≤ 32768 then some ((env.strip τ).put d (.sl (.fr [d]) esz (rows ++ rows'))) else none else none
    | .sl .nil _ _ => if rows'.length ≤ 4294967296 ∧ bytes ≤ 32768 then some (env.put d (.sl (.own [d]) esz rows')) else none
    | .sl (.own τ) e rows => if e = esz then if rows.length + rows'.length ≤ 4294967296 ∧ bytes ≤ 32768 then some ((env.strip τ).put d (.sl (.own [d]) esz (rows ++ rows'))) else none else none
    | _ => none
    else none
  | _ => none

end
end Go.Proofs.Ytmjmfollimaleaa.VL
