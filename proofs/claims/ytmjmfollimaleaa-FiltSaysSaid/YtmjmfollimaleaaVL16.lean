/- The value logic, part 16: a region that draws its order is walked in the text's. -/
import Derived.Test.YtmjmfollimaleaaVL15
set_option linter.unusedVariables false
set_option linter.unusedSimpArgs false
namespace Go.Proofs.Ytmjmfollimaleaa.VL
open Go.RowKit

def awG (P : Program) (o : AOper) (E : Env) (K : Env → Prop) : Prop :=
  match o.guard with
  | none => awOp P o E K
  | some (s, want) => ∃ t, E.s s = .lit t ∧ (t = .bool want → awOp P o E K) ∧ (t ≠ .bool want → K (E.putO o.dst (.lit undef)))

theorem awOps_cons {P : Program} {o : AOper} {os : List AOper} {E : Env} {K : Env → Prop} : awOps P (o :: os) E K = awG P o E fun E' => awOps P os E' K := by
  cases hg : o.guard with
  | none => simp only [awOps, awG, hg]
  | some p =>
    obtain ⟨s, w⟩ := p
    simp only [awOps, awG, hg]

/-- In a region that draws, a local cell is new. -/
def clean (o : AOper) (E : Env) : Prop := o.cls = .a → ∀ d, o.dst = some d → E.c d = none

def awD (P : Program) (o : AOper) (E : Env) (K : Env → Prop) : Prop := clean o E ∧ awG P o E K

def awOpsD (P : Program) : List AOper → Env → (Env → Prop) → Prop
  | [], E, K => K E
  | o :: os, E, K => awD P o E fun E' => awOpsD P os E' K

def gval (P : Program) (o : AOper) (E : Env) (x : AV) : Prop :=
  match o.guard with
  | none => rel P o.op (o.dst.getD 0) E x
  | some (s, want) => ∃ t, E.s s = .lit t ∧ (t = .bool want → rel P o.op (o.dst.getD 0) E x) ∧ (t ≠ .bool want → x = .lit undef)

theorem awG_val {P : Program} {o : AOper} (h : o.cls = .n ∨ o.cls = .v) {E : Env} {K : Env → Prop} : awG P o E K ↔ ∃ x, gval P o E x ∧ K (E.putO o.dst x) := by
  unfold awG gval
  split
  · exact awOp_val h
  · rename_i s w hg
    constructor
    · rintro ⟨t, ht, h1, h2⟩
      by_cases hw : t = .bool w
      · obtain ⟨x, hx, hk⟩ := (awOp_val h).1 (h1 hw)
        exact ⟨x, ⟨t, ht, fun _ => hx, fun hne => absurd hw hne⟩, hk⟩
      · exact ⟨.lit undef, ⟨t, ht, fun e => absurd e hw, fun _ => rfl⟩, h2 hw⟩
    · rintro ⟨x, ⟨t, ht, h1, h2⟩, hk⟩
      refine ⟨t, ht, fun hw => (awOp_val h).2 ⟨x, h1 hw, hk⟩, fun hw => ?_⟩
      rw [h2 hw] at hk
      exact hk

theorem reads_op {o : AOper} {k : Nat} (h : k ∈ opSlots (opnds o.op)) : k ∈ o.reads := List.mem_append_left _ h

theorem reads_guard {o : AOper} {s : Nat} {w : Bool} (h : o.guard = some (s, w)) : s ∈ o.reads := by
  unfold AOper.reads
  rw [h]
  simp

theorem gval_mono {P : Program} {o : AOper} {E E' : Env} {x : AV} (hs : ∀ k ∈ o.reads, E'.s k = E.s k) (hc : ∀ k v, E.c k = some v → E'.c k = some v) (h : gval P o E x) : gval P o E' x := by
  unfold gval at h ⊢
  split at h
  · rename_i hg
    exact rel_mono (fun k hk => hs k (reads_op hk)) hc h
  · rename_i s w hg
    obtain ⟨t, ht, h1, h2⟩ := h
    exact ⟨t, by rw [hs s (reads_guard hg)]; exact ht, fun hw => rel_mono (fun k hk => hs k (reads_op hk)) hc (h1 hw), h2⟩

theorem gval_n {P : Program} {o : AOper} (ho : o.cls = .n) {E E' : Env} {x : AV} (hs : ∀ k ∈ o.reads, E'.s k = E.s k) (h : gval P o E x) : gval P o E' x := by
  unfold gval at h ⊢
  split at h
  · rename_i hg
    exact rel_n ho (fun k hk => hs k (reads_op hk)) h
  · rename_i s w hg
    obtain ⟨t, ht, h1, h2⟩ := h
    exact ⟨t, by rw [hs s (reads_guard hg)]; exact ht, fun hw => rel_n ho (fun k hk => hs k (reads_op hk)) (h1 hw), h2⟩

/-- What a new local cell holds. -/
def arel (op : AOp) (E : Env) (cs : List AV) : Prop :=
  match op with
  | .alloc z => oneL z = true ∧ cs = z
  | .box x => (E.ev x).row = true ∧ oneL (cellsOf (E.ev x)) = true ∧ cs = cellsOf (E.ev x)
  | _ => False

theorem cls_a {o : AOper} (h : o.cls = .a) : o.guard = none ∧ (∃ d, o.dst = some d) ∧ ((∃ z, o.op = .alloc z) ∨ ∃ x, o.op = .box x) := by
  obtain ⟨dst, op, g⟩ := o
  cases op <;> cases dst <;> cases g <;> simp [AOper.cls] at h ⊢

theorem cls_w {o : AOper} (h : o.cls = .w) : o.guard = none ∧ ∃ s p x, o.op = .store s p x := by
  obtain ⟨dst, op, g⟩ := o
  cases op <;> cases dst <;> cases g <;> simp [AOper.cls] at h ⊢

theorem fresh_none {E : Env} {d : Nat} (h : E.c d = none) : E.fresh d = E := by
  unfold Env.fresh
  rw [h]

theorem awG_a {P : Program} {o : AOper} (h : o.cls = .a) {d : Nat} (hd : o.dst = some d) {E : Env} (hc : E.c d = none) {K : Env → Prop} : awG P o E K ↔ ∃ cs, arel o.op E cs ∧ K ((E.putc d cs).put d (.lp d 0)) := by
  obtain ⟨hg, _, ho⟩ := cls_a h
  unfold awG awOp
  rw [hg]
  simp only
  rcases ho with ⟨z, ho⟩ | ⟨x, ho⟩
  · simp only [ho, hd, step, stepAlloc, arel, fresh_none hc]
    constructor
    · rintro ⟨E', hs, hk⟩
      split at hs
      · rename_i h1
        injection hs with hs
        subst hs
        exact ⟨z, ⟨h1, rfl⟩, hk⟩
      · cases hs
    · rintro ⟨cs, ⟨h1, rfl⟩, hk⟩
      exact ⟨_, by rw [if_pos h1], hk⟩
  · simp only [ho, hd, step, stepBox, arel, fresh_none hc]
    constructor
    · rintro ⟨E', hs, hk⟩
      split at hs
      · rename_i h1
        split at hs
        · rename_i h2
          injection hs with hs
          subst hs
          exact ⟨_, ⟨h1, h2, rfl⟩, hk⟩
        · cases hs
      · cases hs
    · rintro ⟨cs, ⟨h1, h2, rfl⟩, hk⟩
      exact ⟨_, by rw [if_pos h1, if_pos h2], hk⟩

theorem arel_congr {op : AOp} {E E' : Env} {cs : List AV} (hs : ∀ k ∈ opSlots (opnds op), E'.s k = E.s k) (h : arel op E cs) : arel op E' cs := by
  have hev := ev_congr hs
  cases op with
  | alloc z => exact h
  | box x => simp only [arel, opnds] at *; rw [hev x (by simp)]; exact h
  | _ => exact h

/-- What a store does. -/
def wrel (op : AOp) (E : Env) (c : Nat) (cs : List AV) : Prop :=
  match op with
  | .store size p x => stepStore size (E.ev p) (E.ev x) E = some (E.putc c cs)
  | _ => False

theorem stepStore_form {size : Nat} {p x : AV} {E E' : Env} (h : stepStore size p x E = some E') : ∃ c o cs, p = .lp c o ∧ E.c c = some cs ∧ E' = E.putc c (cs.take o ++ cellsOf x ++ cs.drop (o + size)) ∧
    ∀ F : Env, F.c c = some cs → stepStore size p x F = some (F.putc c (cs.take o ++ cellsOf x ++ cs.drop (o + size))) := by
  unfold stepStore at h
  split at h
  · rename_i c o
    split at h
    · rename_i cs hcs
      split at h
      case isFalse => cases h
      rename_i h1
      split at h
      case isFalse => cases h
      rename_i h2
      split at h
      case isFalse => cases h
      rename_i h3
      split at h
      case isFalse => cases h
      rename_i h4
      injection h with h
      refine ⟨c, o, cs, rfl, hcs, h.symm, fun F hF => ?_⟩
      simp only [stepStore, hF, if_pos h1, if_pos h2, if_pos h3, if_pos h4]
    · cases h
  · cases h

theorem put_put {E : Env} {k j : Nat} {x y : AV} (h : k ≠ j) : (E.put k x).put j y = (E.put j y).put k x := by
  simp only [Env.put, Env.mk.injEq, and_true]
  funext i
  simp only [upd]
  by_cases h1 : i = k <;> by_cases h2 : i = j <;> simp [h1, h2] <;> omega

theorem putO_putO {E : Env} {k j : Option Nat} {x y : AV} (h : ∀ d, k = some d → j ≠ some d) : (E.putO k x).putO j y = (E.putO j y).putO k x := by
  cases k with
  | none => rfl
  | some k =>
    cases j with
    | none => rfl
    | some j => exact put_put fun e => h k rfl (e ▸ rfl)

theorem putO_s {E : Env} {k : Option Nat} {x : AV} {j : Nat} (h : k ≠ some j) : (E.putO k x).s j = E.s j := by
  cases k with
  | none => rfl
  | some k =>
    simp only [Env.putO, Env.put, upd]
    rw [if_neg (fun e => h (by rw [e]))]

theorem putO_c {E : Env} {k : Option Nat} {x : AV} : (E.putO k x).c = E.c := by cases k <;> rfl

theorem comm_spec {p o : AOper} (h : comm p o = true) : (∀ k ∈ o.reads, p.dst ≠ some k) ∧ (∀ d, p.dst = some d → o.dst ≠ some d) ∧ (∀ k ∈ p.reads, o.dst ≠ some k) := by
  unfold comm at h
  simp only [Bool.and_eq_true] at h
  obtain ⟨⟨h1, h2⟩, _⟩ := h
  refine ⟨fun k hk hd => ?_, fun d hd => ?_, fun k hk hd => ?_⟩
  · rw [hd] at h1
    simp at h1
    exact h1.1 hk
  · rw [hd] at h1
    simp at h1
    exact h1.2
  · rw [hd] at h2
    simp at h2
    exact h2 hk

theorem clean_putO {o : AOper} {E : Env} {k : Option Nat} {x : AV} : clean o (E.putO k x) ↔ clean o E := by
  unfold clean
  rw [putO_c]

/-! ### Appends -/
def tokS : AV → Option (List Nat)
  | .sl (.own τ) _ _ => some τ
  | .sl (.fr τ) _ _ => some τ
  | _ => none
def Env.stripO (E : Env) : Option (List Nat) → Env
  | none => E
  | some τ => E.strip τ
def stripV : Option (List Nat) → AV → AV
  | none, x => x
  | some τ, x => strip τ x

def appV (esz bytes d : Nat) (s y : AV) : Option AV :=
  match y with
  | .sl tk' e' rows' =>
    if goneB tk' = false ∧ (e' = esz ∨ rows' = []) then
    match s with
    | .sl (.fr τ) e rows => if e = esz then if rows.length + rows'.length ≤ 4294967296 ∧ bytes ≤ 32768 then some (.sl (.fr [d]) esz (rows ++ rows')) else none else none
    | .sl .nil _ _ => if rows'.length ≤ 4294967296 ∧ bytes ≤ 32768 then some (.sl (.own [d]) esz rows') else none
    | .sl (.own τ) e rows => if e = esz then if rows.length + rows'.length ≤ 4294967296 ∧ bytes ≤ 32768 then some (.sl (.own [d]) esz (rows ++ rows')) else none else none
    | _ => none
    else none
  | _ => none

theorem stepApp_eq (esz bytes d : Nat) (s y : AV) (E : Env) : stepApp esz bytes d s y E = (appV esz bytes d s y).map fun v => (E.stripO (tokS s)).put d v := by
  unfold stepApp appV
  cases y with
  | sl tk' e' rows' =>
    simp only []
    split
    · cases s with
      | sl t e rows =>
        cases t with
        | nil => simp only []; split <;> rfl
        | own τ =>
          simp only []
          split
          · split <;> rfl
          · rfl
        | fr τ =>
          simp only []
          split
          · split <;> rfl
          · rfl
        | _ => rfl
      | _ => rfl
    · rfl
  | _ => rfl

theorem cls_p {o : AOper} (h : o.cls = .p) : o.guard = none ∧ ∃ d, o.dst = some d ∧ ∃ e b bs x y, o.op = .app e b bs x y := by
  obtain ⟨dst, op, g⟩ := o
  cases op <;> cases dst <;> cases g <;> simp [AOper.cls] at h ⊢

theorem awG_p {P : Program} {o : AOper} (h : o.cls = .p) {d e b : Nat} {bs : List Nat} {x y : Operand} (hd : o.dst = some d) (ho : o.op = .app e b bs x y) {E : Env} {K : Env → Prop} :
    awG P o E K ↔ okBs bs (E.ev x) = true ∧ ∃ v, appV e b d (E.ev x) (E.ev y) = some v ∧ K ((E.stripO (tokS (E.ev x))).put d v) := by
  obtain ⟨hg, _⟩ := cls_p h
  unfold awG awOp
  rw [hg]
  simp only [ho, step, hd]
  constructor
  · rintro ⟨E', hs, hk⟩
    split at hs
    · rename_i hb
      rw [stepApp_eq] at hs
      obtain ⟨v, hv, rfl⟩ := Option.map_eq_some_iff.1 hs
      exact ⟨hb, v, hv, hk⟩
    · cases hs
  · rintro ⟨hb, v, hv, hk⟩
    exact ⟨_, by rw [if_pos hb, stepApp_eq, hv]; rfl, hk⟩

theorem stripV_ev (E : Env) (t : Option (List Nat)) (x : Operand) : (E.stripO t).ev x = stripV t (E.ev x) := by
  cases t with
  | none => rfl
  | some τ => exact strip_ev E τ x

theorem stripO_put (E : Env) (t : Option (List Nat)) (k : Nat) (x : AV) : (E.put k x).stripO t = (E.stripO t).put k (stripV t x) := by
  cases t with
  | none => rfl
  | some τ =>
    simp only [Env.stripO, Env.strip, Env.put, Env.mk.injEq, and_true, stripV]
    funext j
    simp only [upd]
    split <;> rfl

theorem strip_gp_iff {τ : List Nat} {x : AV} {g : Nat} : strip τ x = .gp g ↔ x = .gp g := by
  cases x with
  | sl t e r => rw [strip_sl]; simp
  | _ => simp [strip]

theorem rel_stripO {P : Program} {op : AOp} {d : Nat} {E : Env} {t : Option (List Nat)} (hop : okOp op = true) (hb : ∀ n e ps, op = .bslice n e ps → t ≠ some [d]) {y : AV} : rel P op d (E.stripO t) y ↔ ∃ x, rel P op d E x ∧ y = stripV t x := by
  cases t with
  | none => simp [Env.stripO, stripV]
  | some τ =>
    have pl : (∀ (F : Env) z, rel P op d F z ↔ aval F op = some z) → (rel P op d (E.strip τ) y ↔ ∃ x, rel P op d E x ∧ y = strip τ x) := by
      intro h
      rw [h, aval_strip τ E hop, Option.map_eq_some_iff]
      constructor
      · rintro ⟨x, h1, h2⟩; exact ⟨x, (h _ _).2 h1, h2.symm⟩
      · rintro ⟨x, h1, h2⟩; exact ⟨x, (h _ _).1 h1, h2.symm⟩
    show rel P op d (E.strip τ) y ↔ ∃ x, rel P op d E x ∧ y = strip τ x
    cases op with
    | bslice n esz ps =>
      have hne : [d] ≠ τ := fun e => hb n esz ps rfl (by rw [e])
      have e1 : ps.map (E.strip τ).ev = (ps.map E.ev).map (strip τ) := by
        rw [List.map_map]
        exact List.map_congr_left fun z _ => strip_ev E τ z
      simp only [rel, e1, rowsOf_strip]
      constructor
      · rintro ⟨rows, h1, rfl⟩
        exact ⟨_, ⟨rows, h1, rfl⟩, by simp only [strip, if_neg hne]⟩
      · rintro ⟨_, ⟨rows, h1, rfl⟩, rfl⟩
        exact ⟨rows, h1, by simp only [strip, if_neg hne]⟩
    | loadc agg size p =>
      simp only [rel, strip_ev, strip_gp_iff]
      have e1 := aval_strip τ E hop
      rw [e1]
      constructor
      · rintro (⟨g, h1, h2, h3, rfl⟩ | ⟨h1, h2⟩)
        · exact ⟨.gl g, .inl ⟨g, h1, h2, h3, rfl⟩, rfl⟩
        · obtain ⟨x, h3, rfl⟩ := Option.map_eq_some_iff.1 h2
          exact ⟨x, .inr ⟨fun g e => h1 g (strip_gp_iff.2 e), h3⟩, rfl⟩
      · rintro ⟨x, ⟨g, h1, h2, h3, rfl⟩ | ⟨h1, h2⟩, rfl⟩
        · exact .inl ⟨g, h1, h2, h3, rfl⟩
        · exact .inr ⟨fun g e => h1 g (strip_gp_iff.1 e), by rw [h2]; rfl⟩
    | mov x => exact pl fun _ _ => Iff.rfl
    | pick a b c => exact pl fun _ _ => Iff.rfl
    | faddr a b c => exact pl fun _ _ => Iff.rfl
    | iaddr a b c => exact pl fun _ _ => Iff.rfl
    | lenl a => exact pl fun _ _ => Iff.rfl
    | lens a => exact pl fun _ _ => Iff.rfl
    | bin a b c e => exact pl fun _ _ => Iff.rfl
    | cint a b => exact pl fun _ _ => Iff.rfl
    | fld a b c e => exact pl fun _ _ => Iff.rfl
    | ext a b => exact pl fun _ _ => Iff.rfl
    | un a b => exact pl fun _ _ => Iff.rfl
    | slc a b c e => exact pl fun _ _ => Iff.rfl
    | _ => simp [okOp] at hop

theorem okPair_spec {o p : AOper} (h : okPair o p = true) : o.guard = none ∧ (∃ d, o.dst = some d) ∧ okOp o.op = true ∧
    ∀ n e ps, o.op = .bslice n e ps → ∀ a b bs x y, p.op = .app a b bs x y → ∀ d, o.dst = some d → bs.contains d = true := by
  unfold okPair at h
  simp only [Bool.and_eq_true, Option.isNone_iff_eq_none] at h
  obtain ⟨⟨⟨h1, h2⟩, h3⟩, h4⟩ := h
  refine ⟨h1, Option.isSome_iff_exists.1 h2, h3, fun n e ps ho a b bs x y hp d hd => ?_⟩
  rw [ho, hp, hd] at h4
  exact h4

theorem okAl_spec {o : AOper} (h : okAl o = true) : ∃ z, o.op = .alloc z ∧ tokFreeL z = true := by
  unfold okAl at h
  split at h
  · rename_i z hz
    exact ⟨z, hz, h⟩
  · cases h

theorem stripO_none {E : Env} {t : Option (List Nat)} {j : Nat} : (E.stripO t).c j = none ↔ E.c j = none := by
  cases t with
  | none => rfl
  | some τ =>
    show (E.c j).map (stripL τ) = none ↔ _
    simp

def stripVL : Option (List Nat) → List AV → List AV
  | none, x => x
  | some τ, x => stripL τ x

theorem stripVL_free (t : Option (List Nat)) {xs : List AV} (h : tokFreeL xs = true) : stripVL t xs = xs := by
  cases t with
  | none => rfl
  | some τ => exact stripL_free τ h

theorem stripO_putc (E : Env) (t : Option (List Nat)) (k : Nat) (x : List AV) : (E.putc k x).stripO t = (E.stripO t).putc k (stripVL t x) := by
  cases t with
  | none => rfl
  | some τ =>
    simp only [Env.stripO, Env.strip, Env.putc, Env.mk.injEq, true_and, stripVL]
    funext j
    simp only [upd]
    split <;> rfl

theorem okBs_ne {bs : List Nat} {v : AV} (h : okBs bs v = true) {d : Nat} (hd : bs.contains d = true) : tokS v ≠ some [d] := by
  intro e
  unfold tokS at e
  split at e
  · injection e with e
    subst e
    simp only [okBs, List.all_eq_true, bne_iff_ne, ne_eq] at h
    exact h d (by simpa using hd) rfl
  · injection e with e
    subst e
    simp only [okBs, List.all_eq_true, bne_iff_ne, ne_eq] at h
    exact h d (by simpa using hd) rfl
  · cases e

/-- THE SWAP. -/
theorem swap {P : Program} {p o : AOper} (h : comm p o = true) {E : Env} {K : Env → Prop} (hp : awD P p E fun E1 => awD P o E1 K) : awD P o E fun E1 => awD P p E1 K := by
  obtain ⟨c1, c2, c3⟩ := comm_spec h
  have c2' : ∀ d, o.dst = some d → p.dst ≠ some d := fun d hd hpd => c2 d hpd hd
  obtain ⟨hcp, hp⟩ := hp
  have hcls : (match p.cls, o.cls with | .n, .n | .n, .v | .v, .n | .v, .v | .n, .a | .v, .a | .a, .n | .a, .a | .n, .w | .w, .n => true | .p, .n | .p, .v => okPair o p | .n, .p | .v, .p => okPair p o | .p, .a => okAl o | .a, .p => okAl p | _, _ => false) = true := by
    unfold comm at h
    simp only [Bool.and_eq_true] at h
    exact h.2
  have notA : ∀ {q : AOper} {F : Env}, q.cls ≠ .a → clean q F := fun hq e => absurd e hq
  -- both yield values
  have vv : (p.cls = .n ∨ p.cls = .v) → (o.cls = .n ∨ o.cls = .v) → awD P o E fun E1 => awD P p E1 K := by
    intro hpv hov
    obtain ⟨x, hx, hco, ho⟩ := (awG_val hpv).1 hp
    obtain ⟨y, hy, hk⟩ := (awG_val hov).1 ho
    refine ⟨notA (by rcases hov with e | e <;> rw [e] <;> simp), (awG_val hov).2 ⟨y, gval_mono (fun k hk => (putO_s (c1 k hk)).symm) (by rw [putO_c]; exact fun _ _ h => h) hy, notA (by rcases hpv with e | e <;> rw [e] <;> simp), (awG_val hpv).2 ⟨x, gval_mono (fun k hk => putO_s (c3 k hk)) (by rw [putO_c]; exact fun _ _ h => h) hx, ?_⟩⟩⟩
    rw [putO_putO c2']
    exact hk
  -- a value, then a new cell
  have va : (p.cls = .n ∨ p.cls = .v) → o.cls = .a → awD P o E fun E1 => awD P p E1 K := by
    intro hpv hoa
    obtain ⟨_, ⟨d, hd⟩, _⟩ := cls_a hoa
    obtain ⟨x, hx, hco, ho⟩ := (awG_val hpv).1 hp
    have hco' := clean_putO.1 hco
    have hcd : E.c d = none := hco' hoa d hd
    obtain ⟨cs, hcs, hk⟩ := (awG_a hoa hd (by rw [putO_c]; exact hcd)).1 ho
    refine ⟨hco', (awG_a hoa hd hcd).2 ⟨cs, arel_congr (fun k hk => (putO_s (c1 k (reads_op hk))).symm) hcs, notA (by rcases hpv with e | e <;> rw [e] <;> simp), (awG_val hpv).2 ⟨x, gval_mono (fun k hk => ?_) (fun k v hv => ?_) hx, ?_⟩⟩⟩
    · have := c3 k hk
      rw [hd] at this
      simp only [Env.put, Env.putc, upd]
      rw [if_neg (fun e => this (by rw [e]))]
    · simp only [Env.put, Env.putc, upd]
      rw [if_neg (fun e => by rw [e, hcd] at hv; cases hv)]
      exact hv
    · have e1 : ((E.putc d cs).put d (.lp d 0)).putO p.dst x = ((E.putO p.dst x).putc d cs).put d (.lp d 0) := by
        cases hpd : p.dst with
        | none => rfl
        | some j =>
          have hne : d ≠ j := fun e => c2 j hpd (by rw [hd, e])
          simp only [Env.putO]
          rw [put_put hne]
          rfl
      rw [e1]
      exact hk
  -- a new cell, then a value without a look at cells
  have an : p.cls = .a → o.cls = .n → awD P o E fun E1 => awD P p E1 K := by
    intro hpa hon
    obtain ⟨_, ⟨d, hd⟩, _⟩ := cls_a hpa
    have hcd : E.c d = none := hcp hpa d hd
    obtain ⟨cs, hcs, hco, ho⟩ := (awG_a hpa hd hcd).1 hp
    obtain ⟨y, hy, hk⟩ := (awG_val (.inl hon)).1 ho
    refine ⟨notA (by rw [hon]; simp), (awG_val (.inl hon)).2 ⟨y, gval_n hon (fun k hk => ?_) hy, clean_putO.2 hcp, (awG_a hpa hd (by rw [putO_c]; exact hcd)).2 ⟨cs, arel_congr (fun k hk => putO_s (c3 k (reads_op hk))) hcs, ?_⟩⟩⟩
    · have := c1 k hk
      rw [hd] at this
      simp only [Env.put, Env.putc, upd]
      rw [if_neg (fun e => this (by rw [e]))]
    · have e1 : ((E.putO o.dst y).putc d cs).put d (.lp d 0) = ((E.putc d cs).put d (.lp d 0)).putO o.dst y := by
        cases hod : o.dst with
        | none => rfl
        | some j =>
          have hne : d ≠ j := fun e => c2 d hd (by rw [hod, e])
          simp only [Env.putO]
          rw [put_put (E := E.putc d cs) hne]
          rfl
      rw [e1]
      exact hk
  -- two new cells
  have aa : p.cls = .a → o.cls = .a → awD P o E fun E1 => awD P p E1 K := by
    intro hpa hoa
    obtain ⟨_, ⟨d, hd⟩, _⟩ := cls_a hpa
    obtain ⟨_, ⟨j, hj⟩, _⟩ := cls_a hoa
    have hne : d ≠ j := fun e => c2 d hd (by rw [hj, e])
    have hcd : E.c d = none := hcp hpa d hd
    obtain ⟨cs, hcs, hco, ho⟩ := (awG_a hpa hd hcd).1 hp
    have hcj' := hco hoa j hj
    have hcj : E.c j = none := by
      simp only [Env.put, Env.putc, upd] at hcj'
      rw [if_neg (Ne.symm hne)] at hcj'
      exact hcj'
    obtain ⟨cs', hcs', hk⟩ := (awG_a hoa hj hcj').1 ho
    have hc2 : ((E.putc j cs').put j (.lp j 0)).c d = none := by
      simp only [Env.put, Env.putc, upd]
      rw [if_neg hne]
      exact hcd
    refine ⟨fun _ k hk => by rw [hj] at hk; injection hk with hk; subst hk; exact hcj, (awG_a hoa hj hcj).2 ⟨cs', arel_congr (fun k hk => ?_) hcs', fun _ k hk => by rw [hd] at hk; injection hk with hk; subst hk; exact hc2, (awG_a hpa hd hc2).2 ⟨cs, arel_congr (fun k hk => ?_) hcs, ?_⟩⟩⟩
    · have := c1 k (reads_op hk)
      rw [hd] at this
      simp only [Env.put, Env.putc, upd]
      rw [if_neg (fun e => this (by rw [e]))]
    · have := c3 k (reads_op hk)
      rw [hj] at this
      simp only [Env.put, Env.putc, upd]
      rw [if_neg (fun e => this (by rw [e]))]
    · have e1 : (((E.putc j cs').put j (.lp j 0)).putc d cs).put d (.lp d 0) = (((E.putc d cs).put d (.lp d 0)).putc j cs').put j (.lp j 0) := by
        simp only [Env.put, Env.putc, Env.mk.injEq]
        constructor <;> funext i <;> simp only [upd] <;> by_cases h1 : i = d <;> by_cases h2 : i = j <;> simp [h1, h2] <;> omega
      rw [e1]
      exact hk
  -- a value without a look at cells, and a store
  have wform : ∀ {q : AOper} {F : Env} {KK : Env → Prop}, q.cls = .w → awG P q F KK → q.dst = none ∧ ∃ s pp xx, q.op = .store s pp xx ∧ ∃ F', stepStore s (F.ev pp) (F.ev xx) F = some F' ∧ KK F' := by
    intro q F KK hq hg
    obtain ⟨hgd, s, pp, xx, hop⟩ := cls_w hq
    unfold awG awOp at hg
    rw [hgd] at hg
    simp only [hop, step] at hg
    obtain ⟨F', hs, hk⟩ := hg
    cases hqd : q.dst with
    | none => rw [hqd] at hs; exact ⟨rfl, s, pp, xx, hop, F', hs, hk⟩
    | some d => rw [hqd] at hs; cases hs
  have wback : ∀ {q : AOper} {F F' : Env} {KK : Env → Prop} {s : Nat} {pp xx : Operand}, q.cls = .w → q.dst = none → q.op = .store s pp xx → stepStore s (F.ev pp) (F.ev xx) F = some F' → KK F' → awG P q F KK := by
    intro q F F' KK s pp xx hq hqd hop hs hk
    obtain ⟨hgd, _⟩ := cls_w hq
    unfold awG awOp
    rw [hgd]
    simp only [hop, step, hqd]
    exact ⟨F', hs, hk⟩
  have nw : p.cls = .n → o.cls = .w → awD P o E fun E1 => awD P p E1 K := by
    intro hpn how
    obtain ⟨x, hx, hco, ho⟩ := (awG_val (.inl hpn)).1 hp
    obtain ⟨hod, s, pp, xx, hop, F', hs, hk⟩ := wform how ho
    have e1 : ∀ y ∈ opnds o.op, (E.putO p.dst x).ev y = E.ev y := ev_congr fun k hk => putO_s (c1 k (reads_op hk))
    rw [hop] at e1
    simp only [opnds] at e1
    rw [e1 pp (by simp), e1 xx (by simp)] at hs
    obtain ⟨c, off, cs, _, hc, rfl, hF⟩ := stepStore_form hs
    refine ⟨notA (by rw [how]; simp), wback how hod hop (hF E (by rw [putO_c] at hc; exact hc)) ⟨notA (by rw [hpn]; simp), (awG_val (.inl hpn)).2 ⟨x, gval_n (E := E) hpn (fun _ _ => rfl) hx, ?_⟩⟩⟩
    have e2 : (E.putc c (cs.take off ++ cellsOf (E.ev xx) ++ cs.drop (off + s))).putO p.dst x = (E.putO p.dst x).putc c (cs.take off ++ cellsOf (E.ev xx) ++ cs.drop (off + s)) := by cases p.dst <;> rfl
    rw [e2]
    exact hk
  have wn : p.cls = .w → o.cls = .n → awD P o E fun E1 => awD P p E1 K := by
    intro hpw hon
    obtain ⟨hpd, s, pp, xx, hop, F', hs, hco, ho⟩ := wform hpw hp
    obtain ⟨c, off, cs, _, hc, rfl, hF⟩ := stepStore_form hs
    obtain ⟨y, hy, hk⟩ := (awG_val (.inl hon)).1 ho
    have e1 : ∀ z ∈ opnds p.op, (E.putO o.dst y).ev z = E.ev z := ev_congr fun k hk => putO_s (c3 k (reads_op hk))
    rw [hop] at e1
    simp only [opnds] at e1
    refine ⟨notA (by rw [hon]; simp), (awG_val (.inl hon)).2 ⟨y, gval_n (E := E.putc c (cs.take off ++ cellsOf (E.ev xx) ++ cs.drop (off + s))) hon (fun _ _ => rfl) hy, notA (by rw [hpw]; simp), wback hpw hpd hop (by rw [e1 pp (by simp), e1 xx (by simp)]; exact hF _ (by rw [putO_c]; exact hc)) ?_⟩⟩
    have e2 : (E.putO o.dst y).putc c (cs.take off ++ cellsOf (E.ev xx) ++ cs.drop (off + s)) = (E.putc c (cs.take off ++ cellsOf (E.ev xx) ++ cs.drop (off + s))).putO o.dst y := by cases o.dst <;> rfl
    rw [e2]
    exact hk
  -- an append, then a value
  have pv : p.cls = .p → (o.cls = .n ∨ o.cls = .v) → okPair o p = true → awD P o E fun E1 => awD P p E1 K := by
    intro hpp hov hpair
    obtain ⟨hog, ⟨do_, hod⟩, hop, hbs⟩ := okPair_spec hpair
    obtain ⟨hpg, d, hd, e, b, bs, x, y, hpo⟩ := cls_p hpp
    obtain ⟨hb, v, hv, hco, ho⟩ := (awG_p hpp hd hpo).1 hp
    obtain ⟨w, hw, hk⟩ := (awG_val hov).1 ho
    have hne : do_ ≠ d := fun e => c2 d hd (by rw [hod, e])
    have hw1 : rel P o.op do_ ((E.stripO (tokS (E.ev x))).put d v) w := by
      unfold gval at hw
      rw [hog, hod] at hw
      exact hw
    have hw2 : rel P o.op do_ (E.stripO (tokS (E.ev x))) w := rel_mono (E := (E.stripO (tokS (E.ev x))).put d v) (E' := E.stripO (tokS (E.ev x))) (fun k hk => by
      have := c1 k (reads_op hk)
      rw [hd] at this
      simp only [Env.put, upd]
      rw [if_neg (fun e => this (by rw [e]))]) (fun _ _ h => h) hw1
    obtain ⟨z, hz, rfl⟩ := (rel_stripO hop (fun n e' ps he => okBs_ne hb (hbs n e' ps he _ _ _ _ _ hpo do_ hod))).1 hw2
    have hev : ∀ q ∈ opnds p.op, (E.putO o.dst z).ev q = E.ev q := ev_congr fun k hk => putO_s (c3 k (reads_op hk))
    rw [hpo] at hev
    simp only [opnds] at hev
    refine ⟨notA (by rcases hov with e | e <;> rw [e] <;> simp), (awG_val hov).2 ⟨z, ?_, notA (by rw [hpp]; simp), (awG_p hpp hd hpo).2 ?_⟩⟩
    · unfold gval
      rw [hog, hod]
      exact hz
    · rw [hev x (by simp), hev y (by simp)]
      refine ⟨hb, v, hv, ?_⟩
      rw [hod]
      simp only [Env.putO]
      rw [stripO_put, put_put hne]
      rw [hod] at hk
      exact hk
  -- an append, then a new cell
  have pa : p.cls = .p → o.cls = .a → okAl o = true → awD P o E fun E1 => awD P p E1 K := by
    intro hpp hoa hal
    obtain ⟨_, ⟨j, hj⟩, _⟩ := cls_a hoa
    obtain ⟨z, hz, hzf⟩ := okAl_spec hal
    obtain ⟨hpg, d, hd, e, b, bs, x, y, hpo⟩ := cls_p hpp
    obtain ⟨hb, v, hv, hco, ho⟩ := (awG_p hpp hd hpo).1 hp
    have hne : j ≠ d := fun e => c2 d hd (by rw [hj, e])
    have hcj := hco hoa j hj
    have hcj' : E.c j = none := stripO_none.1 hcj
    obtain ⟨cs, hcs, hk⟩ := (awG_a hoa hj hcj).1 ho
    have hev : ∀ q ∈ opnds p.op, ((E.putc j cs).put j (.lp j 0)).ev q = E.ev q := ev_congr fun k hk => by
      have := c3 k (reads_op hk)
      rw [hj] at this
      simp only [Env.put, Env.putc, upd]
      rw [if_neg (fun e => this (by rw [e]))]
    rw [hpo] at hev
    simp only [opnds] at hev
    have hcs' : arel o.op E cs := by rw [hz] at hcs ⊢; exact hcs
    have hcz : cs = z := by rw [hz] at hcs; exact hcs.2
    refine ⟨fun _ k hk => by rw [hj] at hk; injection hk with hk; subst hk; exact hcj', (awG_a hoa hj hcj').2 ⟨cs, hcs', notA (by rw [hpp]; simp), (awG_p hpp hd hpo).2 ?_⟩⟩
    rw [hev x (by simp), hev y (by simp)]
    refine ⟨hb, v, hv, ?_⟩
    rw [stripO_put, stripO_putc, hcz, stripVL_free _ hzf, show stripV (tokS (E.ev x)) (.lp j 0) = .lp j 0 by cases tokS (E.ev x) <;> rfl, put_put hne]
    rw [hcz] at hk
    exact hk
  -- a new cell, then an append
  have ap : p.cls = .a → o.cls = .p → okAl p = true → awD P o E fun E1 => awD P p E1 K := by
    intro hpa hop hal
    obtain ⟨_, ⟨j, hj⟩, _⟩ := cls_a hpa
    obtain ⟨z, hz, hzf⟩ := okAl_spec hal
    obtain ⟨hog, d, hd, e, b, bs, x, y, hoo⟩ := cls_p hop
    have hne : j ≠ d := fun e => c2 j hj (by rw [hd, e])
    have hcj : E.c j = none := hcp hpa j hj
    obtain ⟨cs, hcs, hco, ho⟩ := (awG_a hpa hj hcj).1 hp
    obtain ⟨hb, v, hv, hk⟩ := (awG_p hop hd hoo).1 ho
    have hev : ∀ q ∈ opnds o.op, ((E.putc j cs).put j (.lp j 0)).ev q = E.ev q := ev_congr fun k hk => by
      have := c1 k (reads_op hk)
      rw [hj] at this
      simp only [Env.put, Env.putc, upd]
      rw [if_neg (fun e => this (by rw [e]))]
    rw [hoo] at hev
    simp only [opnds] at hev
    rw [hev x (by simp), hev y (by simp)] at hv
    rw [hev x (by simp)] at hb hk
    have hcz : cs = z := by rw [hz] at hcs; exact hcs.2
    have hcj2 : ((E.stripO (tokS (E.ev x))).put d v).c j = none := stripO_none.2 hcj
    refine ⟨notA (by rw [hop]; simp), (awG_p hop hd hoo).2 ⟨hb, v, hv, fun _ k hk => by rw [hj] at hk; injection hk with hk; subst hk; exact hcj2, (awG_a hpa hj hcj2).2 ⟨cs, by rw [hz] at hcs ⊢; exact hcs, ?_⟩⟩⟩
    rw [stripO_put, stripO_putc, hcz, stripVL_free _ hzf, show stripV (tokS (E.ev x)) (.lp j 0) = .lp j 0 by cases tokS (E.ev x) <;> rfl] at hk
    have e1 : (((E.stripO (tokS (E.ev x))).put d v).putc j cs).put j (.lp j 0) = (((E.stripO (tokS (E.ev x))).putc j cs).put j (.lp j 0)).put d v := by
      rw [put_put hne]
      rfl
    rw [e1, hcz]
    exact hk
  -- a value, then an append
  have vp : o.cls = .p → (p.cls = .n ∨ p.cls = .v) → okPair p o = true → awD P o E fun E1 => awD P p E1 K := by
    intro hop hpv hpair
    obtain ⟨hpg, ⟨dp, hpd⟩, hpo, hbs⟩ := okPair_spec hpair
    obtain ⟨hog, d, hd, e, b, bs, x, y, hoo⟩ := cls_p hop
    obtain ⟨z, hz, hco, ho⟩ := (awG_val hpv).1 hp
    obtain ⟨hb, v, hv, hk⟩ := (awG_p hop hd hoo).1 ho
    have hne : dp ≠ d := fun e => c2 dp hpd (by rw [hd, e])
    have hev : ∀ q ∈ opnds o.op, (E.putO p.dst z).ev q = E.ev q := ev_congr fun k hk => putO_s (c1 k (reads_op hk))
    rw [hoo] at hev
    simp only [opnds] at hev
    rw [hev x (by simp), hev y (by simp)] at hv
    rw [hev x (by simp)] at hb hk
    have hz1 : rel P p.op dp E z := by
      unfold gval at hz
      rw [hpg, hpd] at hz
      exact hz
    have hz2 := (rel_stripO (P := P) (E := E) (t := tokS (E.ev x)) hpo (fun n e' ps he => okBs_ne hb (hbs n e' ps he _ _ _ _ _ hoo dp hpd))).2 ⟨z, hz1, rfl⟩
    refine ⟨notA (by rw [hop]; simp), (awG_p hop hd hoo).2 ⟨hb, v, hv, notA (by rcases hpv with e | e <;> rw [e] <;> simp), (awG_val hpv).2 ⟨stripV (tokS (E.ev x)) z, ?_, ?_⟩⟩⟩
    · unfold gval
      rw [hpg, hpd]
      refine rel_mono (E := E.stripO (tokS (E.ev x))) (E' := (E.stripO (tokS (E.ev x))).put d v) (fun k hk => ?_) (fun _ _ h => h) hz2
      have := c3 k (reads_op hk)
      rw [hd] at this
      simp only [Env.put, upd]
      rw [if_neg (fun e => this (by rw [e]))]
    · rw [hpd] at hk ⊢
      simp only [Env.putO] at hk ⊢
      rw [stripO_put] at hk
      rw [put_put (Ne.symm hne)]
      exact hk
  cases hpc : p.cls with
  | n =>
    cases hoc : o.cls with
    | n => exact vv (.inl hpc) (.inl hoc)
    | v => exact vv (.inl hpc) (.inr hoc)
    | a => exact va (.inl hpc) hoc
    | w => exact nw hpc hoc
    | p => rw [hpc, hoc] at hcls; exact vp hoc (.inl hpc) hcls
    | x => rw [hpc, hoc] at hcls; cases hcls
  | v =>
    cases hoc : o.cls with
    | n => exact vv (.inr hpc) (.inl hoc)
    | v => exact vv (.inr hpc) (.inr hoc)
    | a => exact va (.inr hpc) hoc
    | p => rw [hpc, hoc] at hcls; exact vp hoc (.inr hpc) hcls
    | w => rw [hpc, hoc] at hcls; cases hcls
    | x => rw [hpc, hoc] at hcls; cases hcls
  | p =>
    cases hoc : o.cls with
    | n => rw [hpc, hoc] at hcls; exact pv hpc (.inl hoc) hcls
    | v => rw [hpc, hoc] at hcls; exact pv hpc (.inr hoc) hcls
    | a => rw [hpc, hoc] at hcls; exact pa hpc hoc hcls
    | w => rw [hpc, hoc] at hcls; cases hcls
    | p => rw [hpc, hoc] at hcls; cases hcls
    | x => rw [hpc, hoc] at hcls; cases hcls
  | a =>
    cases hoc : o.cls with
    | n => exact an hpc hoc
    | a => exact aa hpc hoc
    | p => rw [hpc, hoc] at hcls; exact ap hpc hoc hcls
    | v => rw [hpc, hoc] at hcls; cases hcls
    | w => rw [hpc, hoc] at hcls; cases hcls
    | x => rw [hpc, hoc] at hcls; cases hcls
  | w =>
    cases hoc : o.cls with
    | n => exact wn hpc hoc
    | p => rw [hpc, hoc] at hcls; cases hcls
    | v => rw [hpc, hoc] at hcls; cases hcls
    | a => rw [hpc, hoc] at hcls; cases hcls
    | w => rw [hpc, hoc] at hcls; cases hcls
    | x => rw [hpc, hoc] at hcls; cases hcls
  | x =>
    cases hoc : o.cls <;> rw [hpc, hoc] at hcls <;> cases hcls

theorem awD_mono {P : Program} {o : AOper} {E : Env} {K K' : Env → Prop} (hk : ∀ E, K E → K' E) (h : awD P o E K) : awD P o E K' := by
  refine ⟨h.1, ?_⟩
  have h2 := h.2
  have op : ∀ E, awOp P o E K → awOp P o E K' := by
    intro E h
    unfold awOp at h ⊢
    split at h
    · obtain ⟨as, r, h1, h2, h3⟩ := h; exact ⟨as, r, h1, h2, hk _ h3⟩
    · obtain ⟨f, a, b, h0, as, r, h1, h2, h3⟩ := h; exact ⟨f, a, b, h0, as, r, h1, h2, hk _ h3⟩
    · exact h.imp (fun ⟨as, r, h1, h2, h3⟩ => ⟨as, r, h1, h2, hk _ h3⟩) fun ⟨m, as, c0, r, c1, h1, h2, h3, h4, h5⟩ => ⟨m, as, c0, r, c1, h1, h2, h3, h4, hk _ h5⟩
    · obtain ⟨f, a, b, h0, h⟩ := h
      exact ⟨f, a, b, h0, h.imp (fun ⟨as, r, h1, h2, h3⟩ => ⟨as, r, h1, h2, hk _ h3⟩) fun ⟨m, as, c0, r, c1, h1, h2, h3, h4, h5⟩ => ⟨m, as, c0, r, c1, h1, h2, h3, h4, hk _ h5⟩⟩
    · obtain ⟨d, h1, h2⟩ := h; exact ⟨d, h1, h2.imp (hk _) (hk _)⟩
    · obtain ⟨E', h1, h2⟩ := h; exact ⟨E', h1, hk _ h2⟩
  unfold awG at h2 ⊢
  split at h2
  · exact op _ h2
  · obtain ⟨t, ht, h3, h4⟩ := h2
    exact ⟨t, ht, fun e => op _ (h3 e), fun e => hk _ (h4 e)⟩

/-- What may come ahead of all that stand ahead of it. -/
theorem bubble {P : Program} {o : AOper} {post : List AOper} {K : Env → Prop} : ∀ (pre : List AOper) (E : Env), (∀ p ∈ pre, comm p o = true) → awOpsD P (pre ++ o :: post) E K → awD P o E fun E' => awOpsD P (pre ++ post) E' K
  | [], E, _, h => h
  | p :: pre, E, hc, h => by
    simp only [List.cons_append, awOpsD] at h ⊢
    exact swap (hc p (by simp)) (awD_mono (fun E' h' => bubble pre E' (fun q hq => hc q (by simp [hq])) h') h)

end Go.Proofs.Ytmjmfollimaleaa.VL
