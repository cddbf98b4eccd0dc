/- The value logic, part 16: a region that draws its order is walked in the text's. -/
import Derived.Test.YtlaklpeghjanjaaVL15
set_option linter.unusedVariables false
set_option linter.unusedSimpArgs false
namespace Go.Proofs.Ytlaklpeghjanjaa.VL
open Go.RowKit

def awG (P : Program) (o : AOper) (E : Env) (K : Env → Prop) : Prop :=
  match o.guard with
  | none => awOp P o E K
  | some (s, want) => ∃ t, E.s s = .lit t ∧ (t = .bool want → awOp P o E K) ∧ (t ≠ .bool want → K (E.putO o.dst (.lit undef)))

theorem awOps_cons {P : Program} {o : AOper} {os : List AOper} {E : Env} {K : Env → Prop} : awOps P (o :: os) E K = awG P o E fun E' => awOps P os E' K := by
  cases hg : o.guard with
  | none => simp only [awOps, awG, hg]
  | some p =>
    obtain ⟨s, w⟩ := p
    simp only [awOps, awG, hg]

/-- In a region that draws, a local cell is new. -/
def clean (o : AOper) (E : Env) : Prop := o.cls = .a → ∀ d, o.dst = some d → E.c d = none

def awD (P : Program) (o : AOper) (E : Env) (K : Env → Prop) : Prop := clean o E ∧ awG P o E K

def awOpsD (P : Program) : List AOper → Env → (Env → Prop) → Prop
  | [], E, K => K E
  | o :: os, E, K => awD P o E fun E' => awOpsD P os E' K

def gval (P : Program) (o : AOper) (E : Env) (x : AV) : Prop :=
  match o.guard with
  | none => rel P o.op (o.dst.getD 0) E x
  | some (s, want) => ∃ t, E.s s = .lit t ∧ (t = .bool want → rel P o.op (o.dst.getD 0) E x) ∧ (t ≠ .bool want → x = .lit undef)

theorem awG_val {P : Program} {o : AOper} (h : o.cls = .n ∨ o.cls = .v) {E : Env} {K : Env → Prop} : awG P o E K ↔ ∃ x, gval P o E x ∧ K (E.putO o.dst x) := by
  unfold awG gval
  split
  · exact awOp_val h
  · rename_i s w hg
    constructor
    · rintro ⟨t, ht, h1, h2⟩
      by_cases hw : t = .bool w
      · obtain ⟨x, hx, hk⟩ := (awOp_val h).1 (h1 hw)
        exact ⟨x, ⟨t, ht, fun _ => hx, fun hne => absurd hw hne⟩, hk⟩
      · exact ⟨.lit undef, ⟨t, ht, fun e => absurd e hw, fun _ => rfl⟩, h2 hw⟩
    · rintro ⟨x, ⟨t, ht, h1, h2⟩, hk⟩
      refine ⟨t, ht, fun hw => (awOp_val h).2 ⟨x, h1 hw, hk⟩, fun hw => ?_⟩
      rw [h2 hw] at hk
      exact hk

theorem reads_op {o : AOper} {k : Nat} (h : k ∈ opSlots (opnds o.op)) : k ∈ o.reads := List.mem_append_left _ h

theorem reads_guard {o : AOper} {s : Nat} {w : Bool} (h : o.guard = some (s, w)) : s ∈ o.reads := by
  unfold AOper.reads
  rw [h]
  simp

theorem gval_mono {P : Program} {o : AOper} {E E' : Env} {x : AV} (hs : ∀ k ∈ o.reads, E'.s k = E.s k) (hc : ∀ k v, E.c k = some v → E'.c k = some v) (h : gval P o E x) : gval P o E' x := by
  unfold gval at h ⊢
  split at h
  · rename_i hg
    exact rel_mono (fun k hk => hs k (reads_op hk)) hc h
  · rename_i s w hg
    obtain ⟨t, ht, h1, h2⟩ := h
    exact ⟨t, by rw [hs s (reads_guard hg)]; exact ht, fun hw => rel_mono (fun k hk => hs k (reads_op hk)) hc (h1 hw), h2⟩

theorem gval_n {P : Program} {o : AOper} (ho : o.cls = .n) {E E' : Env} {x : AV} (hs : ∀ k ∈ o.reads, E'.s k = E.s k) (h : gval P o E x) : gval P o E' x := by
  unfold gval at h ⊢
  split at h
  · rename_i hg
    exact rel_n ho (fun k hk => hs k (reads_op hk)) h
  · rename_i s w hg
    obtain ⟨t, ht, h1, h2⟩ := h
    exact ⟨t, by rw [hs s (reads_guard hg)]; exact ht, fun hw => rel_n ho (fun k hk => hs k (reads_op hk)) (h1 hw), h2⟩

/-- What a new local cell holds. -/
def arel (op : AOp) (E : Env) (cs : List AV) : Prop :=
  match op with
  | .alloc z => oneL z = true ∧ cs = z
  | .box x => (E.ev x).row = true ∧ oneL (cellsOf (E.ev x)) = true ∧ cs = cellsOf (E.ev x)
  | _ => False

theorem cls_a {o : AOper} (h : o.cls = .a) : o.guard = none ∧ (∃ d, o.dst = some d) ∧ ((∃ z, o.op = .alloc z) ∨ ∃ x, o.op = .box x) := by
  obtain ⟨dst, op, g⟩ := o
  cases op <;> cases dst <;> cases g <;> simp [AOper.cls] at h ⊢

theorem cls_w {o : AOper} (h : o.cls = .w) : o.guard = none ∧ ∃ s p x, o.op = .store s p x := by
  obtain ⟨dst, op, g⟩ := o
  cases op <;> cases dst <;> cases g <;> simp [AOper.cls] at h ⊢

theorem fresh_none {E : Env} {d : Nat} (h : E.c d = none) : E.fresh d = E := by
  unfold Env.fresh
  rw [h]

theorem awG_a {P : Program} {o : AOper} (h : o.cls = .a) {d : Nat} (hd : o.dst = some d) {E : Env} (hc : E.c d = none) {K : Env → Prop} : awG P o E K ↔ ∃ cs, arel o.op E cs ∧ K ((E.putc d cs).put d (.lp d 0)) := by
  obtain ⟨hg, _, ho⟩ := cls_a h
  unfold awG awOp
  rw [hg]
  simp only
  rcases ho with ⟨z, ho⟩ | ⟨x, ho⟩
  · simp only [ho, hd, step, stepAlloc, arel, fresh_none hc]
    constructor
    · rintro ⟨E', hs, hk⟩
      split at hs
      · rename_i h1
        injection hs with hs
        subst hs
        exact ⟨z, ⟨h1, rfl⟩, hk⟩
      · cases hs
    · rintro ⟨cs, ⟨h1, rfl⟩, hk⟩
      exact ⟨_, by rw [if_pos h1], hk⟩
  · simp only [ho, hd, step, stepBox, arel, fresh_none hc]
    constructor
    · rintro ⟨E', hs, hk⟩
      split at hs
      · rename_i h1
        split at hs
        · rename_i h2
          injection hs with hs
          subst hs
          exact ⟨_, ⟨h1, h2, rfl⟩, hk⟩
        · cases hs
      · cases hs
    · rintro ⟨cs, ⟨h1, h2, rfl⟩, hk⟩
      exact ⟨_, by rw [if_pos h1, if_pos h2], hk⟩

theorem arel_congr {op : AOp} {E E' : Env} {cs : List AV} (hs : ∀ k ∈ opSlots (opnds op), E'.s k = E.s k) (h : arel op E cs) : arel op E' cs := by
  have hev := ev_congr hs
  cases op with
  | alloc z => exact h
  | box x => simp only [arel, opnds] at *; rw [hev x (by simp)]; exact h
  | _ => exact h

/-- What a store does. -/
def wrel (op : AOp) (E : Env) (c : Nat) (cs : List AV) : Prop :=
  match op with
  | .store size p x => stepStore size (E.ev p) (E.ev x) E = some (E.putc c cs)
  | _ => False

theorem stepStore_form {size : Nat} {p x : AV} {E E' : Env} (h : stepStore size p x E = some E') : ∃ c o cs, p = .lp c o ∧ E.c c = some cs ∧ E' = E.putc c (cs.take o ++ cellsOf x ++ cs.drop (o + size)) ∧
    ∀ F : Env, F.c c = some cs → stepStore size p x F = some (F.putc c (cs.take o ++ cellsOf x ++ cs.drop (o + size))) := by
  unfold stepStore at h
  split at h
  · rename_i c o
    split at h
    · rename_i cs hcs
      split at h
      case isFalse => cases h
      rename_i h1
      split at h
      case isFalse => cases h
      rename_i h2
      split at h
      case isFalse => cases h
      rename_i h3
      split at h
      case isFalse => cases h
      rename_i h4
      injection h with h
      refine ⟨c, o, cs, rfl, hcs, h.symm, fun F hF => ?_⟩
      simp only [stepStore, hF, if_pos h1, if_pos h2, if_pos h3, if_pos h4]
    · cases h
  · cases h

theorem put_put {E : Env} {k j : Nat} {x y : AV} (h : k ≠ j) : (E.put k x).put j y = (E.put j y).put k x := by
  simp only [Env.put, Env.mk.injEq, and_true]
  funext i
  simp only [upd]
  by_cases h1 : i = k <;> by_cases h2 : i = j <;> simp [h1, h2] <;> omega

theorem putO_putO {E : Env} {k j : Option Nat} {x y : AV} (h : ∀ d, k = some d → j ≠ some d) : (E.putO k x).putO j y = (E.putO j y).putO k x := by
  cases k with
  | none => rfl
  | some k =>
    cases j with
    | none => rfl
    | some j => exact put_put fun e => h k rfl (e ▸ rfl)

theorem putO_s {E : Env} {k : Option Nat} {x : AV} {j : Nat} (h : k ≠ some j) : (E.putO k x).s j = E.s j := by
  cases k with
  | none => rfl
  | some k =>
    simp only [Env.putO, Env.put, upd]
    rw [if_neg (fun e => h (by rw [e]))]

theorem putO_c {E : Env} {k : Option Nat} {x : AV} : (E.putO k x).c = E.c := by cases k <;> rfl

theorem comm_spec {p o : AOper} (h : comm p o = true) : (∀ k ∈ o.reads, p.dst ≠ some k) ∧ (∀ d, p.dst = some d → o.dst ≠ some d) ∧ (∀ k ∈ p.reads, o.dst ≠ some k) := by
  unfold comm at h
  simp only [Bool.and_eq_true] at h
  obtain ⟨⟨h1, h2⟩, _⟩ := h
  refine ⟨fun k hk hd => ?_, fun d hd => ?_, fun k hk hd => ?_⟩
  · rw [hd] at h1
    simp at h1
    exact h1.1 hk
  · rw [hd] at h1
    simp at h1
    exact h1.2
  · rw [hd] at h2
    simp at h2
    exact h2 hk

theorem clean_putO {o : AOper} {E : Env} {k : Option Nat} {x : AV} : clean o (E.putO k x) ↔ clean o E := by
  unfold clean
  rw [putO_c]

/-- THE SWAP. -/
theorem swap {P : Program} {p o : AOper} (h : comm p o = true) {E : Env} {K : Env → Prop} (hp : awD P p E fun E1 => awD P o E1 K) : awD P o E fun E1 => awD P p E1 K := by
  obtain ⟨c1, c2, c3⟩ := comm_spec h
  have c2' : ∀ d, o.dst = some d → p.dst ≠ some d := fun d hd hpd => c2 d hpd hd
  obtain ⟨hcp, hp⟩ := hp
  have hcls : (match p.cls, o.cls with | .n, .n | .n, .v | .v, .n | .v, .v | .n, .a | .v, .a | .a, .n | .a, .a | .n, .w | .w, .n => true | _, _ => false) = true := by
    unfold comm at h
    simp only [Bool.and_eq_true] at h
    exact h.2
  have notA : ∀ {q : AOper} {F : Env}, q.cls ≠ .a → clean q F := fun hq e => absurd e hq
  -- both yield values
  have vv : (p.cls = .n ∨ p.cls = .v) → (o.cls = .n ∨ o.cls = .v) → awD P o E fun E1 => awD P p E1 K := by
    intro hpv hov
    obtain ⟨x, hx, hco, ho⟩ := (awG_val hpv).1 hp
    obtain ⟨y, hy, hk⟩ := (awG_val hov).1 ho
    refine ⟨notA (by rcases hov with e | e <;> rw [e] <;> simp), (awG_val hov).2 ⟨y, gval_mono (fun k hk => (putO_s (c1 k hk)).symm) (by rw [putO_c]; exact fun _ _ h => h) hy, notA (by rcases hpv with e | e <;> rw [e] <;> simp), (awG_val hpv).2 ⟨x, gval_mono (fun k hk => putO_s (c3 k hk)) (by rw [putO_c]; exact fun _ _ h => h) hx, ?_⟩⟩⟩
    rw [putO_putO c2']
    exact hk
  -- a value, then a new cell
  have va : (p.cls = .n ∨ p.cls = .v) → o.cls = .a → awD P o E fun E1 => awD P p E1 K := by
    intro hpv hoa
    obtain ⟨_, ⟨d, hd⟩, _⟩ := cls_a hoa
    obtain ⟨x, hx, hco, ho⟩ := (awG_val hpv).1 hp
    have hco' := clean_putO.1 hco
    have hcd : E.c d = none := hco' hoa d hd
    obtain ⟨cs, hcs, hk⟩ := (awG_a hoa hd (by rw [putO_c]; exact hcd)).1 ho
    refine ⟨hco', (awG_a hoa hd hcd).2 ⟨cs, arel_congr (fun k hk => (putO_s (c1 k (reads_op hk))).symm) hcs, notA (by rcases hpv with e | e <;> rw [e] <;> simp), (awG_val hpv).2 ⟨x, gval_mono (fun k hk => ?_) (fun k v hv => ?_) hx, ?_⟩⟩⟩
    · have := c3 k hk
      rw [hd] at this
      simp only [Env.put, Env.putc, upd]
      rw [if_neg (fun e => this (by rw [e]))]
    · simp only [Env.put, Env.putc, upd]
      rw [if_neg (fun e => by rw [e, hcd] at hv; cases hv)]
      exact hv
    · have e1 : ((E.putc d cs).put d (.lp d 0)).putO p.dst x = ((E.putO p.dst x).putc d cs).put d (.lp d 0) := by
        cases hpd : p.dst with
        | none => rfl
        | some j =>
          have hne : d ≠ j := fun e => c2 j hpd (by rw [hd, e])
          simp only [Env.putO]
          rw [put_put hne]
          rfl
      rw [e1]
      exact hk
  -- a new cell, then a value without a look at cells
  have an : p.cls = .a → o.cls = .n → awD P o E fun E1 => awD P p E1 K := by
    intro hpa hon
    obtain ⟨_, ⟨d, hd⟩, _⟩ := cls_a hpa
    have hcd : E.c d = none := hcp hpa d hd
    obtain ⟨cs, hcs, hco, ho⟩ := (awG_a hpa hd hcd).1 hp
    obtain ⟨y, hy, hk⟩ := (awG_val (.inl hon)).1 ho
    refine ⟨notA (by rw [hon]; simp), (awG_val (.inl hon)).2 ⟨y, gval_n hon (fun k hk => ?_) hy, clean_putO.2 hcp, (awG_a hpa hd (by rw [putO_c]; exact hcd)).2 ⟨cs, arel_congr (fun k hk => putO_s (c3 k (reads_op hk))) hcs, ?_⟩⟩⟩
    · have := c1 k hk
      rw [hd] at this
      simp only [Env.put, Env.putc, upd]
      rw [if_neg (fun e => this (by rw [e]))]
    · have e1 : ((E.putO o.dst y).putc d cs).put d (.lp d 0) = ((E.putc d cs).put d (.lp d 0)).putO o.dst y := by
        cases hod : o.dst with
        | none => rfl
        | some j =>
          have hne : d ≠ j := fun e => c2 d hd (by rw [hod, e])
          simp only [Env.putO]
          rw [put_put (E := E.putc d cs) hne]
          rfl
      rw [e1]
      exact hk
  -- two new cells
  have aa : p.cls = .a → o.cls = .a → awD P o E fun E1 => awD P p E1 K := by
    intro hpa hoa
    obtain ⟨_, ⟨d, hd⟩, _⟩ := cls_a hpa
    obtain ⟨_, ⟨j, hj⟩, _⟩ := cls_a hoa
    have hne : d ≠ j := fun e => c2 d hd (by rw [hj, e])
    have hcd : E.c d = none := hcp hpa d hd
    obtain ⟨cs, hcs, hco, ho⟩ := (awG_a hpa hd hcd).1 hp
    have hcj' := hco hoa j hj
    have hcj : E.c j = none := by
      simp only [Env.put, Env.putc, upd] at hcj'
      rw [if_neg (Ne.symm hne)] at hcj'
      exact hcj'
    obtain ⟨cs', hcs', hk⟩ := (awG_a hoa hj hcj').1 ho
    have hc2 : ((E.putc j cs').put j (.lp j 0)).c d = none := by
      simp only [Env.put, Env.putc, upd]
      rw [if_neg hne]
      exact hcd
    refine ⟨fun _ k hk => by rw [hj] at hk; injection hk with hk; subst hk; exact hcj, (awG_a hoa hj hcj).2 ⟨cs', arel_congr (fun k hk => ?_) hcs', fun _ k hk => by rw [hd] at hk; injection hk with hk; subst hk; exact hc2, (awG_a hpa hd hc2).2 ⟨cs, arel_congr (fun k hk => ?_) hcs, ?_⟩⟩⟩
    · have := c1 k (reads_op hk)
      rw [hd] at this
      simp only [Env.put, Env.putc, upd]
      rw [if_neg (fun e => this (by rw [e]))]
    · have := c3 k (reads_op hk)
      rw [hj] at this
      simp only [Env.put, Env.putc, upd]
      rw [if_neg (fun e => this (by rw [e]))]
    · have e1 : (((E.putc j cs').put j (.lp j 0)).putc d cs).put d (.lp d 0) = (((E.putc d cs).put d (.lp d 0)).putc j cs').put j (.lp j 0) := by
        simp only [Env.put, Env.putc, Env.mk.injEq]
        constructor <;> funext i <;> simp only [upd] <;> by_cases h1 : i = d <;> by_cases h2 : i = j <;> simp [h1, h2] <;> omega
      rw [e1]
      exact hk
  -- a value without a look at cells, and a store
  have wform : ∀ {q : AOper} {F : Env} {KK : Env → Prop}, q.cls = .w → awG P q F KK → q.dst = none ∧ ∃ s pp xx, q.op = .store s pp xx ∧ ∃ F', stepStore s (F.ev pp) (F.ev xx) F = some F' ∧ KK F' := by
    intro q F KK hq hg
    obtain ⟨hgd, s, pp, xx, hop⟩ := cls_w hq
    unfold awG awOp at hg
    rw [hgd] at hg
    simp only [hop, step] at hg
    obtain ⟨F', hs, hk⟩ := hg
    cases hqd : q.dst with
    | none => rw [hqd] at hs; exact ⟨rfl, s, pp, xx, hop, F', hs, hk⟩
    | some d => rw [hqd] at hs; cases hs
  have wback : ∀ {q : AOper} {F F' : Env} {KK : Env → Prop} {s : Nat} {pp xx : Operand}, q.cls = .w → q.dst = none → q.op = .store s pp xx → stepStore s (F.ev pp) (F.ev xx) F = some F' → KK F' → awG P q F KK := by
    intro q F F' KK s pp xx hq hqd hop hs hk
    obtain ⟨hgd, _⟩ := cls_w hq
    unfold awG awOp
    rw [hgd]
    simp only [hop, step, hqd]
    exact ⟨F', hs, hk⟩
  have nw : p.cls = .n → o.cls = .w → awD P o E fun E1 => awD P p E1 K := by
    intro hpn how
    obtain ⟨x, hx, hco, ho⟩ := (awG_val (.inl hpn)).1 hp
    obtain ⟨hod, s, pp, xx, hop, F', hs, hk⟩ := wform how ho
    have e1 : ∀ y ∈ opnds o.op, (E.putO p.dst x).ev y = E.ev y := ev_congr fun k hk => putO_s (c1 k (reads_op hk))
    rw [hop] at e1
    simp only [opnds] at e1
    rw [e1 pp (by simp), e1 xx (by simp)] at hs
    obtain ⟨c, off, cs, _, hc, rfl, hF⟩ := stepStore_form hs
    refine ⟨notA (by rw [how]; simp), wback how hod hop (hF E (by rw [putO_c] at hc; exact hc)) ⟨notA (by rw [hpn]; simp), (awG_val (.inl hpn)).2 ⟨x, gval_n (E := E) hpn (fun _ _ => rfl) hx, ?_⟩⟩⟩
    have e2 : (E.putc c (cs.take off ++ cellsOf (E.ev xx) ++ cs.drop (off + s))).putO p.dst x = (E.putO p.dst x).putc c (cs.take off ++ cellsOf (E.ev xx) ++ cs.drop (off + s)) := by cases p.dst <;> rfl
    rw [e2]
    exact hk
  have wn : p.cls = .w → o.cls = .n → awD P o E fun E1 => awD P p E1 K := by
    intro hpw hon
    obtain ⟨hpd, s, pp, xx, hop, F', hs, hco, ho⟩ := wform hpw hp
    obtain ⟨c, off, cs, _, hc, rfl, hF⟩ := stepStore_form hs
    obtain ⟨y, hy, hk⟩ := (awG_val (.inl hon)).1 ho
    have e1 : ∀ z ∈ opnds p.op, (E.putO o.dst y).ev z = E.ev z := ev_congr fun k hk => putO_s (c3 k (reads_op hk))
    rw [hop] at e1
    simp only [opnds] at e1
    refine ⟨notA (by rw [hon]; simp), (awG_val (.inl hon)).2 ⟨y, gval_n (E := E.putc c (cs.take off ++ cellsOf (E.ev xx) ++ cs.drop (off + s))) hon (fun _ _ => rfl) hy, notA (by rw [hpw]; simp), wback hpw hpd hop (by rw [e1 pp (by simp), e1 xx (by simp)]; exact hF _ (by rw [putO_c]; exact hc)) ?_⟩⟩
    have e2 : (E.putO o.dst y).putc c (cs.take off ++ cellsOf (E.ev xx) ++ cs.drop (off + s)) = (E.putc c (cs.take off ++ cellsOf (E.ev xx) ++ cs.drop (off + s))).putO o.dst y := by cases o.dst <;> rfl
    rw [e2]
    exact hk
  cases hpc : p.cls with
  | n =>
    cases hoc : o.cls with
    | n => exact vv (.inl hpc) (.inl hoc)
    | v => exact vv (.inl hpc) (.inr hoc)
    | a => exact va (.inl hpc) hoc
    | w => exact nw hpc hoc
    | x => rw [hpc, hoc] at hcls; cases hcls
  | v =>
    cases hoc : o.cls with
    | n => exact vv (.inr hpc) (.inl hoc)
    | v => exact vv (.inr hpc) (.inr hoc)
    | a => exact va (.inr hpc) hoc
    | w => rw [hpc, hoc] at hcls; cases hcls
    | x => rw [hpc, hoc] at hcls; cases hcls
  | a =>
    cases hoc : o.cls with
    | n => exact an hpc hoc
    | a => exact aa hpc hoc
    | v => rw [hpc, hoc] at hcls; cases hcls
    | w => rw [hpc, hoc] at hcls; cases hcls
    | x => rw [hpc, hoc] at hcls; cases hcls
  | w =>
    cases hoc : o.cls with
    | n => exact wn hpc hoc
    | v => rw [hpc, hoc] at hcls; cases hcls
    | a => rw [hpc, hoc] at hcls; cases hcls
    | w => rw [hpc, hoc] at hcls; cases hcls
    | x => rw [hpc, hoc] at hcls; cases hcls
  | x =>
    cases hoc : o.cls <;> rw [hpc, hoc] at hcls <;> cases hcls

theorem awD_mono {P : Program} {o : AOper} {E : Env} {K K' : Env → Prop} (hk : ∀ E, K E → K' E) (h : awD P o E K) : awD P o E K' := by
  refine ⟨h.1, ?_⟩
  have h2 := h.2
  have op : ∀ E, awOp P o E K → awOp P o E K' := by
    intro E h
    unfold awOp at h ⊢
    split at h
    · obtain ⟨as, r, h1, h2, h3⟩ := h; exact ⟨as, r, h1, h2, hk _ h3⟩
    · obtain ⟨f, a, b, h0, as, r, h1, h2, h3⟩ := h; exact ⟨f, a, b, h0, as, r, h1, h2, hk _ h3⟩
    · obtain ⟨E', h1, h2⟩ := h; exact ⟨E', h1, hk _ h2⟩
  unfold awG at h2 ⊢
  split at h2
  · exact op _ h2
  · obtain ⟨t, ht, h3, h4⟩ := h2
    exact ⟨t, ht, fun e => op _ (h3 e), fun e => hk _ (h4 e)⟩

/-- What may come ahead of all that stand ahead of it. -/
theorem bubble {P : Program} {o : AOper} {post : List AOper} {K : Env → Prop} : ∀ (pre : List AOper) (E : Env), (∀ p ∈ pre, comm p o = true) → awOpsD P (pre ++ o :: post) E K → awD P o E fun E' => awOpsD P (pre ++ post) E' K
  | [], E, _, h => h
  | p :: pre, E, hc, h => by
    simp only [List.cons_append, awOpsD] at h ⊢
    exact swap (hc p (by simp)) (awD_mono (fun E' h' => bubble pre E' (fun q hq => hc q (by simp [hq])) h') h)

end Go.Proofs.Ytlaklpeghjanjaa.VL
