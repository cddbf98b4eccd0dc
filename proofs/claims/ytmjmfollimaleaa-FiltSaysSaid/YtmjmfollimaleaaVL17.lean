/- The value logic, part 17: a region that draws its order. -/
import Derived.Test.YtmjmfollimaleaaVL16
set_option linter.unusedVariables false
set_option linter.unusedSimpArgs false
namespace Go.Proofs.Ytmjmfollimaleaa.VL
open Go.RowKit

def edgesOf (o : Oper) : List Nat := (o.after.toList.filter fun e => Region.binds .any e).map (·.on)

def insN (l : List Nat) (k : Nat) : List Nat := if l.contains k then l else k :: l

/-- Who must have come ahead of each. -/
def befs : List Oper → List (List Nat) → List (List Nat)
  | [], acc => acc
  | o :: os, acc => befs os (acc ++ [((edgesOf o).flatMap fun e => e :: acc.getD e []).foldl insN []])

def okDraw (P : Program) (ops : Array Oper) : Bool :=
  let B := befs ops.toList []
  let L := ops.toList.map (resOperD P ops)
  ((List.range ops.size).all fun i => (match ops[i]? with | some o => (edgesOf o).all fun e => decide (e < i) | none => true) &&
    (List.range i).all fun k => (B.getD i []).contains k || comm (L.getD k default) (L.getD i default))

theorem mem_insN {l : List Nat} {k j : Nat} : j ∈ insN l k ↔ j = k ∨ j ∈ l := by
  unfold insN
  split
  · rename_i h
    simp at h
    constructor
    · exact .inr
    · rintro (rfl | h')
      · exact h
      · exact h'
  · simp

theorem mem_foldl_insN : ∀ (xs acc : List Nat) (j : Nat), j ∈ xs.foldl insN acc ↔ j ∈ xs ∨ j ∈ acc
  | [], acc, j => by simp
  | x :: xs, acc, j => by
    rw [List.foldl_cons, mem_foldl_insN xs (insN acc x) j, mem_insN]
    simp
    constructor
    · rintro (h | h | h)
      · exact .inl (.inr h)
      · exact .inl (.inl h)
      · exact .inr h
    · rintro ((h | h) | h)
      · exact .inr (.inl h)
      · exact .inl h
      · exact .inr (.inr h)

/-- 'l' is closed under what must have come ahead. -/
def Closed (ops : List Oper) (l : Nat → Bool) : Prop := ∀ i o, ops[i]? = some o → l i = true → ∀ e ∈ edgesOf o, l e = true

theorem befs_spec {l : Nat → Bool} : ∀ (os pre : List Oper) (acc : List (List Nat)), Closed (pre ++ os) l → acc.length = pre.length →
    (∀ i o, pre[i]? = some o → (∀ e ∈ edgesOf o, l e = true) → ∀ k ∈ acc.getD i [], l k = true) →
    ∀ i o, (pre ++ os)[i]? = some o → (∀ e ∈ edgesOf o, l e = true) → ∀ k ∈ (befs os acc).getD i [], l k = true
  | [], pre, acc, hc, hl, h => by
    simp only [befs, List.append_nil]
    exact h
  | o :: os, pre, acc, hc, hl, h => by
    have := befs_spec (l := l) os (pre ++ [o]) (acc ++ [((edgesOf o).flatMap fun e => e :: acc.getD e []).foldl insN []]) (by simpa using hc) (by simp [hl]) ?_
    · simp only [List.append_assoc, List.cons_append, List.nil_append] at this
      simp only [befs]
      exact this
    · intro i q hq he k hk
      by_cases hi : i < pre.length
      · rw [List.getElem?_append_left hi] at hq
        rw [List.getD_eq_getElem?_getD, List.getElem?_append_left (by omega), ← List.getD_eq_getElem?_getD] at hk
        exact h i q hq he k hk
      · have hi2 : i = pre.length := by
          have := (List.getElem?_eq_some_iff.1 hq).1
          simp at this
          omega
        subst hi2
        rw [List.getElem?_append_right (Nat.le_refl _)] at hq
        simp at hq
        subst hq
        rw [List.getD_eq_getElem?_getD, List.getElem?_append_right (by omega)] at hk
        simp only [hl, Nat.sub_self, List.getElem?_cons_zero, Option.getD_some] at hk
        rw [mem_foldl_insN] at hk
        rcases hk with hk | hk
        · obtain ⟨e, hee, hk⟩ := List.mem_flatMap.1 hk
          rcases List.mem_cons.1 hk with rfl | hk
          · exact he _ hee
          · have hle := he e hee
            by_cases hep : e < pre.length
            · have hpe : pre[e]? = some pre[e] := List.getElem?_eq_getElem hep
              refine h e _ hpe (fun e' he' => hc e pre[e] ?_ hle e' he') k hk
              rw [List.getElem?_append_left hep]
              exact hpe
            · rw [List.getD_eq_getElem?_getD, List.getElem?_eq_none (by omega)] at hk
              simp at hk
        · cases hk

section
variable {P : Program} {R : RE} {N : Nat} {env : Env} {a : Act} {E : RE}

def remI (listed : Array Bool) (n : Nat) : List Nat := (List.range n).filter fun i => !listed.getD i true

theorem range_split {n i : Nat} (hi : i < n) : List.range n = List.range i ++ i :: List.range' (i + 1) (n - i - 1) := by
  have h := List.range'_append_1 (s := 0) (m := i) (n := n - i - 1 + 1)
  rw [List.range_eq_range', List.range_eq_range', ← List.range'_succ]
  rw [Nat.zero_add] at h
  rw [h]
  congr 1
  omega

theorem count_set {listed : Array Bool} {n i : Nat} (hn : listed.size = n) (hi : i < n) (hu : listed.getD i true = false) :
    ∃ pre post, remI listed n = pre ++ i :: post ∧ remI (listed.setIfInBounds i true) n = pre ++ post ∧ ∀ k ∈ pre, k < i ∧ listed.getD k true = false := by
  refine ⟨(List.range i).filter fun k => !listed.getD k true, (List.range' (i + 1) (n - i - 1)).filter fun k => !listed.getD k true, ?_, ?_, ?_⟩
  · unfold remI
    have e : List.range n = List.range i ++ i :: List.range' (i + 1) (n - i - 1) := by
      exact range_split hi
    rw [e, List.filter_append, List.filter_cons, if_pos (by simp [hu])]
  · unfold remI
    have e : List.range n = List.range i ++ i :: List.range' (i + 1) (n - i - 1) := by
      exact range_split hi
    have hself : (listed.setIfInBounds i true).getD i true = true := by
      rw [Array.getD_eq_getD_getElem?, Array.getElem?_setIfInBounds]
      simp [hn, hi]
    have hother : ∀ k, k ≠ i → (listed.setIfInBounds i true).getD k true = listed.getD k true := by
      intro k hk
      rw [Array.getD_eq_getD_getElem?, Array.getElem?_setIfInBounds_ne (Ne.symm hk), ← Array.getD_eq_getD_getElem?]
    rw [e, List.filter_append, List.filter_cons, if_neg (by simp [hself])]
    congr 1
    · exact List.filter_congr fun k hk => by rw [hother k (by have := List.mem_range.1 hk; omega)]
    · exact List.filter_congr fun k hk => by rw [hother k (by have := (List.mem_range'_1.1 hk).1; omega)]
  · intro k hk
    obtain ⟨h1, h2⟩ := List.mem_filter.1 hk
    exact ⟨List.mem_range.1 h1, by simpa using h2⟩

theorem wpAny_aw (hR : R.Start) {ops : Array Oper} (hok : okDraw P ops = true) (hd : ∀ (j : Nat) (o : Oper) (k : Nat), ops[j]? = some o → o.dst = some k → k < N) {KE : Env → Prop} {Q : Exit → Act → World → Prop}
    (hQ : ∀ a' E' env', KE env' → Inv R N env' a' E' → Q .normal a' E'.w) :
    ∀ (fuel : Nat) (listed : Array Bool) (env : Env) (a : Act) (E : RE), Inv R N env a E → listed.size = ops.size → (remI listed ops.size).length ≤ fuel → Closed ops.toList (fun i => listed.getD i true) →
      awOpsD P ((remI listed ops.size).map fun i => (ops.toList.map (resOperD P ops)).getD i default) env KE → wpAny P .any ops Q fuel listed a E.w := by
  simp only [okDraw, List.all_eq_true, Bool.and_eq_true] at hok
  have hedge : ∀ i o, ops[i]? = some o → ∀ e ∈ edgesOf o, e < i := by
    intro i o ho e he
    have := (hok i (List.mem_range.2 (Array.getElem?_eq_some_iff.1 ho).1)).1
    rw [ho] at this
    simp only [List.all_eq_true, decide_eq_true_eq] at this
    exact this e he
  have hcomm : ∀ i, i < ops.size → ∀ k, k < i → ((befs ops.toList []).getD i []).contains k = true ∨ comm ((ops.toList.map (resOperD P ops)).getD k default) ((ops.toList.map (resOperD P ops)).getD i default) = true := by
    intro i hi k hk
    have := (hok i (List.mem_range.2 hi)).2 k (List.mem_range.2 hk)
    simpa using this
  -- who is ready
  have hready : ∀ (listed : Array Bool) i, i ∈ Region.ready .any ops listed ↔ ∃ o, ops[i]? = some o ∧ listed.getD i true = false ∧ ∀ e ∈ edgesOf o, listed.getD e false = true := by
    intro listed i
    unfold Region.ready
    rw [List.mem_filter]
    constructor
    · rintro ⟨h1, h2⟩
      have hi := List.mem_range.1 h1
      simp only [Bool.and_eq_true] at h2
      obtain ⟨h2, h3⟩ := h2
      rw [Array.getElem?_eq_getElem hi] at h3
      simp only [Option.map_some, Option.getD_some, Array.all_eq_true_iff_forall_mem] at h3
      refine ⟨ops[i], Array.getElem?_eq_getElem hi, by simpa using h2, fun e he => ?_⟩
      obtain ⟨e', he', rfl⟩ := List.mem_map.1 he
      obtain ⟨h4, h5⟩ := List.mem_filter.1 he'
      have := h3 e' (by simpa using h4)
      simpa [h5] using this
    · rintro ⟨o, ho, h1, h2⟩
      have hi := (Array.getElem?_eq_some_iff.1 ho).1
      refine ⟨List.mem_range.2 hi, ?_⟩
      rw [ho]
      simp only [Bool.and_eq_true, Option.map_some, Option.getD_some, Array.all_eq_true_iff_forall_mem]
      refine ⟨by simpa using h1, fun e he => ?_⟩
      cases hb : Region.binds .any e with
      | false => simp
      | true =>
        have := h2 e.on (List.mem_map.2 ⟨e, List.mem_filter.2 ⟨by simpa using he, hb⟩, rfl⟩)
        simpa using this
  intro fuel
  induction fuel with
  | zero =>
    intro listed env a E hI hsz hfuel hcl h
    have hnil : remI listed ops.size = [] := List.eq_nil_of_length_eq_zero (by omega)
    rw [hnil] at h
    refine ⟨?_, hQ a E env h hI⟩
    rw [List.eq_nil_iff_forall_not_mem]
    intro i hi
    obtain ⟨o, ho, hu, _⟩ := (hready listed i).1 hi
    have : i ∈ remI listed ops.size := List.mem_filter.2 ⟨List.mem_range.2 (Array.getElem?_eq_some_iff.1 ho).1, by simp [hu]⟩
    rw [hnil] at this
    cases this
  | succ fuel ih =>
    intro listed env a E hI hsz hfuel hcl h
    have inb : ∀ e, e < ops.size → listed.getD e false = listed.getD e true := by
      intro e he
      rw [Array.getD_eq_getD_getElem?, Array.getD_eq_getD_getElem?, Array.getElem?_eq_getElem (by omega)]
      simp
    refine ⟨fun hr => ?_, fun i hi => ?_⟩
    · cases hrem : remI listed ops.size with
      | nil => rw [hrem] at h; exact hQ a E env h hI
      | cons i rest =>
        -- the first that is left is ready
        have himem : i ∈ remI listed ops.size := by rw [hrem]; simp
        obtain ⟨hi1, hi2⟩ := List.mem_filter.1 himem
        have hin := List.mem_range.1 hi1
        have hiu : listed.getD i true = false := by simpa using hi2
        obtain ⟨pre, post, e1, _, e3⟩ := count_set hsz hin hiu
        have hpre : pre = [] := by
          cases pre with
          | nil => rfl
          | cons k pre =>
            rw [hrem] at e1
            simp only [List.cons_append, List.cons.injEq] at e1
            have := (e3 k (by simp)).1
            omega
        have : i ∈ Region.ready .any ops listed := by
          rw [hready]
          refine ⟨ops[i], Array.getElem?_eq_getElem hin, hiu, fun e he => ?_⟩
          have hlt := hedge i ops[i] (Array.getElem?_eq_getElem hin) e he
          rw [inb e (by omega)]
          cases hle : listed.getD e true with
          | true => rfl
          | false =>
            exfalso
            have hmem : e ∈ remI listed ops.size := List.mem_filter.2 ⟨List.mem_range.2 (by omega), by simp [hle]⟩
            obtain ⟨pre2, post2, e4, _, _⟩ := count_set hsz (show e < ops.size by omega) hle
            obtain ⟨pre', post', e5, _, e6⟩ := count_set hsz hin hiu
            subst hpre
            -- e stands behind i in what is left, but is less
            have hsorted : (remI listed ops.size).Pairwise (· < ·) := by
              unfold remI
              exact List.Pairwise.filter _ List.pairwise_lt_range
            rw [hrem] at hsorted hmem
            rcases List.mem_cons.1 hmem with rfl | hmem
            · omega
            · have := (List.pairwise_cons.1 hsorted).1 e hmem
              omega
        rw [hr] at this
        cases this
    · obtain ⟨o, ho, hu, hall⟩ := (hready listed i).1 hi
      have hin := (Array.getElem?_eq_some_iff.1 ho).1
      obtain ⟨pre, post, e1, e2, e3⟩ := count_set hsz hin hu
      have hLi : (ops.toList.map (resOperD P ops)).getD i default = resOperD P ops o := by
        rw [List.getD_eq_getElem?_getD, List.getElem?_map, Array.getElem?_toList, ho]
        rfl
      rw [e1, List.map_append, List.map_cons, hLi] at h
      have hall' : ∀ e ∈ edgesOf o, listed.getD e true = true := fun e he => by rw [← inb e (by have := hedge i o ho e he; omega)]; exact hall e he
      have hbub := bubble (pre.map fun k => (ops.toList.map (resOperD P ops)).getD k default) env (fun p hp => by
        obtain ⟨k, hk, rfl⟩ := List.mem_map.1 hp
        obtain ⟨hki, hku⟩ := e3 k hk
        rcases hcomm i hin k hki with hb | hb
        · exfalso
          have hsp := befs_spec (l := fun i => listed.getD i true) ops.toList [] [] hcl rfl (by simp) i o (by simpa using ho) hall' k (by simpa using hb)
          rw [hku] at hsp
          cases hsp
        · rw [hLi] at hb
          exact hb) h
      rw [← List.map_append, ← e2] at hbub
      have hdst : (resOperD P ops o).dst = o.dst := by
        show (resOper P ops o).dst = o.dst
        unfold resOper
        split <;> rfl
      refine wpOp_awD hI hR ho hd (KE := fun env' => awOpsD P ((remI (listed.setIfInBounds i true) ops.size).map fun i => (ops.toList.map (resOperD P ops)).getD i default) env' KE) ?_ fun v E' env' hk hI' => ?_
      · have h2 := hbub.2
        unfold awG at h2
        rw [hdst] at h2
        exact h2
      · refine ih _ env' _ E' hI' (by simpa using hsz) ?_ ?_ hk
        · rw [e2]
          have := congrArg List.length e1
          simp at this ⊢
          omega
        · intro j q hq hj e he
          have hq' : ops[j]? = some q := by simpa using hq
          simp only at hj ⊢
          have mono : listed.getD e true = true → (listed.setIfInBounds i true).getD e true = true := by
            intro h
            rw [Array.getD_eq_getD_getElem?] at h ⊢
            rw [Array.getElem?_setIfInBounds]
            split
            · split <;> simp
            · exact h
          by_cases hji : j = i
          · subst hji
            rw [ho] at hq'
            injection hq' with hq'
            subst hq'
            exact mono (hall' e he)
          · have hj' : listed.getD j true = true := by
              rw [Array.getD_eq_getD_getElem?, Array.getElem?_setIfInBounds_ne (Ne.symm hji), ← Array.getD_eq_getD_getElem?] at hj
              exact hj
            exact mono (hcl j q hq hj' e he)

def allocs (l : List AOper) : List Nat := l.filterMap fun o => match o.op with | .alloc _ | .box _ => o.dst | _ => none

def Env.freshL (E : Env) : List Nat → Env
  | [] => E
  | d :: ds => (E.fresh d).freshL ds

theorem Inv.freshL : ∀ (ds : List Nat) {env : Env} {E : RE}, Inv R N env a E → ∃ E', E'.w = E.w ∧ Inv R N (env.freshL ds) a E'
  | [], env, E, h => ⟨E, rfl, h⟩
  | d :: ds, env, E, h => by
    obtain ⟨E1, h1, h2, _⟩ := h.fresh d
    obtain ⟨E2, h3, h4⟩ := Inv.freshL ds h2
    exact ⟨E2, h3.trans h1, h4⟩

/-- A region that draws its order. -/
theorem wp_draw_aw (hI : Inv R N env a E) (hR : R.Start) (hm : P.follows .mixedOrders = true) {id : Nat} {ops : Array Oper} (hok : okDraw P ops = true) (hd : ∀ (j : Nat) (o : Oper) (k : Nat), ops[j]? = some o → o.dst = some k → k < N)
    {KE : Env → Prop} {Q : Exit → Act → World → Prop} (h : awOpsD P (ops.toList.map (resOperD P ops)) (env.freshL (allocs (ops.toList.map (resOperD P ops)))) KE)
    (hQ : ∀ a' E' env', KE env' → Inv R N env' a' E' → Q .normal a' E'.w) : (Code.region id ops true).wp P Q a E.w := by
  obtain ⟨E1, h1, h2⟩ := hI.drew.freshL (allocs (ops.toList.map (resOperD P ops)))
  have hw : { E.w with drawn := E.w.drawn + 1 } = E1.w := by rw [h1]; rfl
  refine wp_region_any hm ?_
  rw [hw]
  have hrem : remI (Array.replicate ops.size false) ops.size = List.range ops.size := by
    unfold remI
    rw [List.filter_eq_self]
    intro i hi
    have := List.mem_range.1 hi
    simp [Array.getD_eq_getD_getElem?, this]
  refine wpAny_aw hR hok hd hQ ops.size _ _ a E1 h2 (by simp) (by rw [hrem]; simp) ?_ ?_
  · intro i o ho hi
    have hlt : i < ops.size := by have := (List.getElem?_eq_some_iff.1 ho).1; simpa using this
    simp [Array.getD_eq_getD_getElem?, hlt] at hi
  · rw [hrem]
    have : (List.range ops.size).map (fun i => (ops.toList.map (resOperD P ops)).getD i default) = ops.toList.map (resOperD P ops) := by
      apply List.ext_getElem?
      intro j
      by_cases hj : j < ops.size
      · simp [List.getElem?_map, hj, List.getD_eq_getElem?_getD]
      · simp [hj]
    rw [this]
    exact h

end
end Go.Proofs.Ytmjmfollimaleaa.VL
