/- The errors that a row lists stand each at a place of its own. -/
import Derived.Test.YtodnphnbnneegaaDoorPBaseD
import Derived.Stop.LaidErr
set_option linter.unusedVariables false
namespace Go.Proofs.YtodnphnbnneegaaDoor
open Go.RowKit VL

/-- The name of a listed error. -/
def isS : String × DataW Unit → Option String
  | (n, .iface nm (.ptr (.agg [.lit (.string _)]))) => if nm = "*errors.errorString" then some n else none
  | _ => none
theorem isS_some {e : String × DataW Unit} {n : String} (h : isS e = some n) : ∃ text, e = (n, .iface "*errors.errorString" (.ptr (.agg [.lit (.string text)]))) := by
  unfold isS at h
  split at h
  · split at h
    · rename_i hn
      injection h with h
      subst h hn
      exact ⟨_, rfl⟩
    · cases h
  · cases h

theorem row_err (u : TypeId) (h : Tryd.prog.typeName? 3 u = some "*errors.errorString") : u = GT :=
  typeName_ptr_named (nm := "errors.errorString") (by rw [show "*" ++ "errors.errorString" = "*errors.errorString" by decide]; kernel_rfl) (by kernel_rfl) (by decide) u (by rw [show "*" ++ "errors.errorString" = "*errors.errorString" by decide]; exact h)

def SOK (P : Program) (W : World) (n : String) (a : Addr) : Prop :=
  ∃ g, P.globalNamed n = some g ∧ W.cell? ⟨g, 0, none⟩ = some (.iface GT (.pointer (some a))) ∧ ∃ cs ty, W.heap[a.block]? = some (.cells cs ty (0, 0))
def SRel (P : Program) (W : World) : List String → List Addr → Prop
  | [], [] => True
  | n :: ns, a :: al => SOK P W n a ∧ SRel P W ns al
  | _, _ => False

theorem srel_get {P : Program} {W : World} : ∀ {ns : List String} {al : List Addr}, SRel P W ns al → ∀ (i : Nat) (n : String), ns[i]? = some n → ∃ a, al[i]? = some a ∧ SOK P W n a
  | [], _, _, i, n, h => by simp at h
  | _ :: _, [], h, _, _, _ => by simp [SRel] at h
  | m :: ns, a :: al, h, 0, n, hn => by
    simp only [List.getElem?_cons_zero, Option.some.injEq] at hn
    subst hn
    exact ⟨a, rfl, h.1⟩
  | m :: ns, a :: al, h, i + 1, n, hn => by
    simp only [List.getElem?_cons_succ] at hn ⊢
    exact srel_get h.2 i n hn

noncomputable def entB (P : Program) (e : String × DataW Unit) : Bool := match isS e with
  | some n => (match P.globalNamed n with
    | some g => decide ((P.globals[g]?).map (·.type) = some 40)
    | none => false)
  | none => true
theorem laid_sents {P : Program} {te ts : TypeId} {ms : Array (String × TypeId)} {f : Field} (hi : P.underlying 40 = some (.interface ms)) (hrow : ∀ u, P.typeName? 3 u = some "*errors.errorString" → u = GT) (hp : P.underlying GT = some (.pointer te))
    (he : P.underlying te = some (.struct #[f])) (hft : f.type = ts) (hfo : f.offset = 0) (hs' : P.underlying ts = some .string) (hc : P.cellsOf te = 1) (hcs : P.cellsOf ts = 1) {W : World} : ∀ (L : List (String × DataW Unit)) (ps : List MemPlace), DataW.LaidVars P W L ps → ps.Nodup →
    (∀ b off, MemPlace.cell b off ∈ ps → (∃ c t, W.heap[b]? = some (.cells c t (0, 0))) ∧ ∀ u v, W.cell? ⟨b, off, none⟩ = some (.iface u v) → Value.okWide P W .any 0 u v) →
    L.all (entB P) = true →
    ∃ al, SRel P W (L.filterMap isS) al ∧ al.Nodup ∧ ∀ a ∈ al, MemPlace.cell a.block a.off ∈ ps
  | [], ps, h, _, _, _ => ⟨[], by simp [SRel], List.nodup_nil, fun a ha => by cases ha⟩
  | e :: r, ps, h, hnd, hrows, hty => by
    obtain ⟨n, d⟩ := e
    obtain ⟨g, t, cs, fuel, p, q, hg, ht, hv, hd, hq, rfl⟩ := h
    simp only [List.all_cons, Bool.and_eq_true] at hty
    have hndq : q.Nodup := List.Nodup.sublist (List.sublist_append_right _ _) hnd
    obtain ⟨al, h1, h2, h3⟩ := laid_sents hi hrow hp he hft hfo hs' hc hcs r q hq hndq (fun b off hm => hrows b off (List.mem_append_right _ hm)) hty.2
    cases hs : isS (n, d) with
    | none =>
      refine ⟨al, ?_, h2, fun a ha => List.mem_append_right _ (h3 a ha)⟩
      rw [List.filterMap_cons, hs]
      exact h1
    | some m =>
      obtain ⟨text, hE⟩ := isS_some hs
      injection hE with hE1 hE2
      subst hE1 hE2
      have hti := hty.1
      simp only [entB, hs, hg, decide_eq_true_eq] at hti
      obtain rfl := Option.some.inj (hti.symm.trans ht)
      obtain ⟨l0⟩ := cs
      have ok0 : ∀ u v, l0 = [.iface u v] → Value.okWide P W .any 0 u v := fun u v e => by
        subst e
        exact (hrows g 0 (by simp [MemPlace.row])).2 u v (by simpa using World.var?_cell hg hv 0)
      obtain ⟨a0, s0, rfl, hc0, hs0, hz0, rfl⟩ := errorString_of_trod hi hrow hp he hft hfo hs' hc hcs hd ok0
      have hcell : W.cell? ⟨g, 0, none⟩ = some (.iface GT (.pointer (some a0))) := by simpa using World.var?_cell hg hv 0
      have hm0 : MemPlace.cell a0.block a0.off ∈ MemPlace.row a0 1 := by simp [MemPlace.row]
      refine ⟨a0 :: al, ?_, ?_, ?_⟩
      · rw [List.filterMap_cons, hs]
        exact ⟨⟨g, hg, hcell, (hrows a0.block a0.off (List.mem_append_left _ (List.mem_append_right _ hm0))).1⟩, h1⟩
      · rw [List.nodup_cons]
        refine ⟨fun hmem => ?_, h2⟩
        have hq0 := h3 a0 hmem
        have := (List.nodup_append.1 hnd).2.2 _ (List.mem_append_right _ hm0) _ hq0
        exact this rfl
      · intro a ha
        rcases List.mem_cons.1 ha with rfl | ha
        · exact List.mem_append_left _ (List.mem_append_right _ hm0)
        · exact List.mem_append_right _ (h3 a ha)

theorem cellsE : Tryd.prog.cellsOf 155 = 1 := by kernel_rfl
theorem cellsS : Tryd.prog.cellsOf 9 = 1 := by kernel_rfl

/-- The errors that are read are listed. -/
noncomputable def sentB (L : List (String × DataW Unit)) : Bool :=
  L.all (entB Tryd.prog) && (GS.all fun g => (L.filterMap isS).any fun n => decide (Tryd.prog.globalNamed n = some g))

theorem sentAt_of {W : World} {L : List (String × DataW Unit)} (h : laidMet Tryd.prog L W) (hb : sentB L = true) : SentAt W := by
  obtain ⟨ps, hv, hnd, hrows⟩ := h
  simp only [sentB, Bool.and_eq_true] at hb
  obtain ⟨al, h1, h2, _⟩ := laid_sents Tryd.underlying40 row_err Tryd.underlying153 Tryd.underlying155 rfl rfl Tryd.underlying9 cellsE cellsS L ps hv hnd hrows hb.1
  have key : ∀ g ∈ GS, ∃ (i : Nat) (a : Addr), al[i]? = some a ∧ (L.filterMap isS)[i]?.bind Tryd.prog.globalNamed = some g ∧ W.cell? ⟨g, 0, none⟩ = some (.iface GT (.pointer (some a))) ∧ ∃ cs ty, W.heap[a.block]? = some (.cells cs ty (0, 0)) := by
    intro g hg
    have h3 := List.all_eq_true.1 hb.2 g hg
    obtain ⟨n, hn, h4⟩ := List.any_eq_true.1 h3
    have h4 : Tryd.prog.globalNamed n = some g := by simpa using h4
    obtain ⟨i, hi⟩ := List.getElem?_of_mem hn
    obtain ⟨a, ha, g', hg', hc, hh⟩ := srel_get h1 i n hi
    obtain rfl : g' = g := Option.some.inj (hg'.symm.trans h4)
    exact ⟨i, a, ha, by rw [hi]; exact h4, hc, hh⟩
  refine ⟨fun g hg => ?_, fun g hg k hk a t u e1 e2 => ?_⟩
  · obtain ⟨i, a, _, _, hc, cs, ty, hh⟩ := key g hg
    exact ⟨a, cs, ty, hc, hh⟩
  · obtain ⟨i, a1, ha1, hi, hc1, _⟩ := key g hg
    obtain ⟨j, a2, ha2, hj, hc2, _⟩ := key k hk
    rw [hc1] at e1
    rw [hc2] at e2
    injection e1 with e1
    injection e1 with _ e1
    injection e1 with e1
    injection e1 with e1
    injection e2 with e2
    injection e2 with _ e2
    injection e2 with e2
    injection e2 with e2
    subst e1 e2
    have hi1 := (List.getElem?_eq_some_iff.1 ha1).1
    have hij : i = j := (List.getElem?_inj hi1 h2).1 (ha1.trans ha2.symm)
    subst hij
    exact Option.some.inj (hi.symm.trans hj)

end Go.Proofs.YtodnphnbnneegaaDoor
