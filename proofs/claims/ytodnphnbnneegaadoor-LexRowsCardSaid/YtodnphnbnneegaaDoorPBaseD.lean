/- At a seat of cards: what the statements' proofs share: arguments by their shapes. -/
import Derived.Test.YtodnphnbnneegaaDoorRows
import Derived.Test.YtodnphnbnneegaaDoorVL22
import Derived.Test.YtodnphnbnneegaaDoorCards
import Derived.Test.YtodnphnbnneegaaDoorTie
import Derived.LaidMore
import Derived.OpenShut
import Derived.Stop.Joined
import Derived.HandedShaped
import Derived.Shelf.Vars
import Derived.Lib.LaidTab
import Derived.SevenTiedAt
import Derived.ProofKit
set_option linter.unusedVariables false
namespace Go.Proofs.YtodnphnbnneegaaDoor
open Go.RowKit VL

theorem ownK : ownKnob Tryd.prog.godebug = none := by kernel_rfl

/-- The wrap of a row that lists variables, the world's shape kept. -/
theorem returns_laid {H : Type} {enc : TypeId × Value → H} {a : Assume} {C : Checked} {os : Os} {f : FuncId} {fn : Func} {s : ChangeSpec} {conds : List PathCond} {apart fresh handsOn again : Bool} {X : World → Array Value → Prop}
    (hX : ∀ (w w' : World) (args : Array Value), w.heap = w'.heap → X w args → X w' args)
    (own : ownKnob C.prog.godebug = none) (started : os.Started) (noInit : C.prog.inits.idxOf? f = none) (hfn : C.prog.funcs[f]? = some fn)
    (witness : ∃ (w : World) (tape : Tape) (i : Input), w.os = os ∧ (w.forCall tape i).Shaped C.prog ∧ i.vars = [] ∧ Input.okWide C.prog (w.forCall tape i) .any w.heap.size f i ∧
      ((s.pre enc C.prog fn conds apart (w.forCall tape i).memory i.args ∧ X (w.forCall tape i).memory i.args) ∧ sizedMet enc C.prog fn (OpenSpec.ofChange s) apart (w.forCall tape i).memory i.args) ∧ a.holds C.prog (lone (Frame.enter C.prog f i.args .normal) [] (w.forCall tape i)))
    (contract : ∀ (W : World) (base : Nat) (args : Array Value) (ds gs : List (DataW H)) (before : List MemPlace),
      (∀ (j : Nat) t v, fn.params[j]? = some t → args[j]? = some v → Value.okWide C.prog W .any base t v) →
      DataW.Whole enc C.prog fn.params.toList s.vars apart W args.toList ds gs before →
      conds.all (PathCond.test C.prog ⟨fn.params.toList, ds, s.plain.varTypes C.prog, gs⟩) = true →
      (DataW.weightsEach C.prog (fn.params.toList ++ s.plain.varTypes C.prog) (ds ++ gs)).all (· ≤ reachBytes) = true → X W args →
      W.ShapedOpen C.prog →
      a.holds C.prog (lone (Frame.enter C.prog f args .normal) [] W) →
      Calls C.prog f args W fun e W' => ∃ v, e = .returned v ∧ s.post enc C.prog fn apart fresh handsOn again W args v W') :
    ReturnsInHanded a C os f .any (fun w args => (s.pre enc C.prog fn conds apart w args ∧ X w args) ∧ sizedMet enc C.prog fn (OpenSpec.ofChange s) apart w args) (s.post enc C.prog fn apart fresh handsOn again) := by
  refine returnsInHanded_of_calls own started noInit witness ?_
  intro w tape i _ hsh _ hok hpre hholds
  obtain ⟨_, _, _, fn', hfn', _, _, _, _, hval⟩ := hok
  have e : fn' = fn := Option.some.inj (hfn'.symm.trans hfn)
  subst e
  obtain ⟨⟨⟨ds, gs, before, hw, hc⟩, hx⟩, hz⟩ := hpre
  have hw' := DataW.Whole.of_heap (w' := w.forCall tape i) (by rfl) hw
  refine (contract (w.forCall tape i) w.heap.size i.args ds gs before hval hw' hc (hz.weights hw) (hX _ _ _ (by rfl) hx) hsh hholds).mono fun e W' ⟨v, he, hp⟩ => ?_
  subst he
  exact ChangeSpec.post_blind hp

namespace VL
theorem cells_of_cell {W : World} {b : Nat} {v : Value} (h : W.cell? ⟨b, 0, none⟩ = some v) : ∃ cs ty fr, W.heap[b]? = some (.cells cs ty fr) ∧ cs[0]? = some v := by
  unfold World.cell? at h
  split at h
  · rename_i cs ty fr hh
    exact ⟨cs, ty, fr, hh, by simpa using h⟩
  all_goals cases h

theorem cells_of_var {P : Program} {W : World} {n : String} {g : Nat} {cs : Array Value} (hg : P.globalNamed n = some g) (h : W.var? P n = some cs) : ∃ ty fr, W.heap[g]? = some (.cells cs ty fr) := by
  unfold World.var? at h
  rw [hg] at h
  simp only [Option.bind_some] at h
  split at h
  · rename_i cs' ty fr hh
    injection h with h
    subst h
    exact ⟨ty, fr, hh⟩
  · cases h

theorem fit_int {k : IntKind} {cs : List AV} (h : FitL [.int k] cs) : ∃ n : Int, (Lit.int k n).wf = true ∧ mkRow false cs = .lit (.int k n) := by
  simp only [FitL, Fit] at h
  obtain ⟨_, _, rfl, ⟨n, rfl, hw⟩, rfl⟩ := h
  exact ⟨n, hw, rfl⟩

theorem fit_u32 {cs : List AV} (h : FitL [.int .u32] cs) : ∃ n : Nat, n < 4294967296 ∧ mkRow false cs = .lit (.int .u32 (n : Nat)) := by
  obtain ⟨n, hw, e⟩ := fit_int h
  have hr : 0 ≤ n ∧ n < 4294967296 := by
    simp [Lit.wf, IntKind.min, IntKind.max, IntKind.bits, IntKind.signed] at hw
    omega
  exact ⟨n.toNat, by omega, by rw [e, Int.toNat_of_nonneg hr.1]⟩

/-- Rows, each told by something. -/
theorem fit_u8 {cs : List AV} (h : FitL [.int .u8] cs) : ∃ n : Nat, n < 256 ∧ mkRow false cs = .lit (.int .u8 (n : Nat)) := by
  obtain ⟨n, hw, e⟩ := fit_int h
  have hr : 0 ≤ n ∧ n < 256 := by
    simp [Lit.wf, IntKind.min, IntKind.max, IntKind.bits, IntKind.signed] at hw
    omega
  exact ⟨n.toNat, by omega, by rw [e, Int.toNat_of_nonneg hr.1]⟩

/-- Rows, each told by something. -/
theorem fit_rows {α : Type} (f : α → AV) {agg : Bool} {row : List SC} (hf : ∀ cs, FitL row cs → ∃ a, mkRow agg cs = f a) : ∀ rows : List (List AV), (∀ cs ∈ rows, FitL row cs) → ∃ l : List α, rows.map (mkRow agg) = l.map f
  | [], _ => ⟨[], rfl⟩
  | cs :: rows, h => by
    obtain ⟨a, ha⟩ := hf cs (h cs (by simp))
    obtain ⟨l, hl⟩ := fit_rows f hf rows fun c hc => h c (by simp [hc])
    exact ⟨a :: l, by simp [ha, hl]⟩

theorem fit_slice {α : Type} (f : α → AV) {agg : Bool} {row : List SC} {cs : List AV} (hf : ∀ cs, FitL row cs → ∃ a, mkRow agg cs = f a) (h : FitL [.sl agg row] cs) : ∃ l : List α, l.length ≤ maxLen ∧ mkRow false cs = .sl .none row.length (l.map f) := by
  simp only [FitL, Fit] at h
  obtain ⟨_, _, rfl, ⟨rows, rfl, hm, hr⟩, rfl⟩ := h
  obtain ⟨l, hl⟩ := fit_rows f hf rows hr
  have hlen : l.length = rows.length := by have := congrArg List.length hl; simpa using this.symm
  exact ⟨l, by omega, by simp only [mkRow, List.headD_cons, hl]⟩

/-- Rows that bear something more than their look. -/
theorem fit_rowsP {α : Type} (f : α → AV) (Q : α → Prop) {agg : Bool} {row : List SC} (hf : ∀ cs, FitL row cs → ∃ a, Q a ∧ mkRow agg cs = f a) : ∀ rows : List (List AV), (∀ cs ∈ rows, FitL row cs) → ∃ l : List α, (∀ a ∈ l, Q a) ∧ rows.map (mkRow agg) = l.map f
  | [], _ => ⟨[], by simp, rfl⟩
  | cs :: rows, h => by
    obtain ⟨a, hq, ha⟩ := hf cs (h cs (by simp))
    obtain ⟨l, hql, hl⟩ := fit_rowsP f Q hf rows fun c hc => h c (by simp [hc])
    exact ⟨a :: l, by simpa using ⟨hq, hql⟩, by simp [ha, hl]⟩

theorem fit_sliceP {α : Type} (f : α → AV) (Q : α → Prop) {agg : Bool} {row : List SC} {cs : List AV} (hf : ∀ cs, FitL row cs → ∃ a, Q a ∧ mkRow agg cs = f a) (h : FitL [.sl agg row] cs) : ∃ l : List α, l.length ≤ maxLen ∧ (∀ a ∈ l, Q a) ∧ mkRow false cs = .sl .none row.length (l.map f) := by
  simp only [FitL, Fit] at h
  obtain ⟨_, _, rfl, ⟨rows, rfl, hm, hr⟩, rfl⟩ := h
  obtain ⟨l, hq, hl⟩ := fit_rowsP f Q hf rows hr
  have hlen : l.length = rows.length := by have := congrArg List.length hl; simpa using this.symm
  exact ⟨l, by omega, hq, by simp only [mkRow, List.headD_cons, hl]⟩
end VL

end Go.Proofs.YtodnphnbnneegaaDoor
