/- The value logic, part 23: contracts out of the library's own. -/
import Derived.Test.YtmjmfollimaleaaVL21
import Derived.Deep.Draws
set_option linter.unusedVariables false
namespace Go.Proofs.Ytmjmfollimaleaa.VL
open Go.RowKit

/-- A contract of the library as one of ours: what comes back lies in no memory. -/
theorem AC_lib {P : Program} {f : FuncId} {args : List AV} {r : AV} {v : Value} (hen : Enters P f) (hok : resOK r = true) (hr : ∀ E : RE, Rep E r v)
    (h : ∀ (R : RE) (cargs : List Value), R.Start → RepL R args cargs → Calls P f cargs.toArray R.w fun e w' => e = .returned v ∧ Below R.w.heap.size R.w w') : AC P f args r := by
  refine ⟨hok, hen, fun R cargs hR hh _ hrep => (h R cargs hR hrep).mono ?_⟩
  rintro e w' ⟨rfl, hb⟩
  refine ⟨v, { R with w := w' }, rfl, rfl, hr _, ⟨⟨hb.os, hb.tape, hb.output, hb.size, fun k hk _ => hb.block k hk⟩, hR.MS, fun b o _ => Iff.rfl, fun b o hs => Nat.lt_of_lt_of_le (hR.S b o hs) hb.size, rfl, fun g τ ho => (hR.own g τ ho).elim, fun g τ τ' ho => (hR.own g τ ho).elim, fun c b hc => hc⟩, fun c b hc => ?_⟩
  obtain ⟨cs, _, _, e, _⟩ := hh c b hc
  cases e

theorem below_drewN (w : World) (n : Nat) : Below w.heap.size w (w.drewN n) := ⟨rfl, rfl, rfl, Nat.le_refl _, fun _ _ => rfl⟩

end Go.Proofs.Ytmjmfollimaleaa.VL
