/- What rows that list no table ask, where no integer of the library's is read: nothing. -/
import Derived.Test.YtmjmfollimaleaaPBase
set_option linter.unusedVariables false
namespace Go.Proofs.Ytmjmfollimaleaa
open Go.RowKit VL

theorem gokN (c : Nat → Option Obj) : GOK c :=
  ⟨fun q hq => (by cases hq), fun g hg => (by cases hg), fun g hg => (by cases hg)⟩

end Go.Proofs.Ytmjmfollimaleaa
