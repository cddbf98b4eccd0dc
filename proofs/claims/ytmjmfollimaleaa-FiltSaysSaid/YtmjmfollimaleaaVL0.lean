/- The value logic, part 0: the package-level variables that are read (by their numbers): errors; tables; integers. -/
import Derived.Orders
namespace Go.Proofs.Ytmjmfollimaleaa.VL
def GS : List Nat := []
/-- The type of these errors. -/
def GT : TypeId := 0
/-- Tables: what their cells hold. -/
def GD : List (Nat × List Value) := []
/-- Some integer. -/
def GI : List Nat := []
def GB : List Nat := GD.map (·.1) ++ GI
/-- What is known of these. -/
structure GOK (c : Nat → Option Obj) : Prop where
  tab : ∀ q ∈ GD, ∃ ty fr, c q.1 = some (.cells q.2.toArray ty fr)
  ints : ∀ g ∈ GI, ∃ cs ty fr m, c g = some (.cells cs ty fr) ∧ cs[0]? = some (.int .i64 m)
  sm : ∀ g ∈ GB, ∃ o, c g = some o
theorem GOK.congr {c c' : Nat → Option Obj} (h : ∀ g ∈ GB, ∀ o, c g = some o → c' g = some o) (hc : GOK c) : GOK c' :=
  ⟨fun q hq => let ⟨ty, fr, e⟩ := hc.tab q hq; ⟨ty, fr, h q.1 (List.mem_append_left _ (List.mem_map_of_mem hq)) _ e⟩,
    fun g hg => let ⟨cs, ty, fr, m, e, e2⟩ := hc.ints g hg; ⟨cs, ty, fr, m, h g (List.mem_append_right _ hg) _ e, e2⟩, fun g hg => let ⟨o, e⟩ := hc.sm g hg; ⟨o, h g hg o e⟩⟩
end Go.Proofs.Ytmjmfollimaleaa.VL
