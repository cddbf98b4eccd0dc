/- The value logic, part 0: the package-level variables that are read (by their numbers): errors; tables; integers. -/
import Derived.Orders
namespace Go.Proofs.YtodnphnbnneegaaDoor.VL
def GS : List Nat := [0]
/-- The type of these errors. -/
def GT : TypeId := 153
/-- Tables: what their cells hold. -/
def GD : List (Nat × List Value) := [(17, [.int .u64 1, .int .u64 10, .int .u64 100, .int .u64 1000, .int .u64 10000, .int .u64 100000, .int .u64 1000000, .int .u64 10000000, .int .u64 100000000, .int .u64 1000000000, .int .u64 10000000000, .int .u64 100000000000, .int .u64 1000000000000, .int .u64 10000000000000, .int .u64 100000000000000, .int .u64 1000000000000000, .int .u64 10000000000000000, .int .u64 100000000000000000, .int .u64 1000000000000000000, .int .u64 10000000000000000000])]
/-- Some integer. -/
def GI : List Nat := [5]
def GB : List Nat := GD.map (·.1) ++ GI
/-- What is known of these. -/
structure GOK (c : Nat → Option Obj) : Prop where
  tab : ∀ q ∈ GD, ∃ ty fr, c q.1 = some (.cells q.2.toArray ty fr)
  ints : ∀ g ∈ GI, ∃ cs ty fr m, c g = some (.cells cs ty fr) ∧ cs[0]? = some (.int .i64 m)
  sm : ∀ g ∈ GB, ∃ o, c g = some o
theorem GOK.congr {c c' : Nat → Option Obj} (h : ∀ g ∈ GB, ∀ o, c g = some o → c' g = some o) (hc : GOK c) : GOK c' :=
  ⟨fun q hq => let ⟨ty, fr, e⟩ := hc.tab q hq; ⟨ty, fr, h q.1 (List.mem_append_left _ (List.mem_map_of_mem hq)) _ e⟩,
    fun g hg => let ⟨cs, ty, fr, m, e, e2⟩ := hc.ints g hg; ⟨cs, ty, fr, m, h g (List.mem_append_right _ hg) _ e, e2⟩, fun g hg => let ⟨o, e⟩ := hc.sm g hg; ⟨o, h g hg o e⟩⟩
end Go.Proofs.YtodnphnbnneegaaDoor.VL
