/- addr: numbers and parts of texts: contracts out of the library's own. -/
import Derived.Test.YtodnphnbnneegaaDoorAddr2
import Derived.Test.YtodnphnbnneegaaDoorWorld
import Derived.Lib.SplitLaws
import Derived.Lib.SmallJoins
import Derived.Shelf.Strconv.AtoiAll
set_option linter.unusedVariables false
set_option linter.unusedSimpArgs false
set_option maxHeartbeats 4000000
namespace Go.Proofs.YtodnphnbnneegaaDoor.VL
open Go.RowKit Go.Proofs

abbrev f_strconv_Atoi : FuncId := 54
/-- What a text says as an int, if it does. -/
def numA (s : ByteArray) : Option Int := match Lib.atoiAll s.data.toList with
  | .ok v => some v
  | _ => none
def atoiR (s : ByteArray) : AV := match Lib.atoiAll s.data.toList with
  | .ok v => .tup [.lit (.int .i64 v), .lit .nilIface]
  | .range => .tup [.lit (.int .i64 (Lib.atoiSat s.data.toList)), .ifc 120 .dead]
  | _ => .tup [.lit (.int .i64 0), .ifc 120 .dead]

theorem C_Atoi (s : ByteArray) (hs : s.size ≤ 281474976710656) : AC Tryd.prog f_strconv_Atoi [avStr s] (atoiR s) := by
  have hen : Enters Tryd.prog f_strconv_Atoi := enters_of Tryd.func54 (by kernel_rfl) (by kernel_rfl)
  have hok : resOK (atoiR s) = true := by unfold atoiR; split <;> rfl
  refine ⟨hok, hen, fun R cargs hR hh _ hrep => ?_⟩
  simp only [RepL, Rep, avStr] at hrep
  obtain ⟨_, _, rfl, rfl, rfl⟩ := hrep
  have fin : ∀ {v : Value} {w' : World}, (∀ E : RE, Rep E (atoiR s) v) → Below R.w.heap.size R.w w' → ∃ v' E', Ending.returned v = .returned v' ∧ E'.w = w' ∧ Rep E' (atoiR s) v' ∧ After R E' ∧ R.Holds E' [] := by
    intro v w' hv hb
    refine ⟨v, { R with w := w' }, rfl, rfl, hv _, ⟨⟨hb.os, hb.tape, hb.output, hb.size, fun k hk _ => hb.block k hk⟩, hR.MS, fun b o _ => Iff.rfl, fun b o hs => Nat.lt_of_lt_of_le (hR.S b o hs) hb.size, rfl, fun g τ ho => (hR.own g τ ho).elim, fun g τ τ' ho => (hR.own g τ ho).elim⟩, fun c b hc => ?_⟩
    obtain ⟨cs, _, _, e, _⟩ := hh c b hc
    cases e
  have sent : ∀ g ∈ GS, ∃ ev, R.w.cell? ⟨g, 0, none⟩ = some ev ∧ (ev = .nilIface ∨ ∃ te pe, ev = .iface te pe) := fun g hg => ⟨_, hR.glob g hg, .inr ⟨_, _, rfl⟩⟩
  cases ha : Lib.atoiAll s.data.toList
  · rename_i v
    refine (Tryd.strconv_Atoi_ok s (by omega) v ha R.w).mono ?_
    rintro e w' ⟨rfl, hw⟩
    refine fin (fun E => ?_) ?_
    · simp only [atoiR, ha, Rep]
      exact ⟨[.int .i64 v, .nilIface], rfl, by simp only [RepL, Rep]; exact ⟨_, _, rfl, rfl, _, _, rfl, rfl, rfl⟩⟩
    · rcases hw with rfl | ⟨t, rfl⟩
      · exact Below.refl _ _
      · exact Go.Joins.below_bytesWorld _ _ _ _ (Nat.le_refl _)
  · obtain ⟨ev, h1, h2⟩ := sent 6 (by simp [GS])
    refine (Any.strconv_Atoi_syntax Tryd.laysC172 s hs ha ev R.w h1 h2).mono ?_
    rintro e w' ⟨N, rfl, _, _, hb⟩
    refine fin (fun E => ?_) hb
    simp only [atoiR, ha, Rep]
    exact ⟨[.int .i64 0, _], rfl, by simp only [RepL, Rep]; exact ⟨_, _, rfl, rfl, _, _, rfl, ⟨_, rfl, trivial⟩, rfl⟩⟩
  · obtain ⟨ev, h1, h2⟩ := sent 7 (by simp [GS])
    refine (Tryd.strconv_Atoi_range s hs ha ev R.w h1 h2).mono ?_
    rintro e w' ⟨N, rfl, _, _, hb⟩
    refine fin (fun E => ?_) hb
    simp only [atoiR, ha, Rep]
    exact ⟨[.int .i64 (Lib.atoiSat s.data.toList), _], rfl, by simp only [RepL, Rep]; exact ⟨_, _, rfl, rfl, _, _, rfl, ⟨_, rfl, trivial⟩, rfl⟩⟩


end Go.Proofs.YtodnphnbnneegaaDoor.VL
