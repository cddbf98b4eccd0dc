/-
  NARROWER THAN 'FOR EVERY INPUT', by the rows' own cells (each row's printed sentence says how): SeatRanks: laid · TopoLines: laid · RibLines: laid · RibDeep: laid · RibLeast: laid · RibRings: laid.
  DERIVED. THE GIVEN ROWS OF THIS SEAT. 6 by the template 'for every input the law returns true; each argument reads behind the call as it read before'; 0 by the template 'total and deterministic' (their statements: YtjceingdmfogeaaDoorTotals.lean).
  GIVEN WITH THE SEED: the statements are not yours to turn. If you find one false, say at which input.
  Laid BY PROGRAM, IN A SANDBOX (cutbox-rows.mjs): the forced cells as the released guide's own fill.sh prints them over the translation 13367016cf67bda2… (all of the seat's roots in one cut). By AI agents, Wed Nov 11 2026. No macro, syntax, notation, axiom, sorry.
-/
import Derived.Test.YtjceingdmfogeaaDoorChecked
import GoSem.Claim
import GoSem.ClaimJoined
import GoSem.ClaimMapViews
import Derived.JoinedTies
import Derived.KernelRfl
namespace Go.Proofs.YtjceingdmfogeaaDoor
/- THE CELL 'sum', in the pinned program and in every row, IS THE sha256 OF THE DUMP (.gsa) THAT YtjceingdmfogeaaDoorProg.lean LOADS. Nothing in Lean hashes anything: it is a label: what it is worth is what the hold of that sum in a sandbox is worth. -/
noncomputable def Tryd.pinned : Pinned := { name := "ytjceingdmfogeaadoor", sum := "13367016cf67bda2080f7ca0e52329addec25ec403dcd240cf4211f4c0b3b90b", checked := Tryd.checked }
namespace Rows
def none {H : Type} : Left H := { results := [], args := [] }

/- WHAT THE LISTED PACKAGE-LEVEL VARIABLES READ AS WHEN THE CALL BEGINS. Each datum BY PROGRAM (the guide's laid-datum.mjs) off the statement by which the dump's own 'gosem.cut.vars' lays the variable. In a bare row this is a premise. The card (YtjceingdmfogeaaDoorCards.lean) ties it to the program's text. -/
def laid_rivulet_api_ErrRange {H : Type} : DataW H := .iface "*errors.errorString" (.ptr (.agg [.lit (.string [97, 32, 110, 117, 109, 98, 101, 114, 32, 111, 117, 116, 32, 111, 102, 32, 105, 116, 115, 32, 114, 97, 110, 103, 101])]))
def laid_rivulet_api_ErrMany {H : Type} : DataW H := .iface "*errors.errorString" (.ptr (.agg [.lit (.string [116, 111, 111, 32, 109, 97, 110, 121])]))
def laid_rivulet_api_ErrName {H : Type} : DataW H := .iface "*errors.errorString" (.ptr (.agg [.lit (.string [110, 111, 116, 32, 97, 32, 110, 97, 109, 101])]))
def laid_rivulet_api_ErrTwice {H : Type} : DataW H := .iface "*errors.errorString" (.ptr (.agg [.lit (.string [116, 104, 101, 114, 101, 32, 105, 115, 32, 111, 110, 101])]))
def laid_rivulet_api_ErrNone {H : Type} : DataW H := .iface "*errors.errorString" (.ptr (.agg [.lit (.string [116, 104, 101, 114, 101, 32, 105, 115, 32, 110, 111, 110, 101])]))
def laid_rivulet_api_ErrAway {H : Type} : DataW H := .iface "*errors.errorString" (.ptr (.agg [.lit (.string [110, 111, 116, 32, 111, 110, 32, 116, 104, 97, 116, 32, 108, 105, 110, 107])]))
def laid_rivulet_api_ErrKind {H : Type} : DataW H := .iface "*errors.errorString" (.ptr (.agg [.lit (.string [110, 111, 116, 32, 111, 102, 32, 116, 104, 97, 116, 32, 107, 105, 110, 100])]))

/-- 'rivuletlaw12.SeatRanks': WHATEVER THE INPUT: true; the input reads as it did. -/
def seatRanksSpec : ChangeSpec := { name := "seatRanks", fn := fun _ => fun
  | [d] => { results := [.lit (.bool true)], args := [d] }
  | _ => none }
def seatRanksRow : OpenClaim := { program := "ytjceingdmfogeaadoor", sum := "13367016cf67bda2080f7ca0e52329addec25ec403dcd240cf4211f4c0b3b90b", func := "rivulet/rivuletlaw12.SeatRanks", spec := "seatRanks", unfollowed := true, recurses := true, named := ["rivulet/api.ErrMany", "rivulet/api.ErrTwice", "rivulet/api.ErrRange", "rivulet/api.ErrName", "rivulet/api.ErrKind", "rivulet/api.ErrNone", "rivulet/api.ErrAway"], apart := false, laid := [("rivulet/api.ErrRange", laid_rivulet_api_ErrRange), ("rivulet/api.ErrMany", laid_rivulet_api_ErrMany), ("rivulet/api.ErrName", laid_rivulet_api_ErrName), ("rivulet/api.ErrTwice", laid_rivulet_api_ErrTwice), ("rivulet/api.ErrNone", laid_rivulet_api_ErrNone), ("rivulet/api.ErrAway", laid_rivulet_api_ErrAway), ("rivulet/api.ErrKind", laid_rivulet_api_ErrKind)] }
def SeatRanksSaid : Prop := seatRanksRow.holds Tryd.pinned (OpenSpec.ofChange seatRanksSpec)

/-- ITS FALSE NEIGHBOUR: 'it returns false'. Refute it at one input. -/
def seatRanksWrong : ChangeSpec := { name := "seatRanks", fn := fun _ => fun
  | [d] => { results := [.lit (.bool false)], args := [d] }
  | _ => none }
def SeatRanksWrongFalsely : Prop := seatRanksRow.holds Tryd.pinned (OpenSpec.ofChange seatRanksWrong)

/-- 'rivuletlaw8.TopoLines': WHATEVER THE INPUT: true; the input reads as it did. -/
def topoLinesSpec : ChangeSpec := { name := "topoLines", fn := fun _ => fun
  | [d] => { results := [.lit (.bool true)], args := [d] }
  | _ => none }
def topoLinesRow : OpenClaim := { program := "ytjceingdmfogeaadoor", sum := "13367016cf67bda2080f7ca0e52329addec25ec403dcd240cf4211f4c0b3b90b", func := "rivulet/rivuletlaw8.TopoLines", spec := "topoLines", unfollowed := true, recurses := true, named := ["rivulet/api.ErrMany", "rivulet/api.ErrTwice", "rivulet/api.ErrRange", "rivulet/api.ErrName", "rivulet/api.ErrKind", "rivulet/api.ErrNone", "rivulet/api.ErrAway"], apart := false, laid := [("rivulet/api.ErrRange", laid_rivulet_api_ErrRange), ("rivulet/api.ErrMany", laid_rivulet_api_ErrMany), ("rivulet/api.ErrName", laid_rivulet_api_ErrName), ("rivulet/api.ErrTwice", laid_rivulet_api_ErrTwice), ("rivulet/api.ErrNone", laid_rivulet_api_ErrNone), ("rivulet/api.ErrAway", laid_rivulet_api_ErrAway), ("rivulet/api.ErrKind", laid_rivulet_api_ErrKind)] }
def TopoLinesSaid : Prop := topoLinesRow.holds Tryd.pinned (OpenSpec.ofChange topoLinesSpec)

/-- ITS FALSE NEIGHBOUR: 'it returns false'. Refute it at one input. -/
def topoLinesWrong : ChangeSpec := { name := "topoLines", fn := fun _ => fun
  | [d] => { results := [.lit (.bool false)], args := [d] }
  | _ => none }
def TopoLinesWrongFalsely : Prop := topoLinesRow.holds Tryd.pinned (OpenSpec.ofChange topoLinesWrong)

/-- 'rivuletlaw9.RibLines': WHATEVER THE INPUT: true; the input reads as it did. -/
def ribLinesSpec : ChangeSpec := { name := "ribLines", fn := fun _ => fun
  | [d1, d2, d3] => { results := [.lit (.bool true)], args := [d1, d2, d3] }
  | _ => none }
def ribLinesRow : OpenClaim := { program := "ytjceingdmfogeaadoor", sum := "13367016cf67bda2080f7ca0e52329addec25ec403dcd240cf4211f4c0b3b90b", func := "rivulet/rivuletlaw9.RibLines", spec := "ribLines", unfollowed := true, recurses := true, named := ["rivulet/api.ErrMany", "rivulet/api.ErrTwice", "rivulet/api.ErrRange", "rivulet/api.ErrName", "rivulet/api.ErrKind", "rivulet/api.ErrNone", "rivulet/api.ErrAway"], apart := false, laid := [("rivulet/api.ErrRange", laid_rivulet_api_ErrRange), ("rivulet/api.ErrMany", laid_rivulet_api_ErrMany), ("rivulet/api.ErrName", laid_rivulet_api_ErrName), ("rivulet/api.ErrTwice", laid_rivulet_api_ErrTwice), ("rivulet/api.ErrNone", laid_rivulet_api_ErrNone), ("rivulet/api.ErrAway", laid_rivulet_api_ErrAway), ("rivulet/api.ErrKind", laid_rivulet_api_ErrKind)] }
def RibLinesSaid : Prop := ribLinesRow.holds Tryd.pinned (OpenSpec.ofChange ribLinesSpec)

/-- ITS FALSE NEIGHBOUR: 'it returns false'. Refute it at one input. -/
def ribLinesWrong : ChangeSpec := { name := "ribLines", fn := fun _ => fun
  | [d1, d2, d3] => { results := [.lit (.bool false)], args := [d1, d2, d3] }
  | _ => none }
def RibLinesWrongFalsely : Prop := ribLinesRow.holds Tryd.pinned (OpenSpec.ofChange ribLinesWrong)

/-- 'rivuletlaw9.RibDeep': WHATEVER THE INPUT: true; the input reads as it did. -/
def ribDeepSpec : ChangeSpec := { name := "ribDeep", fn := fun _ => fun
  | [d1, d2] => { results := [.lit (.bool true)], args := [d1, d2] }
  | _ => none }
def ribDeepRow : OpenClaim := { program := "ytjceingdmfogeaadoor", sum := "13367016cf67bda2080f7ca0e52329addec25ec403dcd240cf4211f4c0b3b90b", func := "rivulet/rivuletlaw9.RibDeep", spec := "ribDeep", unfollowed := true, recurses := true, named := ["rivulet/api.ErrMany", "rivulet/api.ErrTwice", "rivulet/api.ErrRange", "rivulet/api.ErrName", "rivulet/api.ErrKind", "rivulet/api.ErrNone", "rivulet/api.ErrAway"], apart := false, laid := [("rivulet/api.ErrRange", laid_rivulet_api_ErrRange), ("rivulet/api.ErrMany", laid_rivulet_api_ErrMany), ("rivulet/api.ErrName", laid_rivulet_api_ErrName), ("rivulet/api.ErrTwice", laid_rivulet_api_ErrTwice), ("rivulet/api.ErrNone", laid_rivulet_api_ErrNone), ("rivulet/api.ErrAway", laid_rivulet_api_ErrAway), ("rivulet/api.ErrKind", laid_rivulet_api_ErrKind)] }
def RibDeepSaid : Prop := ribDeepRow.holds Tryd.pinned (OpenSpec.ofChange ribDeepSpec)

/-- ITS FALSE NEIGHBOUR: 'it returns false'. Refute it at one input. -/
def ribDeepWrong : ChangeSpec := { name := "ribDeep", fn := fun _ => fun
  | [d1, d2] => { results := [.lit (.bool false)], args := [d1, d2] }
  | _ => none }
def RibDeepWrongFalsely : Prop := ribDeepRow.holds Tryd.pinned (OpenSpec.ofChange ribDeepWrong)

/-- 'rivuletlaw9.RibLeast': WHATEVER THE INPUT: true; the input reads as it did. -/
def ribLeastSpec : ChangeSpec := { name := "ribLeast", fn := fun _ => fun
  | [d1, d2] => { results := [.lit (.bool true)], args := [d1, d2] }
  | _ => none }
def ribLeastRow : OpenClaim := { program := "ytjceingdmfogeaadoor", sum := "13367016cf67bda2080f7ca0e52329addec25ec403dcd240cf4211f4c0b3b90b", func := "rivulet/rivuletlaw9.RibLeast", spec := "ribLeast", unfollowed := true, recurses := true, named := ["rivulet/api.ErrMany", "rivulet/api.ErrTwice", "rivulet/api.ErrRange", "rivulet/api.ErrName", "rivulet/api.ErrKind", "rivulet/api.ErrNone", "rivulet/api.ErrAway"], apart := false, laid := [("rivulet/api.ErrRange", laid_rivulet_api_ErrRange), ("rivulet/api.ErrMany", laid_rivulet_api_ErrMany), ("rivulet/api.ErrName", laid_rivulet_api_ErrName), ("rivulet/api.ErrTwice", laid_rivulet_api_ErrTwice), ("rivulet/api.ErrNone", laid_rivulet_api_ErrNone), ("rivulet/api.ErrAway", laid_rivulet_api_ErrAway), ("rivulet/api.ErrKind", laid_rivulet_api_ErrKind)] }
def RibLeastSaid : Prop := ribLeastRow.holds Tryd.pinned (OpenSpec.ofChange ribLeastSpec)

/-- ITS FALSE NEIGHBOUR: 'it returns false'. Refute it at one input. -/
def ribLeastWrong : ChangeSpec := { name := "ribLeast", fn := fun _ => fun
  | [d1, d2] => { results := [.lit (.bool false)], args := [d1, d2] }
  | _ => none }
def RibLeastWrongFalsely : Prop := ribLeastRow.holds Tryd.pinned (OpenSpec.ofChange ribLeastWrong)

/-- 'rivuletlaw9.RibRings': WHATEVER THE INPUT: true; the input reads as it did. -/
def ribRingsSpec : ChangeSpec := { name := "ribRings", fn := fun _ => fun
  | [d1, d2] => { results := [.lit (.bool true)], args := [d1, d2] }
  | _ => none }
def ribRingsRow : OpenClaim := { program := "ytjceingdmfogeaadoor", sum := "13367016cf67bda2080f7ca0e52329addec25ec403dcd240cf4211f4c0b3b90b", func := "rivulet/rivuletlaw9.RibRings", spec := "ribRings", unfollowed := true, recurses := true, named := ["rivulet/api.ErrMany", "rivulet/api.ErrTwice", "rivulet/api.ErrRange", "rivulet/api.ErrName", "rivulet/api.ErrKind", "rivulet/api.ErrNone", "rivulet/api.ErrAway"], apart := false, laid := [("rivulet/api.ErrRange", laid_rivulet_api_ErrRange), ("rivulet/api.ErrMany", laid_rivulet_api_ErrMany), ("rivulet/api.ErrName", laid_rivulet_api_ErrName), ("rivulet/api.ErrTwice", laid_rivulet_api_ErrTwice), ("rivulet/api.ErrNone", laid_rivulet_api_ErrNone), ("rivulet/api.ErrAway", laid_rivulet_api_ErrAway), ("rivulet/api.ErrKind", laid_rivulet_api_ErrKind)] }
def RibRingsSaid : Prop := ribRingsRow.holds Tryd.pinned (OpenSpec.ofChange ribRingsSpec)

/-- ITS FALSE NEIGHBOUR: 'it returns false'. Refute it at one input. -/
def ribRingsWrong : ChangeSpec := { name := "ribRings", fn := fun _ => fun
  | [d1, d2] => { results := [.lit (.bool false)], args := [d1, d2] }
  | _ => none }
def RibRingsWrongFalsely : Prop := ribRingsRow.holds Tryd.pinned (OpenSpec.ofChange ribRingsWrong)

/- THE SECOND FORM. 'bulk': how many values and letters a reading holds, each counted each time it is reached (what is shared counts as often as it is met; a slice's spare places count too). A statement '..UptoSaid' is the law's where the arguments, and the package variables that the reading takes, are together of bulk at most 1048576: NARROWER than '..Said'. Prove '..Said' where nothing that the law and all that it calls make is longer than what came in: it says more and counts as full. Else prove '..UptoSaid'. A law counts once. -/
mutual
def uptoBulk {H : Type} : DataW H → Nat
  | .lit (.string bytes) => bytes.length + 1
  | .lit _ => 1
  | .nil => 1
  | .ptr d => uptoBulk d + 1
  | .slice elems spare => uptoBulkAll elems + uptoBulkAll spare + 1
  | .agg parts => uptoBulkAll parts + 1
  | .iface _ d => uptoBulk d + 1
  | .map entries => uptoBulkEntries entries + 1
  | .held _ => 1
def uptoBulkAll {H : Type} : List (DataW H) → Nat
  | [] => 0
  | d :: r => uptoBulk d + uptoBulkAll r
def uptoBulkEntries {H : Type} : List (Lit × DataW H) → Nat
  | [] => 0
  | x :: r => uptoBulkEntry x + uptoBulkEntries r
def uptoBulkEntry {H : Type} : Lit × DataW H → Nat
  | (.string bytes, d) => bytes.length + uptoBulk d + 1
  | (_, d) => uptoBulk d + 1
 end
def uptoSmall : (H : Type) → List (DataW H) → Bool := fun _ ds => decide (uptoBulkAll ds ≤ 1048576)
def OpenSpec.upto (s : _root_.Go.ChangeSpec) : _root_.Go.OpenSpec := { _root_.Go.OpenSpec.ofChange s with cond := some uptoSmall }

/-- 'rivuletlaw12.SeatRanks', WHERE WHAT IT READS IS OF BULK AT MOST 1048576: true; the input reads as it did. -/
def seatRanksUptoRow : OpenClaim := { program := "ytjceingdmfogeaadoor", sum := "13367016cf67bda2080f7ca0e52329addec25ec403dcd240cf4211f4c0b3b90b", func := "rivulet/rivuletlaw12.SeatRanks", spec := "seatRanks", unfollowed := true, recurses := true, named := ["rivulet/api.ErrMany", "rivulet/api.ErrTwice", "rivulet/api.ErrRange", "rivulet/api.ErrName", "rivulet/api.ErrKind", "rivulet/api.ErrNone", "rivulet/api.ErrAway"], apart := false, laid := [("rivulet/api.ErrRange", laid_rivulet_api_ErrRange), ("rivulet/api.ErrMany", laid_rivulet_api_ErrMany), ("rivulet/api.ErrName", laid_rivulet_api_ErrName), ("rivulet/api.ErrTwice", laid_rivulet_api_ErrTwice), ("rivulet/api.ErrNone", laid_rivulet_api_ErrNone), ("rivulet/api.ErrAway", laid_rivulet_api_ErrAway), ("rivulet/api.ErrKind", laid_rivulet_api_ErrKind)], narrowed := true }
def SeatRanksUptoSaid : Prop := seatRanksUptoRow.holds Tryd.pinned (OpenSpec.upto seatRanksSpec)

/-- 'rivuletlaw8.TopoLines', WHERE WHAT IT READS IS OF BULK AT MOST 1048576: true; the input reads as it did. -/
def topoLinesUptoRow : OpenClaim := { program := "ytjceingdmfogeaadoor", sum := "13367016cf67bda2080f7ca0e52329addec25ec403dcd240cf4211f4c0b3b90b", func := "rivulet/rivuletlaw8.TopoLines", spec := "topoLines", unfollowed := true, recurses := true, named := ["rivulet/api.ErrMany", "rivulet/api.ErrTwice", "rivulet/api.ErrRange", "rivulet/api.ErrName", "rivulet/api.ErrKind", "rivulet/api.ErrNone", "rivulet/api.ErrAway"], apart := false, laid := [("rivulet/api.ErrRange", laid_rivulet_api_ErrRange), ("rivulet/api.ErrMany", laid_rivulet_api_ErrMany), ("rivulet/api.ErrName", laid_rivulet_api_ErrName), ("rivulet/api.ErrTwice", laid_rivulet_api_ErrTwice), ("rivulet/api.ErrNone", laid_rivulet_api_ErrNone), ("rivulet/api.ErrAway", laid_rivulet_api_ErrAway), ("rivulet/api.ErrKind", laid_rivulet_api_ErrKind)], narrowed := true }
def TopoLinesUptoSaid : Prop := topoLinesUptoRow.holds Tryd.pinned (OpenSpec.upto topoLinesSpec)

/-- 'rivuletlaw9.RibLines', WHERE WHAT IT READS IS OF BULK AT MOST 1048576: true; the input reads as it did. -/
def ribLinesUptoRow : OpenClaim := { program := "ytjceingdmfogeaadoor", sum := "13367016cf67bda2080f7ca0e52329addec25ec403dcd240cf4211f4c0b3b90b", func := "rivulet/rivuletlaw9.RibLines", spec := "ribLines", unfollowed := true, recurses := true, named := ["rivulet/api.ErrMany", "rivulet/api.ErrTwice", "rivulet/api.ErrRange", "rivulet/api.ErrName", "rivulet/api.ErrKind", "rivulet/api.ErrNone", "rivulet/api.ErrAway"], apart := false, laid := [("rivulet/api.ErrRange", laid_rivulet_api_ErrRange), ("rivulet/api.ErrMany", laid_rivulet_api_ErrMany), ("rivulet/api.ErrName", laid_rivulet_api_ErrName), ("rivulet/api.ErrTwice", laid_rivulet_api_ErrTwice), ("rivulet/api.ErrNone", laid_rivulet_api_ErrNone), ("rivulet/api.ErrAway", laid_rivulet_api_ErrAway), ("rivulet/api.ErrKind", laid_rivulet_api_ErrKind)], narrowed := true }
def RibLinesUptoSaid : Prop := ribLinesUptoRow.holds Tryd.pinned (OpenSpec.upto ribLinesSpec)

/-- 'rivuletlaw9.RibDeep', WHERE WHAT IT READS IS OF BULK AT MOST 1048576: true; the input reads as it did. -/
def ribDeepUptoRow : OpenClaim := { program := "ytjceingdmfogeaadoor", sum := "13367016cf67bda2080f7ca0e52329addec25ec403dcd240cf4211f4c0b3b90b", func := "rivulet/rivuletlaw9.RibDeep", spec := "ribDeep", unfollowed := true, recurses := true, named := ["rivulet/api.ErrMany", "rivulet/api.ErrTwice", "rivulet/api.ErrRange", "rivulet/api.ErrName", "rivulet/api.ErrKind", "rivulet/api.ErrNone", "rivulet/api.ErrAway"], apart := false, laid := [("rivulet/api.ErrRange", laid_rivulet_api_ErrRange), ("rivulet/api.ErrMany", laid_rivulet_api_ErrMany), ("rivulet/api.ErrName", laid_rivulet_api_ErrName), ("rivulet/api.ErrTwice", laid_rivulet_api_ErrTwice), ("rivulet/api.ErrNone", laid_rivulet_api_ErrNone), ("rivulet/api.ErrAway", laid_rivulet_api_ErrAway), ("rivulet/api.ErrKind", laid_rivulet_api_ErrKind)], narrowed := true }
def RibDeepUptoSaid : Prop := ribDeepUptoRow.holds Tryd.pinned (OpenSpec.upto ribDeepSpec)

/-- 'rivuletlaw9.RibLeast', WHERE WHAT IT READS IS OF BULK AT MOST 1048576: true; the input reads as it did. -/
def ribLeastUptoRow : OpenClaim := { program := "ytjceingdmfogeaadoor", sum := "13367016cf67bda2080f7ca0e52329addec25ec403dcd240cf4211f4c0b3b90b", func := "rivulet/rivuletlaw9.RibLeast", spec := "ribLeast", unfollowed := true, recurses := true, named := ["rivulet/api.ErrMany", "rivulet/api.ErrTwice", "rivulet/api.ErrRange", "rivulet/api.ErrName", "rivulet/api.ErrKind", "rivulet/api.ErrNone", "rivulet/api.ErrAway"], apart := false, laid := [("rivulet/api.ErrRange", laid_rivulet_api_ErrRange), ("rivulet/api.ErrMany", laid_rivulet_api_ErrMany), ("rivulet/api.ErrName", laid_rivulet_api_ErrName), ("rivulet/api.ErrTwice", laid_rivulet_api_ErrTwice), ("rivulet/api.ErrNone", laid_rivulet_api_ErrNone), ("rivulet/api.ErrAway", laid_rivulet_api_ErrAway), ("rivulet/api.ErrKind", laid_rivulet_api_ErrKind)], narrowed := true }
def RibLeastUptoSaid : Prop := ribLeastUptoRow.holds Tryd.pinned (OpenSpec.upto ribLeastSpec)

/-- 'rivuletlaw9.RibRings', WHERE WHAT IT READS IS OF BULK AT MOST 1048576: true; the input reads as it did. -/
def ribRingsUptoRow : OpenClaim := { program := "ytjceingdmfogeaadoor", sum := "13367016cf67bda2080f7ca0e52329addec25ec403dcd240cf4211f4c0b3b90b", func := "rivulet/rivuletlaw9.RibRings", spec := "ribRings", unfollowed := true, recurses := true, named := ["rivulet/api.ErrMany", "rivulet/api.ErrTwice", "rivulet/api.ErrRange", "rivulet/api.ErrName", "rivulet/api.ErrKind", "rivulet/api.ErrNone", "rivulet/api.ErrAway"], apart := false, laid := [("rivulet/api.ErrRange", laid_rivulet_api_ErrRange), ("rivulet/api.ErrMany", laid_rivulet_api_ErrMany), ("rivulet/api.ErrName", laid_rivulet_api_ErrName), ("rivulet/api.ErrTwice", laid_rivulet_api_ErrTwice), ("rivulet/api.ErrNone", laid_rivulet_api_ErrNone), ("rivulet/api.ErrAway", laid_rivulet_api_ErrAway), ("rivulet/api.ErrKind", laid_rivulet_api_ErrKind)], narrowed := true }
def RibRingsUptoSaid : Prop := ribRingsUptoRow.holds Tryd.pinned (OpenSpec.upto ribRingsSpec)

end Rows
end Go.Proofs.YtjceingdmfogeaaDoor
