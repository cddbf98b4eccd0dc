/-
  NARROWER THAN 'FOR EVERY INPUT', by the rows' own cells (each row's printed sentence says how): RootSays: laid · RootRanges: laid · RootNone: laid · TopoOthers: laid · SeatSays: laid · TopoSays: laid · QuerSays: laid.
  DERIVED. THE GIVEN ROWS OF THIS SEAT. 7 by the template 'for every input the law returns true; each argument reads behind the call as it read before'; 0 by the template 'total and deterministic' (their statements: YtbgfkdpjnabhkaaGreatDoorTotals.lean).
  GIVEN WITH THE SEED: the statements are not yours to turn. If you find one false, say at which input.
  Laid BY PROGRAM, IN A SANDBOX (cutbox-rows.mjs): the forced cells as the released guide's own fill.sh prints them over the translation a93b837b3db1fe31… (all of the seat's roots in one cut). By AI agents, Wed Nov 11 2026. No macro, syntax, notation, axiom, sorry.
-/
import Derived.Test.YtbgfkdpjnabhkaaGreatDoorChecked
import GoSem.Claim
import GoSem.ClaimJoined
import GoSem.ClaimMapViews
import Derived.JoinedTies
import Derived.KernelRfl
namespace Go.Proofs.YtbgfkdpjnabhkaaGreatDoor
/- THE CELL 'sum', in the pinned program and in every row, IS THE sha256 OF THE DUMP (.gsa) THAT YtbgfkdpjnabhkaaGreatDoorProg.lean LOADS. Nothing in Lean hashes anything: it is a label: what it is worth is what the hold of that sum in a sandbox is worth. -/
noncomputable def Tryz.pinned : Pinned := { name := "ytbgfkdpjnabhkaagreatdoor", sum := "a93b837b3db1fe3138d868c309d016db3ab9cf3a2806c01a51835543c1b3da8c", checked := Tryz.checked }
namespace Rows
def none {H : Type} : Left H := { results := [], args := [] }

/- WHAT THE LISTED PACKAGE-LEVEL VARIABLES READ AS WHEN THE CALL BEGINS. Each datum BY PROGRAM (the guide's laid-datum.mjs) off the statement by which the dump's own 'gosem.cut.vars' lays the variable. In a bare row this is a premise. The card (YtbgfkdpjnabhkaaGreatDoorCards.lean) ties it to the program's text. -/
def laid_rivulet_api_ErrRange {H : Type} : DataW H := .iface "*errors.errorString" (.ptr (.agg [.lit (.string [97, 32, 110, 117, 109, 98, 101, 114, 32, 111, 117, 116, 32, 111, 102, 32, 105, 116, 115, 32, 114, 97, 110, 103, 101])]))
def laid_rivulet_api_ErrMany {H : Type} : DataW H := .iface "*errors.errorString" (.ptr (.agg [.lit (.string [116, 111, 111, 32, 109, 97, 110, 121])]))
def laid_rivulet_api_ErrName {H : Type} : DataW H := .iface "*errors.errorString" (.ptr (.agg [.lit (.string [110, 111, 116, 32, 97, 32, 110, 97, 109, 101])]))
def laid_rivulet_api_ErrTwice {H : Type} : DataW H := .iface "*errors.errorString" (.ptr (.agg [.lit (.string [116, 104, 101, 114, 101, 32, 105, 115, 32, 111, 110, 101])]))
def laid_rivulet_api_ErrNone {H : Type} : DataW H := .iface "*errors.errorString" (.ptr (.agg [.lit (.string [116, 104, 101, 114, 101, 32, 105, 115, 32, 110, 111, 110, 101])]))
def laid_rivulet_api_ErrAway {H : Type} : DataW H := .iface "*errors.errorString" (.ptr (.agg [.lit (.string [110, 111, 116, 32, 111, 110, 32, 116, 104, 97, 116, 32, 108, 105, 110, 107])]))
def laid_rivulet_api_ErrKind {H : Type} : DataW H := .iface "*errors.errorString" (.ptr (.agg [.lit (.string [110, 111, 116, 32, 111, 102, 32, 116, 104, 97, 116, 32, 107, 105, 110, 100])]))
def laid_rivulet_api_ErrEnd {H : Type} : DataW H := .iface "*errors.errorString" (.ptr (.agg [.lit (.string [105, 116, 32, 101, 110, 100, 115, 32, 116, 111, 111, 32, 101, 97, 114, 108, 121])]))
def laid_rivulet_api_ErrShape {H : Type} : DataW H := .iface "*errors.errorString" (.ptr (.agg [.lit (.string [110, 111, 116, 32, 97, 115, 32, 105, 116, 32, 104, 97, 115, 32, 116, 111, 32, 98, 101])]))
def laid_rivulet_api_ErrSum {H : Type} : DataW H := .iface "*errors.errorString" (.ptr (.agg [.lit (.string [116, 104, 101, 32, 115, 117, 109, 32, 105, 115, 32, 97, 110, 111, 116, 104, 101, 114, 32, 111, 110, 101])]))
def laid_rivulet_api_ErrWord {H : Type} : DataW H := .iface "*errors.errorString" (.ptr (.agg [.lit (.string [110, 111, 32, 115, 117, 99, 104, 32, 119, 111, 114, 100])]))
def laid_rivulet_api_ErrNumber {H : Type} : DataW H := .iface "*errors.errorString" (.ptr (.agg [.lit (.string [110, 111, 116, 32, 97, 32, 110, 117, 109, 98, 101, 114])]))
def laid_rivulet_api_ErrAddr {H : Type} : DataW H := .iface "*errors.errorString" (.ptr (.agg [.lit (.string [110, 111, 116, 32, 97, 110, 32, 97, 100, 100, 114, 101, 115, 115])]))
def laid_rivulet_api_ErrDeep {H : Type} : DataW H := .iface "*errors.errorString" (.ptr (.agg [.lit (.string [116, 111, 111, 32, 109, 97, 110, 121, 32, 98, 101, 104, 105, 110, 100, 32, 111, 110, 101, 32, 97, 110, 111, 116, 104, 101, 114])]))

/-- 'rivuletlaw10.RootSays': WHATEVER THE INPUT: true; the input reads as it did. -/
def rootSaysSpec : ChangeSpec := { name := "rootSays", fn := fun _ => fun
  | [d1, d2, d3] => { results := [.lit (.bool true)], args := [d1, d2, d3] }
  | _ => none }
def rootSaysRow : OpenClaim := { program := "ytbgfkdpjnabhkaagreatdoor", sum := "a93b837b3db1fe3138d868c309d016db3ab9cf3a2806c01a51835543c1b3da8c", func := "rivulet/rivuletlaw10.RootSays", spec := "rootSays", unfollowed := true, recurses := true, named := ["rivulet/api.ErrMany", "rivulet/api.ErrTwice", "rivulet/api.ErrRange", "rivulet/api.ErrName", "rivulet/api.ErrKind", "rivulet/api.ErrNone", "rivulet/api.ErrAway"], apart := false, laid := [("rivulet/api.ErrRange", laid_rivulet_api_ErrRange), ("rivulet/api.ErrMany", laid_rivulet_api_ErrMany), ("rivulet/api.ErrName", laid_rivulet_api_ErrName), ("rivulet/api.ErrTwice", laid_rivulet_api_ErrTwice), ("rivulet/api.ErrNone", laid_rivulet_api_ErrNone), ("rivulet/api.ErrAway", laid_rivulet_api_ErrAway), ("rivulet/api.ErrKind", laid_rivulet_api_ErrKind)] }
def RootSaysSaid : Prop := rootSaysRow.holds Tryz.pinned (OpenSpec.ofChange rootSaysSpec)

/-- ITS FALSE NEIGHBOUR: 'it returns false'. Refute it at one input. -/
def rootSaysWrong : ChangeSpec := { name := "rootSays", fn := fun _ => fun
  | [d1, d2, d3] => { results := [.lit (.bool false)], args := [d1, d2, d3] }
  | _ => none }
def RootSaysWrongFalsely : Prop := rootSaysRow.holds Tryz.pinned (OpenSpec.ofChange rootSaysWrong)

/-- 'rivuletlaw10.RootRanges': WHATEVER THE INPUT: true; the input reads as it did. -/
def rootRangesSpec : ChangeSpec := { name := "rootRanges", fn := fun _ => fun
  | [d1, d2] => { results := [.lit (.bool true)], args := [d1, d2] }
  | _ => none }
def rootRangesRow : OpenClaim := { program := "ytbgfkdpjnabhkaagreatdoor", sum := "a93b837b3db1fe3138d868c309d016db3ab9cf3a2806c01a51835543c1b3da8c", func := "rivulet/rivuletlaw10.RootRanges", spec := "rootRanges", unfollowed := true, recurses := true, named := ["rivulet/api.ErrMany", "rivulet/api.ErrTwice", "rivulet/api.ErrRange", "rivulet/api.ErrName", "rivulet/api.ErrKind", "rivulet/api.ErrNone", "rivulet/api.ErrAway"], apart := false, laid := [("rivulet/api.ErrRange", laid_rivulet_api_ErrRange), ("rivulet/api.ErrMany", laid_rivulet_api_ErrMany), ("rivulet/api.ErrName", laid_rivulet_api_ErrName), ("rivulet/api.ErrTwice", laid_rivulet_api_ErrTwice), ("rivulet/api.ErrNone", laid_rivulet_api_ErrNone), ("rivulet/api.ErrAway", laid_rivulet_api_ErrAway), ("rivulet/api.ErrKind", laid_rivulet_api_ErrKind)] }
def RootRangesSaid : Prop := rootRangesRow.holds Tryz.pinned (OpenSpec.ofChange rootRangesSpec)

/-- ITS FALSE NEIGHBOUR: 'it returns false'. Refute it at one input. -/
def rootRangesWrong : ChangeSpec := { name := "rootRanges", fn := fun _ => fun
  | [d1, d2] => { results := [.lit (.bool false)], args := [d1, d2] }
  | _ => none }
def RootRangesWrongFalsely : Prop := rootRangesRow.holds Tryz.pinned (OpenSpec.ofChange rootRangesWrong)

/-- 'rivuletlaw10.RootNone': WHATEVER THE INPUT: true; the input reads as it did. -/
def rootNoneSpec : ChangeSpec := { name := "rootNone", fn := fun _ => fun
  | [d1, d2, d3, d4] => { results := [.lit (.bool true)], args := [d1, d2, d3, d4] }
  | _ => none }
def rootNoneRow : OpenClaim := { program := "ytbgfkdpjnabhkaagreatdoor", sum := "a93b837b3db1fe3138d868c309d016db3ab9cf3a2806c01a51835543c1b3da8c", func := "rivulet/rivuletlaw10.RootNone", spec := "rootNone", unfollowed := true, recurses := true, named := ["rivulet/api.ErrMany", "rivulet/api.ErrTwice", "rivulet/api.ErrRange", "rivulet/api.ErrName", "rivulet/api.ErrKind", "rivulet/api.ErrNone", "rivulet/api.ErrAway"], apart := false, laid := [("rivulet/api.ErrRange", laid_rivulet_api_ErrRange), ("rivulet/api.ErrMany", laid_rivulet_api_ErrMany), ("rivulet/api.ErrName", laid_rivulet_api_ErrName), ("rivulet/api.ErrTwice", laid_rivulet_api_ErrTwice), ("rivulet/api.ErrNone", laid_rivulet_api_ErrNone), ("rivulet/api.ErrAway", laid_rivulet_api_ErrAway), ("rivulet/api.ErrKind", laid_rivulet_api_ErrKind)] }
def RootNoneSaid : Prop := rootNoneRow.holds Tryz.pinned (OpenSpec.ofChange rootNoneSpec)

/-- ITS FALSE NEIGHBOUR: 'it returns false'. Refute it at one input. -/
def rootNoneWrong : ChangeSpec := { name := "rootNone", fn := fun _ => fun
  | [d1, d2, d3, d4] => { results := [.lit (.bool false)], args := [d1, d2, d3, d4] }
  | _ => none }
def RootNoneWrongFalsely : Prop := rootNoneRow.holds Tryz.pinned (OpenSpec.ofChange rootNoneWrong)

/-- 'rivuletlaw8.TopoOthers': WHATEVER THE INPUT: true; the input reads as it did. -/
def topoOthersSpec : ChangeSpec := { name := "topoOthers", fn := fun _ => fun
  | [d1, d2, d3] => { results := [.lit (.bool true)], args := [d1, d2, d3] }
  | _ => none }
def topoOthersRow : OpenClaim := { program := "ytbgfkdpjnabhkaagreatdoor", sum := "a93b837b3db1fe3138d868c309d016db3ab9cf3a2806c01a51835543c1b3da8c", func := "rivulet/rivuletlaw8.TopoOthers", spec := "topoOthers", unfollowed := true, recurses := true, named := ["rivulet/api.ErrMany", "rivulet/api.ErrTwice", "rivulet/api.ErrRange", "rivulet/api.ErrName", "rivulet/api.ErrKind", "rivulet/api.ErrNone", "rivulet/api.ErrAway"], apart := false, laid := [("rivulet/api.ErrRange", laid_rivulet_api_ErrRange), ("rivulet/api.ErrMany", laid_rivulet_api_ErrMany), ("rivulet/api.ErrName", laid_rivulet_api_ErrName), ("rivulet/api.ErrTwice", laid_rivulet_api_ErrTwice), ("rivulet/api.ErrNone", laid_rivulet_api_ErrNone), ("rivulet/api.ErrAway", laid_rivulet_api_ErrAway), ("rivulet/api.ErrKind", laid_rivulet_api_ErrKind)] }
def TopoOthersSaid : Prop := topoOthersRow.holds Tryz.pinned (OpenSpec.ofChange topoOthersSpec)

/-- ITS FALSE NEIGHBOUR: 'it returns false'. Refute it at one input. -/
def topoOthersWrong : ChangeSpec := { name := "topoOthers", fn := fun _ => fun
  | [d1, d2, d3] => { results := [.lit (.bool false)], args := [d1, d2, d3] }
  | _ => none }
def TopoOthersWrongFalsely : Prop := topoOthersRow.holds Tryz.pinned (OpenSpec.ofChange topoOthersWrong)

/-- 'rivuletlaw12.SeatSays': WHATEVER THE INPUT: true; the input reads as it did. -/
def seatSaysSpec : ChangeSpec := { name := "seatSays", fn := fun _ => fun
  | [d1, d2, d3] => { results := [.lit (.bool true)], args := [d1, d2, d3] }
  | _ => none }
def seatSaysRow : OpenClaim := { program := "ytbgfkdpjnabhkaagreatdoor", sum := "a93b837b3db1fe3138d868c309d016db3ab9cf3a2806c01a51835543c1b3da8c", func := "rivulet/rivuletlaw12.SeatSays", spec := "seatSays", unfollowed := true, recurses := true, named := ["rivulet/api.ErrMany", "rivulet/api.ErrTwice", "rivulet/api.ErrRange", "rivulet/api.ErrName", "rivulet/api.ErrKind", "rivulet/api.ErrNone", "rivulet/api.ErrAway"], apart := false, laid := [("rivulet/api.ErrRange", laid_rivulet_api_ErrRange), ("rivulet/api.ErrMany", laid_rivulet_api_ErrMany), ("rivulet/api.ErrName", laid_rivulet_api_ErrName), ("rivulet/api.ErrTwice", laid_rivulet_api_ErrTwice), ("rivulet/api.ErrNone", laid_rivulet_api_ErrNone), ("rivulet/api.ErrAway", laid_rivulet_api_ErrAway), ("rivulet/api.ErrKind", laid_rivulet_api_ErrKind)] }
def SeatSaysSaid : Prop := seatSaysRow.holds Tryz.pinned (OpenSpec.ofChange seatSaysSpec)

/-- ITS FALSE NEIGHBOUR: 'it returns false'. Refute it at one input. -/
def seatSaysWrong : ChangeSpec := { name := "seatSays", fn := fun _ => fun
  | [d1, d2, d3] => { results := [.lit (.bool false)], args := [d1, d2, d3] }
  | _ => none }
def SeatSaysWrongFalsely : Prop := seatSaysRow.holds Tryz.pinned (OpenSpec.ofChange seatSaysWrong)

/-- 'rivuletlaw8.TopoSays': WHATEVER THE INPUT: true; the input reads as it did. -/
def topoSaysSpec : ChangeSpec := { name := "topoSays", fn := fun _ => fun
  | [d1, d2, d3] => { results := [.lit (.bool true)], args := [d1, d2, d3] }
  | _ => none }
def topoSaysRow : OpenClaim := { program := "ytbgfkdpjnabhkaagreatdoor", sum := "a93b837b3db1fe3138d868c309d016db3ab9cf3a2806c01a51835543c1b3da8c", func := "rivulet/rivuletlaw8.TopoSays", spec := "topoSays", unfollowed := true, recurses := true, named := ["rivulet/api.ErrMany", "rivulet/api.ErrTwice", "rivulet/api.ErrRange", "rivulet/api.ErrName", "rivulet/api.ErrKind", "rivulet/api.ErrNone", "rivulet/api.ErrAway", "rivulet/api.ErrEnd", "rivulet/api.ErrShape", "rivulet/api.ErrSum", "rivulet/api.ErrWord", "rivulet/api.ErrNumber", "rivulet/api.ErrAddr", "rivulet/api.ErrDeep"], apart := false, laid := [("rivulet/api.ErrEnd", laid_rivulet_api_ErrEnd), ("rivulet/api.ErrShape", laid_rivulet_api_ErrShape), ("rivulet/api.ErrRange", laid_rivulet_api_ErrRange), ("rivulet/api.ErrMany", laid_rivulet_api_ErrMany), ("rivulet/api.ErrSum", laid_rivulet_api_ErrSum), ("rivulet/api.ErrWord", laid_rivulet_api_ErrWord), ("rivulet/api.ErrNumber", laid_rivulet_api_ErrNumber), ("rivulet/api.ErrAddr", laid_rivulet_api_ErrAddr), ("rivulet/api.ErrName", laid_rivulet_api_ErrName), ("rivulet/api.ErrTwice", laid_rivulet_api_ErrTwice), ("rivulet/api.ErrNone", laid_rivulet_api_ErrNone), ("rivulet/api.ErrAway", laid_rivulet_api_ErrAway), ("rivulet/api.ErrKind", laid_rivulet_api_ErrKind), ("rivulet/api.ErrDeep", laid_rivulet_api_ErrDeep)] }
def TopoSaysSaid : Prop := topoSaysRow.holds Tryz.pinned (OpenSpec.ofChange topoSaysSpec)

/-- ITS FALSE NEIGHBOUR: 'it returns false'. Refute it at one input. -/
def topoSaysWrong : ChangeSpec := { name := "topoSays", fn := fun _ => fun
  | [d1, d2, d3] => { results := [.lit (.bool false)], args := [d1, d2, d3] }
  | _ => none }
def TopoSaysWrongFalsely : Prop := topoSaysRow.holds Tryz.pinned (OpenSpec.ofChange topoSaysWrong)

/-- 'rivuletlaw13.QuerSays': WHATEVER THE INPUT: true; the input reads as it did. -/
def querSaysSpec : ChangeSpec := { name := "querSays", fn := fun _ => fun
  | [d1, d2, d3, d4, d5] => { results := [.lit (.bool true)], args := [d1, d2, d3, d4, d5] }
  | _ => none }
def querSaysRow : OpenClaim := { program := "ytbgfkdpjnabhkaagreatdoor", sum := "a93b837b3db1fe3138d868c309d016db3ab9cf3a2806c01a51835543c1b3da8c", func := "rivulet/rivuletlaw13.QuerSays", spec := "querSays", unfollowed := true, recurses := true, named := ["rivulet/api.ErrMany", "rivulet/api.ErrTwice", "rivulet/api.ErrRange", "rivulet/api.ErrName", "rivulet/api.ErrKind", "rivulet/api.ErrNone", "rivulet/api.ErrAway"], apart := false, laid := [("rivulet/api.ErrRange", laid_rivulet_api_ErrRange), ("rivulet/api.ErrMany", laid_rivulet_api_ErrMany), ("rivulet/api.ErrName", laid_rivulet_api_ErrName), ("rivulet/api.ErrTwice", laid_rivulet_api_ErrTwice), ("rivulet/api.ErrNone", laid_rivulet_api_ErrNone), ("rivulet/api.ErrAway", laid_rivulet_api_ErrAway), ("rivulet/api.ErrKind", laid_rivulet_api_ErrKind)] }
def QuerSaysSaid : Prop := querSaysRow.holds Tryz.pinned (OpenSpec.ofChange querSaysSpec)

/-- ITS FALSE NEIGHBOUR: 'it returns false'. Refute it at one input. -/
def querSaysWrong : ChangeSpec := { name := "querSays", fn := fun _ => fun
  | [d1, d2, d3, d4, d5] => { results := [.lit (.bool false)], args := [d1, d2, d3, d4, d5] }
  | _ => none }
def QuerSaysWrongFalsely : Prop := querSaysRow.holds Tryz.pinned (OpenSpec.ofChange querSaysWrong)

/- THE SECOND FORM. 'bulk': how many values and letters a reading holds, each counted each time it is reached (what is shared counts as often as it is met; a slice's spare places count too). A statement '..UptoSaid' is the law's where the arguments, and the package variables that the reading takes, are together of bulk at most 1048576: NARROWER than '..Said'. Prove '..Said' where nothing that the law and all that it calls make is longer than what came in: it says more and counts as full. Else prove '..UptoSaid'. A law counts once. -/
mutual
def uptoBulk {H : Type} : DataW H → Nat
  | .lit (.string bytes) => bytes.length + 1
  | .lit _ => 1
  | .nil => 1
  | .ptr d => uptoBulk d + 1
  | .slice elems spare => uptoBulkAll elems + uptoBulkAll spare + 1
  | .agg parts => uptoBulkAll parts + 1
  | .iface _ d => uptoBulk d + 1
  | .map entries => uptoBulkEntries entries + 1
  | .held _ => 1
def uptoBulkAll {H : Type} : List (DataW H) → Nat
  | [] => 0
  | d :: r => uptoBulk d + uptoBulkAll r
def uptoBulkEntries {H : Type} : List (Lit × DataW H) → Nat
  | [] => 0
  | x :: r => uptoBulkEntry x + uptoBulkEntries r
def uptoBulkEntry {H : Type} : Lit × DataW H → Nat
  | (.string bytes, d) => bytes.length + uptoBulk d + 1
  | (_, d) => uptoBulk d + 1
 end
def uptoSmall : (H : Type) → List (DataW H) → Bool := fun _ ds => decide (uptoBulkAll ds ≤ 1048576)
def OpenSpec.upto (s : _root_.Go.ChangeSpec) : _root_.Go.OpenSpec := { _root_.Go.OpenSpec.ofChange s with cond := some uptoSmall }

/-- 'rivuletlaw10.RootSays', WHERE WHAT IT READS IS OF BULK AT MOST 1048576: true; the input reads as it did. -/
def rootSaysUptoRow : OpenClaim := { program := "ytbgfkdpjnabhkaagreatdoor", sum := "a93b837b3db1fe3138d868c309d016db3ab9cf3a2806c01a51835543c1b3da8c", func := "rivulet/rivuletlaw10.RootSays", spec := "rootSays", unfollowed := true, recurses := true, named := ["rivulet/api.ErrMany", "rivulet/api.ErrTwice", "rivulet/api.ErrRange", "rivulet/api.ErrName", "rivulet/api.ErrKind", "rivulet/api.ErrNone", "rivulet/api.ErrAway"], apart := false, laid := [("rivulet/api.ErrRange", laid_rivulet_api_ErrRange), ("rivulet/api.ErrMany", laid_rivulet_api_ErrMany), ("rivulet/api.ErrName", laid_rivulet_api_ErrName), ("rivulet/api.ErrTwice", laid_rivulet_api_ErrTwice), ("rivulet/api.ErrNone", laid_rivulet_api_ErrNone), ("rivulet/api.ErrAway", laid_rivulet_api_ErrAway), ("rivulet/api.ErrKind", laid_rivulet_api_ErrKind)], narrowed := true }
def RootSaysUptoSaid : Prop := rootSaysUptoRow.holds Tryz.pinned (OpenSpec.upto rootSaysSpec)

/-- 'rivuletlaw10.RootRanges', WHERE WHAT IT READS IS OF BULK AT MOST 1048576: true; the input reads as it did. -/
def rootRangesUptoRow : OpenClaim := { program := "ytbgfkdpjnabhkaagreatdoor", sum := "a93b837b3db1fe3138d868c309d016db3ab9cf3a2806c01a51835543c1b3da8c", func := "rivulet/rivuletlaw10.RootRanges", spec := "rootRanges", unfollowed := true, recurses := true, named := ["rivulet/api.ErrMany", "rivulet/api.ErrTwice", "rivulet/api.ErrRange", "rivulet/api.ErrName", "rivulet/api.ErrKind", "rivulet/api.ErrNone", "rivulet/api.ErrAway"], apart := false, laid := [("rivulet/api.ErrRange", laid_rivulet_api_ErrRange), ("rivulet/api.ErrMany", laid_rivulet_api_ErrMany), ("rivulet/api.ErrName", laid_rivulet_api_ErrName), ("rivulet/api.ErrTwice", laid_rivulet_api_ErrTwice), ("rivulet/api.ErrNone", laid_rivulet_api_ErrNone), ("rivulet/api.ErrAway", laid_rivulet_api_ErrAway), ("rivulet/api.ErrKind", laid_rivulet_api_ErrKind)], narrowed := true }
def RootRangesUptoSaid : Prop := rootRangesUptoRow.holds Tryz.pinned (OpenSpec.upto rootRangesSpec)

/-- 'rivuletlaw10.RootNone', WHERE WHAT IT READS IS OF BULK AT MOST 1048576: true; the input reads as it did. -/
def rootNoneUptoRow : OpenClaim := { program := "ytbgfkdpjnabhkaagreatdoor", sum := "a93b837b3db1fe3138d868c309d016db3ab9cf3a2806c01a51835543c1b3da8c", func := "rivulet/rivuletlaw10.RootNone", spec := "rootNone", unfollowed := true, recurses := true, named := ["rivulet/api.ErrMany", "rivulet/api.ErrTwice", "rivulet/api.ErrRange", "rivulet/api.ErrName", "rivulet/api.ErrKind", "rivulet/api.ErrNone", "rivulet/api.ErrAway"], apart := false, laid := [("rivulet/api.ErrRange", laid_rivulet_api_ErrRange), ("rivulet/api.ErrMany", laid_rivulet_api_ErrMany), ("rivulet/api.ErrName", laid_rivulet_api_ErrName), ("rivulet/api.ErrTwice", laid_rivulet_api_ErrTwice), ("rivulet/api.ErrNone", laid_rivulet_api_ErrNone), ("rivulet/api.ErrAway", laid_rivulet_api_ErrAway), ("rivulet/api.ErrKind", laid_rivulet_api_ErrKind)], narrowed := true }
def RootNoneUptoSaid : Prop := rootNoneUptoRow.holds Tryz.pinned (OpenSpec.upto rootNoneSpec)

/-- 'rivuletlaw8.TopoOthers', WHERE WHAT IT READS IS OF BULK AT MOST 1048576: true; the input reads as it did. -/
def topoOthersUptoRow : OpenClaim := { program := "ytbgfkdpjnabhkaagreatdoor", sum := "a93b837b3db1fe3138d868c309d016db3ab9cf3a2806c01a51835543c1b3da8c", func := "rivulet/rivuletlaw8.TopoOthers", spec := "topoOthers", unfollowed := true, recurses := true, named := ["rivulet/api.ErrMany", "rivulet/api.ErrTwice", "rivulet/api.ErrRange", "rivulet/api.ErrName", "rivulet/api.ErrKind", "rivulet/api.ErrNone", "rivulet/api.ErrAway"], apart := false, laid := [("rivulet/api.ErrRange", laid_rivulet_api_ErrRange), ("rivulet/api.ErrMany", laid_rivulet_api_ErrMany), ("rivulet/api.ErrName", laid_rivulet_api_ErrName), ("rivulet/api.ErrTwice", laid_rivulet_api_ErrTwice), ("rivulet/api.ErrNone", laid_rivulet_api_ErrNone), ("rivulet/api.ErrAway", laid_rivulet_api_ErrAway), ("rivulet/api.ErrKind", laid_rivulet_api_ErrKind)], narrowed := true }
def TopoOthersUptoSaid : Prop := topoOthersUptoRow.holds Tryz.pinned (OpenSpec.upto topoOthersSpec)

/-- 'rivuletlaw12.SeatSays', WHERE WHAT IT READS IS OF BULK AT MOST 1048576: true; the input reads as it did. -/
def seatSaysUptoRow : OpenClaim := { program := "ytbgfkdpjnabhkaagreatdoor", sum := "a93b837b3db1fe3138d868c309d016db3ab9cf3a2806c01a51835543c1b3da8c", func := "rivulet/rivuletlaw12.SeatSays", spec := "seatSays", unfollowed := true, recurses := true, named := ["rivulet/api.ErrMany", "rivulet/api.ErrTwice", "rivulet/api.ErrRange", "rivulet/api.ErrName", "rivulet/api.ErrKind", "rivulet/api.ErrNone", "rivulet/api.ErrAway"], apart := false, laid := [("rivulet/api.ErrRange", laid_rivulet_api_ErrRange), ("rivulet/api.ErrMany", laid_rivulet_api_ErrMany), ("rivulet/api.ErrName", laid_rivulet_api_ErrName), ("rivulet/api.ErrTwice", laid_rivulet_api_ErrTwice), ("rivulet/api.ErrNone", laid_rivulet_api_ErrNone), ("rivulet/api.ErrAway", laid_rivulet_api_ErrAway), ("rivulet/api.ErrKind", laid_rivulet_api_ErrKind)], narrowed := true }
def SeatSaysUptoSaid : Prop := seatSaysUptoRow.holds Tryz.pinned (OpenSpec.upto seatSaysSpec)

/-- 'rivuletlaw8.TopoSays', WHERE WHAT IT READS IS OF BULK AT MOST 1048576: true; the input reads as it did. -/
def topoSaysUptoRow : OpenClaim := { program := "ytbgfkdpjnabhkaagreatdoor", sum := "a93b837b3db1fe3138d868c309d016db3ab9cf3a2806c01a51835543c1b3da8c", func := "rivulet/rivuletlaw8.TopoSays", spec := "topoSays", unfollowed := true, recurses := true, named := ["rivulet/api.ErrMany", "rivulet/api.ErrTwice", "rivulet/api.ErrRange", "rivulet/api.ErrName", "rivulet/api.ErrKind", "rivulet/api.ErrNone", "rivulet/api.ErrAway", "rivulet/api.ErrEnd", "rivulet/api.ErrShape", "rivulet/api.ErrSum", "rivulet/api.ErrWord", "rivulet/api.ErrNumber", "rivulet/api.ErrAddr", "rivulet/api.ErrDeep"], apart := false, laid := [("rivulet/api.ErrEnd", laid_rivulet_api_ErrEnd), ("rivulet/api.ErrShape", laid_rivulet_api_ErrShape), ("rivulet/api.ErrRange", laid_rivulet_api_ErrRange), ("rivulet/api.ErrMany", laid_rivulet_api_ErrMany), ("rivulet/api.ErrSum", laid_rivulet_api_ErrSum), ("rivulet/api.ErrWord", laid_rivulet_api_ErrWord), ("rivulet/api.ErrNumber", laid_rivulet_api_ErrNumber), ("rivulet/api.ErrAddr", laid_rivulet_api_ErrAddr), ("rivulet/api.ErrName", laid_rivulet_api_ErrName), ("rivulet/api.ErrTwice", laid_rivulet_api_ErrTwice), ("rivulet/api.ErrNone", laid_rivulet_api_ErrNone), ("rivulet/api.ErrAway", laid_rivulet_api_ErrAway), ("rivulet/api.ErrKind", laid_rivulet_api_ErrKind), ("rivulet/api.ErrDeep", laid_rivulet_api_ErrDeep)], narrowed := true }
def TopoSaysUptoSaid : Prop := topoSaysUptoRow.holds Tryz.pinned (OpenSpec.upto topoSaysSpec)

/-- 'rivuletlaw13.QuerSays', WHERE WHAT IT READS IS OF BULK AT MOST 1048576: true; the input reads as it did. -/
def querSaysUptoRow : OpenClaim := { program := "ytbgfkdpjnabhkaagreatdoor", sum := "a93b837b3db1fe3138d868c309d016db3ab9cf3a2806c01a51835543c1b3da8c", func := "rivulet/rivuletlaw13.QuerSays", spec := "querSays", unfollowed := true, recurses := true, named := ["rivulet/api.ErrMany", "rivulet/api.ErrTwice", "rivulet/api.ErrRange", "rivulet/api.ErrName", "rivulet/api.ErrKind", "rivulet/api.ErrNone", "rivulet/api.ErrAway"], apart := false, laid := [("rivulet/api.ErrRange", laid_rivulet_api_ErrRange), ("rivulet/api.ErrMany", laid_rivulet_api_ErrMany), ("rivulet/api.ErrName", laid_rivulet_api_ErrName), ("rivulet/api.ErrTwice", laid_rivulet_api_ErrTwice), ("rivulet/api.ErrNone", laid_rivulet_api_ErrNone), ("rivulet/api.ErrAway", laid_rivulet_api_ErrAway), ("rivulet/api.ErrKind", laid_rivulet_api_ErrKind)], narrowed := true }
def QuerSaysUptoSaid : Prop := querSaysUptoRow.holds Tryz.pinned (OpenSpec.upto querSaysSpec)

end Rows
end Go.Proofs.YtbgfkdpjnabhkaaGreatDoor
