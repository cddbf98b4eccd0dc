/-
  NARROWER THAN 'FOR EVERY INPUT', by the rows' own cells (each row's printed sentence says how): RibSays: laid · RpfLines: laid · RpfUp: laid · RpfChains: laid · RpfSays: laid.
  DERIVED. THE GIVEN ROWS OF THIS SEAT. 5 by the template 'for every input the law returns true; each argument reads behind the call as it read before'; 0 by the template 'total and deterministic' (their statements: YtelbgkknneljeaaGreatDoorTotals.lean).
  GIVEN WITH THE SEED: the statements are not yours to turn. If you find one false, say at which input.
  Laid BY PROGRAM, IN A SANDBOX (cutbox-rows.mjs): the forced cells as the released guide's own fill.sh prints them over the translation 4bc514973c66d963… (all of the seat's roots in one cut). By AI agents, Wed Nov 11 2026. No macro, syntax, notation, axiom, sorry.
-/
import Derived.Test.YtelbgkknneljeaaGreatDoorChecked
import GoSem.Claim
import GoSem.ClaimJoined
import GoSem.ClaimMapViews
import Derived.JoinedTies
import Derived.KernelRfl
namespace Go.Proofs.YtelbgkknneljeaaGreatDoor
/- THE CELL 'sum', in the pinned program and in every row, IS THE sha256 OF THE DUMP (.gsa) THAT YtelbgkknneljeaaGreatDoorProg.lean LOADS. Nothing in Lean hashes anything: it is a label: what it is worth is what the hold of that sum in a sandbox is worth. -/
noncomputable def Tryz.pinned : Pinned := { name := "ytelbgkknneljeaagreatdoor", sum := "4bc514973c66d963061393e862031c387aaabedbf66063b20846a40f2f24a7e4", checked := Tryz.checked }
namespace Rows
def none {H : Type} : Left H := { results := [], args := [] }

/- WHAT THE LISTED PACKAGE-LEVEL VARIABLES READ AS WHEN THE CALL BEGINS. Each datum BY PROGRAM (the guide's laid-datum.mjs) off the statement by which the dump's own 'gosem.cut.vars' lays the variable. In a bare row this is a premise. The card (YtelbgkknneljeaaGreatDoorCards.lean) ties it to the program's text. -/
def laid_rivulet_api_ErrRange {H : Type} : DataW H := .iface "*errors.errorString" (.ptr (.agg [.lit (.string [97, 32, 110, 117, 109, 98, 101, 114, 32, 111, 117, 116, 32, 111, 102, 32, 105, 116, 115, 32, 114, 97, 110, 103, 101])]))
def laid_rivulet_api_ErrMany {H : Type} : DataW H := .iface "*errors.errorString" (.ptr (.agg [.lit (.string [116, 111, 111, 32, 109, 97, 110, 121])]))
def laid_rivulet_api_ErrName {H : Type} : DataW H := .iface "*errors.errorString" (.ptr (.agg [.lit (.string [110, 111, 116, 32, 97, 32, 110, 97, 109, 101])]))
def laid_rivulet_api_ErrTwice {H : Type} : DataW H := .iface "*errors.errorString" (.ptr (.agg [.lit (.string [116, 104, 101, 114, 101, 32, 105, 115, 32, 111, 110, 101])]))
def laid_rivulet_api_ErrNone {H : Type} : DataW H := .iface "*errors.errorString" (.ptr (.agg [.lit (.string [116, 104, 101, 114, 101, 32, 105, 115, 32, 110, 111, 110, 101])]))
def laid_rivulet_api_ErrAway {H : Type} : DataW H := .iface "*errors.errorString" (.ptr (.agg [.lit (.string [110, 111, 116, 32, 111, 110, 32, 116, 104, 97, 116, 32, 108, 105, 110, 107])]))
def laid_rivulet_api_ErrKind {H : Type} : DataW H := .iface "*errors.errorString" (.ptr (.agg [.lit (.string [110, 111, 116, 32, 111, 102, 32, 116, 104, 97, 116, 32, 107, 105, 110, 100])]))

/-- 'rivuletlaw9.RibSays': WHATEVER THE INPUT: true; the input reads as it did. -/
def ribSaysSpec : ChangeSpec := { name := "ribSays", fn := fun _ => fun
  | [d1, d2, d3] => { results := [.lit (.bool true)], args := [d1, d2, d3] }
  | _ => none }
def ribSaysRow : OpenClaim := { program := "ytelbgkknneljeaagreatdoor", sum := "4bc514973c66d963061393e862031c387aaabedbf66063b20846a40f2f24a7e4", func := "rivulet/rivuletlaw9.RibSays", spec := "ribSays", unfollowed := true, recurses := true, named := ["rivulet/api.ErrMany", "rivulet/api.ErrTwice", "rivulet/api.ErrRange", "rivulet/api.ErrName", "rivulet/api.ErrKind", "rivulet/api.ErrNone", "rivulet/api.ErrAway"], apart := false, laid := [("rivulet/api.ErrRange", laid_rivulet_api_ErrRange), ("rivulet/api.ErrMany", laid_rivulet_api_ErrMany), ("rivulet/api.ErrName", laid_rivulet_api_ErrName), ("rivulet/api.ErrTwice", laid_rivulet_api_ErrTwice), ("rivulet/api.ErrNone", laid_rivulet_api_ErrNone), ("rivulet/api.ErrAway", laid_rivulet_api_ErrAway), ("rivulet/api.ErrKind", laid_rivulet_api_ErrKind)] }
def RibSaysSaid : Prop := ribSaysRow.holds Tryz.pinned (OpenSpec.ofChange ribSaysSpec)

/-- ITS FALSE NEIGHBOUR: 'it returns false'. Refute it at one input. -/
def ribSaysWrong : ChangeSpec := { name := "ribSays", fn := fun _ => fun
  | [d1, d2, d3] => { results := [.lit (.bool false)], args := [d1, d2, d3] }
  | _ => none }
def RibSaysWrongFalsely : Prop := ribSaysRow.holds Tryz.pinned (OpenSpec.ofChange ribSaysWrong)

/-- 'rivuletlaw11.RpfLines': WHATEVER THE INPUT: true; the input reads as it did. -/
def rpfLinesSpec : ChangeSpec := { name := "rpfLines", fn := fun _ => fun
  | [d1, d2, d3] => { results := [.lit (.bool true)], args := [d1, d2, d3] }
  | _ => none }
def rpfLinesRow : OpenClaim := { program := "ytelbgkknneljeaagreatdoor", sum := "4bc514973c66d963061393e862031c387aaabedbf66063b20846a40f2f24a7e4", func := "rivulet/rivuletlaw11.RpfLines", spec := "rpfLines", unfollowed := true, recurses := true, named := ["rivulet/api.ErrMany", "rivulet/api.ErrTwice", "rivulet/api.ErrRange", "rivulet/api.ErrName", "rivulet/api.ErrKind", "rivulet/api.ErrNone", "rivulet/api.ErrAway"], apart := false, laid := [("rivulet/api.ErrRange", laid_rivulet_api_ErrRange), ("rivulet/api.ErrMany", laid_rivulet_api_ErrMany), ("rivulet/api.ErrName", laid_rivulet_api_ErrName), ("rivulet/api.ErrTwice", laid_rivulet_api_ErrTwice), ("rivulet/api.ErrNone", laid_rivulet_api_ErrNone), ("rivulet/api.ErrAway", laid_rivulet_api_ErrAway), ("rivulet/api.ErrKind", laid_rivulet_api_ErrKind)] }
def RpfLinesSaid : Prop := rpfLinesRow.holds Tryz.pinned (OpenSpec.ofChange rpfLinesSpec)

/-- ITS FALSE NEIGHBOUR: 'it returns false'. Refute it at one input. -/
def rpfLinesWrong : ChangeSpec := { name := "rpfLines", fn := fun _ => fun
  | [d1, d2, d3] => { results := [.lit (.bool false)], args := [d1, d2, d3] }
  | _ => none }
def RpfLinesWrongFalsely : Prop := rpfLinesRow.holds Tryz.pinned (OpenSpec.ofChange rpfLinesWrong)

/-- 'rivuletlaw11.RpfUp': WHATEVER THE INPUT: true; the input reads as it did. -/
def rpfUpSpec : ChangeSpec := { name := "rpfUp", fn := fun _ => fun
  | [d1, d2, d3] => { results := [.lit (.bool true)], args := [d1, d2, d3] }
  | _ => none }
def rpfUpRow : OpenClaim := { program := "ytelbgkknneljeaagreatdoor", sum := "4bc514973c66d963061393e862031c387aaabedbf66063b20846a40f2f24a7e4", func := "rivulet/rivuletlaw11.RpfUp", spec := "rpfUp", unfollowed := true, recurses := true, named := ["rivulet/api.ErrMany", "rivulet/api.ErrTwice", "rivulet/api.ErrRange", "rivulet/api.ErrName", "rivulet/api.ErrKind", "rivulet/api.ErrNone", "rivulet/api.ErrAway"], apart := false, laid := [("rivulet/api.ErrRange", laid_rivulet_api_ErrRange), ("rivulet/api.ErrMany", laid_rivulet_api_ErrMany), ("rivulet/api.ErrName", laid_rivulet_api_ErrName), ("rivulet/api.ErrTwice", laid_rivulet_api_ErrTwice), ("rivulet/api.ErrNone", laid_rivulet_api_ErrNone), ("rivulet/api.ErrAway", laid_rivulet_api_ErrAway), ("rivulet/api.ErrKind", laid_rivulet_api_ErrKind)] }
def RpfUpSaid : Prop := rpfUpRow.holds Tryz.pinned (OpenSpec.ofChange rpfUpSpec)

/-- ITS FALSE NEIGHBOUR: 'it returns false'. Refute it at one input. -/
def rpfUpWrong : ChangeSpec := { name := "rpfUp", fn := fun _ => fun
  | [d1, d2, d3] => { results := [.lit (.bool false)], args := [d1, d2, d3] }
  | _ => none }
def RpfUpWrongFalsely : Prop := rpfUpRow.holds Tryz.pinned (OpenSpec.ofChange rpfUpWrong)

/-- 'rivuletlaw11.RpfChains': WHATEVER THE INPUT: true; the input reads as it did. -/
def rpfChainsSpec : ChangeSpec := { name := "rpfChains", fn := fun _ => fun
  | [d1, d2, d3] => { results := [.lit (.bool true)], args := [d1, d2, d3] }
  | _ => none }
def rpfChainsRow : OpenClaim := { program := "ytelbgkknneljeaagreatdoor", sum := "4bc514973c66d963061393e862031c387aaabedbf66063b20846a40f2f24a7e4", func := "rivulet/rivuletlaw11.RpfChains", spec := "rpfChains", unfollowed := true, recurses := true, named := ["rivulet/api.ErrMany", "rivulet/api.ErrTwice", "rivulet/api.ErrRange", "rivulet/api.ErrName", "rivulet/api.ErrKind", "rivulet/api.ErrNone", "rivulet/api.ErrAway"], apart := false, laid := [("rivulet/api.ErrRange", laid_rivulet_api_ErrRange), ("rivulet/api.ErrMany", laid_rivulet_api_ErrMany), ("rivulet/api.ErrName", laid_rivulet_api_ErrName), ("rivulet/api.ErrTwice", laid_rivulet_api_ErrTwice), ("rivulet/api.ErrNone", laid_rivulet_api_ErrNone), ("rivulet/api.ErrAway", laid_rivulet_api_ErrAway), ("rivulet/api.ErrKind", laid_rivulet_api_ErrKind)] }
def RpfChainsSaid : Prop := rpfChainsRow.holds Tryz.pinned (OpenSpec.ofChange rpfChainsSpec)

/-- ITS FALSE NEIGHBOUR: 'it returns false'. Refute it at one input. -/
def rpfChainsWrong : ChangeSpec := { name := "rpfChains", fn := fun _ => fun
  | [d1, d2, d3] => { results := [.lit (.bool false)], args := [d1, d2, d3] }
  | _ => none }
def RpfChainsWrongFalsely : Prop := rpfChainsRow.holds Tryz.pinned (OpenSpec.ofChange rpfChainsWrong)

/-- 'rivuletlaw11.RpfSays': WHATEVER THE INPUT: true; the input reads as it did. -/
def rpfSaysSpec : ChangeSpec := { name := "rpfSays", fn := fun _ => fun
  | [d1, d2, d3, d4] => { results := [.lit (.bool true)], args := [d1, d2, d3, d4] }
  | _ => none }
def rpfSaysRow : OpenClaim := { program := "ytelbgkknneljeaagreatdoor", sum := "4bc514973c66d963061393e862031c387aaabedbf66063b20846a40f2f24a7e4", func := "rivulet/rivuletlaw11.RpfSays", spec := "rpfSays", unfollowed := true, recurses := true, named := ["rivulet/api.ErrMany", "rivulet/api.ErrTwice", "rivulet/api.ErrRange", "rivulet/api.ErrName", "rivulet/api.ErrKind", "rivulet/api.ErrNone", "rivulet/api.ErrAway"], apart := false, laid := [("rivulet/api.ErrRange", laid_rivulet_api_ErrRange), ("rivulet/api.ErrMany", laid_rivulet_api_ErrMany), ("rivulet/api.ErrName", laid_rivulet_api_ErrName), ("rivulet/api.ErrTwice", laid_rivulet_api_ErrTwice), ("rivulet/api.ErrNone", laid_rivulet_api_ErrNone), ("rivulet/api.ErrAway", laid_rivulet_api_ErrAway), ("rivulet/api.ErrKind", laid_rivulet_api_ErrKind)] }
def RpfSaysSaid : Prop := rpfSaysRow.holds Tryz.pinned (OpenSpec.ofChange rpfSaysSpec)

/-- ITS FALSE NEIGHBOUR: 'it returns false'. Refute it at one input. -/
def rpfSaysWrong : ChangeSpec := { name := "rpfSays", fn := fun _ => fun
  | [d1, d2, d3, d4] => { results := [.lit (.bool false)], args := [d1, d2, d3, d4] }
  | _ => none }
def RpfSaysWrongFalsely : Prop := rpfSaysRow.holds Tryz.pinned (OpenSpec.ofChange rpfSaysWrong)

/- THE SECOND FORM. 'bulk': how many values and letters a reading holds, each counted each time it is reached (what is shared counts as often as it is met; a slice's spare places count too). A statement '..UptoSaid' is the law's where the arguments, and the package variables that the reading takes, are together of bulk at most 1048576: NARROWER than '..Said'. Prove '..Said' where nothing that the law and all that it calls make is longer than what came in: it says more and counts as full. Else prove '..UptoSaid'. A law counts once. -/
mutual
def uptoBulk {H : Type} : DataW H → Nat
  | .lit (.string bytes) => bytes.length + 1
  | .lit _ => 1
  | .nil => 1
  | .ptr d => uptoBulk d + 1
  | .slice elems spare => uptoBulkAll elems + uptoBulkAll spare + 1
  | .agg parts => uptoBulkAll parts + 1
  | .iface _ d => uptoBulk d + 1
  | .map entries => uptoBulkEntries entries + 1
  | .held _ => 1
def uptoBulkAll {H : Type} : List (DataW H) → Nat
  | [] => 0
  | d :: r => uptoBulk d + uptoBulkAll r
def uptoBulkEntries {H : Type} : List (Lit × DataW H) → Nat
  | [] => 0
  | x :: r => uptoBulkEntry x + uptoBulkEntries r
def uptoBulkEntry {H : Type} : Lit × DataW H → Nat
  | (.string bytes, d) => bytes.length + uptoBulk d + 1
  | (_, d) => uptoBulk d + 1
 end
def uptoSmall : (H : Type) → List (DataW H) → Bool := fun _ ds => decide (uptoBulkAll ds ≤ 1048576)
def OpenSpec.upto (s : _root_.Go.ChangeSpec) : _root_.Go.OpenSpec := { _root_.Go.OpenSpec.ofChange s with cond := some uptoSmall }

/-- 'rivuletlaw9.RibSays', WHERE WHAT IT READS IS OF BULK AT MOST 1048576: true; the input reads as it did. -/
def ribSaysUptoRow : OpenClaim := { program := "ytelbgkknneljeaagreatdoor", sum := "4bc514973c66d963061393e862031c387aaabedbf66063b20846a40f2f24a7e4", func := "rivulet/rivuletlaw9.RibSays", spec := "ribSays", unfollowed := true, recurses := true, named := ["rivulet/api.ErrMany", "rivulet/api.ErrTwice", "rivulet/api.ErrRange", "rivulet/api.ErrName", "rivulet/api.ErrKind", "rivulet/api.ErrNone", "rivulet/api.ErrAway"], apart := false, laid := [("rivulet/api.ErrRange", laid_rivulet_api_ErrRange), ("rivulet/api.ErrMany", laid_rivulet_api_ErrMany), ("rivulet/api.ErrName", laid_rivulet_api_ErrName), ("rivulet/api.ErrTwice", laid_rivulet_api_ErrTwice), ("rivulet/api.ErrNone", laid_rivulet_api_ErrNone), ("rivulet/api.ErrAway", laid_rivulet_api_ErrAway), ("rivulet/api.ErrKind", laid_rivulet_api_ErrKind)], narrowed := true }
def RibSaysUptoSaid : Prop := ribSaysUptoRow.holds Tryz.pinned (OpenSpec.upto ribSaysSpec)

/-- 'rivuletlaw11.RpfLines', WHERE WHAT IT READS IS OF BULK AT MOST 1048576: true; the input reads as it did. -/
def rpfLinesUptoRow : OpenClaim := { program := "ytelbgkknneljeaagreatdoor", sum := "4bc514973c66d963061393e862031c387aaabedbf66063b20846a40f2f24a7e4", func := "rivulet/rivuletlaw11.RpfLines", spec := "rpfLines", unfollowed := true, recurses := true, named := ["rivulet/api.ErrMany", "rivulet/api.ErrTwice", "rivulet/api.ErrRange", "rivulet/api.ErrName", "rivulet/api.ErrKind", "rivulet/api.ErrNone", "rivulet/api.ErrAway"], apart := false, laid := [("rivulet/api.ErrRange", laid_rivulet_api_ErrRange), ("rivulet/api.ErrMany", laid_rivulet_api_ErrMany), ("rivulet/api.ErrName", laid_rivulet_api_ErrName), ("rivulet/api.ErrTwice", laid_rivulet_api_ErrTwice), ("rivulet/api.ErrNone", laid_rivulet_api_ErrNone), ("rivulet/api.ErrAway", laid_rivulet_api_ErrAway), ("rivulet/api.ErrKind", laid_rivulet_api_ErrKind)], narrowed := true }
def RpfLinesUptoSaid : Prop := rpfLinesUptoRow.holds Tryz.pinned (OpenSpec.upto rpfLinesSpec)

/-- 'rivuletlaw11.RpfUp', WHERE WHAT IT READS IS OF BULK AT MOST 1048576: true; the input reads as it did. -/
def rpfUpUptoRow : OpenClaim := { program := "ytelbgkknneljeaagreatdoor", sum := "4bc514973c66d963061393e862031c387aaabedbf66063b20846a40f2f24a7e4", func := "rivulet/rivuletlaw11.RpfUp", spec := "rpfUp", unfollowed := true, recurses := true, named := ["rivulet/api.ErrMany", "rivulet/api.ErrTwice", "rivulet/api.ErrRange", "rivulet/api.ErrName", "rivulet/api.ErrKind", "rivulet/api.ErrNone", "rivulet/api.ErrAway"], apart := false, laid := [("rivulet/api.ErrRange", laid_rivulet_api_ErrRange), ("rivulet/api.ErrMany", laid_rivulet_api_ErrMany), ("rivulet/api.ErrName", laid_rivulet_api_ErrName), ("rivulet/api.ErrTwice", laid_rivulet_api_ErrTwice), ("rivulet/api.ErrNone", laid_rivulet_api_ErrNone), ("rivulet/api.ErrAway", laid_rivulet_api_ErrAway), ("rivulet/api.ErrKind", laid_rivulet_api_ErrKind)], narrowed := true }
def RpfUpUptoSaid : Prop := rpfUpUptoRow.holds Tryz.pinned (OpenSpec.upto rpfUpSpec)

/-- 'rivuletlaw11.RpfChains', WHERE WHAT IT READS IS OF BULK AT MOST 1048576: true; the input reads as it did. -/
def rpfChainsUptoRow : OpenClaim := { program := "ytelbgkknneljeaagreatdoor", sum := "4bc514973c66d963061393e862031c387aaabedbf66063b20846a40f2f24a7e4", func := "rivulet/rivuletlaw11.RpfChains", spec := "rpfChains", unfollowed := true, recurses := true, named := ["rivulet/api.ErrMany", "rivulet/api.ErrTwice", "rivulet/api.ErrRange", "rivulet/api.ErrName", "rivulet/api.ErrKind", "rivulet/api.ErrNone", "rivulet/api.ErrAway"], apart := false, laid := [("rivulet/api.ErrRange", laid_rivulet_api_ErrRange), ("rivulet/api.ErrMany", laid_rivulet_api_ErrMany), ("rivulet/api.ErrName", laid_rivulet_api_ErrName), ("rivulet/api.ErrTwice", laid_rivulet_api_ErrTwice), ("rivulet/api.ErrNone", laid_rivulet_api_ErrNone), ("rivulet/api.ErrAway", laid_rivulet_api_ErrAway), ("rivulet/api.ErrKind", laid_rivulet_api_ErrKind)], narrowed := true }
def RpfChainsUptoSaid : Prop := rpfChainsUptoRow.holds Tryz.pinned (OpenSpec.upto rpfChainsSpec)

/-- 'rivuletlaw11.RpfSays', WHERE WHAT IT READS IS OF BULK AT MOST 1048576: true; the input reads as it did. -/
def rpfSaysUptoRow : OpenClaim := { program := "ytelbgkknneljeaagreatdoor", sum := "4bc514973c66d963061393e862031c387aaabedbf66063b20846a40f2f24a7e4", func := "rivulet/rivuletlaw11.RpfSays", spec := "rpfSays", unfollowed := true, recurses := true, named := ["rivulet/api.ErrMany", "rivulet/api.ErrTwice", "rivulet/api.ErrRange", "rivulet/api.ErrName", "rivulet/api.ErrKind", "rivulet/api.ErrNone", "rivulet/api.ErrAway"], apart := false, laid := [("rivulet/api.ErrRange", laid_rivulet_api_ErrRange), ("rivulet/api.ErrMany", laid_rivulet_api_ErrMany), ("rivulet/api.ErrName", laid_rivulet_api_ErrName), ("rivulet/api.ErrTwice", laid_rivulet_api_ErrTwice), ("rivulet/api.ErrNone", laid_rivulet_api_ErrNone), ("rivulet/api.ErrAway", laid_rivulet_api_ErrAway), ("rivulet/api.ErrKind", laid_rivulet_api_ErrKind)], narrowed := true }
def RpfSaysUptoSaid : Prop := rpfSaysUptoRow.holds Tryz.pinned (OpenSpec.upto rpfSaysSpec)

end Rows
end Go.Proofs.YtelbgkknneljeaaGreatDoor
