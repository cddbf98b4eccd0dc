/-
  No cell of these rows narrows 'for every input' (looked for: loops, veiled, ifaces, maps, wideKeys, modest, calm, conditions, laid).
  DERIVED. THE GIVEN ROWS OF THIS SEAT. 5 by the template 'for every input the law returns true; each argument reads behind the call as it read before'; 0 by the template 'total and deterministic' (their statements: YtmjmfollimaleaaTotals.lean).
  GIVEN WITH THE SEED: the statements are not yours to turn. If you find one false, say at which input.
  Laid BY PROGRAM, IN A SANDBOX (cutbox-rows.mjs): the forced cells as the released guide's own fill.sh prints them over the translation 37da50ea0213474a… (all of the seat's roots in one cut). By AI agents, Wed Nov 11 2026. No macro, syntax, notation, axiom, sorry.
-/
import Derived.Test.YtmjmfollimaleaaChecked
import GoSem.Claim
import GoSem.ClaimJoined
import GoSem.ClaimMapViews
import Derived.JoinedTies
import Derived.KernelRfl
namespace Go.Proofs.Ytmjmfollimaleaa
/- THE CELL 'sum', in the pinned program and in every row, IS THE sha256 OF THE DUMP (.gsa) THAT YtmjmfollimaleaaProg.lean LOADS. Nothing in Lean hashes anything: it is a label: what it is worth is what the hold of that sum in a sandbox is worth. -/
noncomputable def Try.pinned : Pinned := { name := "ytmjmfollimaleaa", sum := "37da50ea0213474a12e1b65dc29bfbe63cf70e00514803af83e83f1e8167db5a", checked := Try.checked }
namespace Rows
def none {H : Type} : Left H := { results := [], args := [] }

/-- 'rivuletlaw14.FiltOnes': WHATEVER THE INPUT: true; the input reads as it did. -/
def filtOnesSpec : ChangeSpec := { name := "filtOnes", fn := fun _ => fun
  | [d1, d2, d3] => { results := [.lit (.bool true)], args := [d1, d2, d3] }
  | _ => none }
def filtOnesRow : OpenClaim := { program := "ytmjmfollimaleaa", sum := "37da50ea0213474a12e1b65dc29bfbe63cf70e00514803af83e83f1e8167db5a", func := "rivulet/rivuletlaw14.FiltOnes", spec := "filtOnes", unfollowed := true, recurses := true, apart := false }
def FiltOnesSaid : Prop := filtOnesRow.holds Try.pinned (OpenSpec.ofChange filtOnesSpec)

/-- ITS FALSE NEIGHBOUR: 'it returns false'. Refute it at one input. -/
def filtOnesWrong : ChangeSpec := { name := "filtOnes", fn := fun _ => fun
  | [d1, d2, d3] => { results := [.lit (.bool false)], args := [d1, d2, d3] }
  | _ => none }
def FiltOnesWrongFalsely : Prop := filtOnesRow.holds Try.pinned (OpenSpec.ofChange filtOnesWrong)

/-- 'rivuletlaw14.FiltKeys': WHATEVER THE INPUT: true; the input reads as it did. -/
def filtKeysSpec : ChangeSpec := { name := "filtKeys", fn := fun _ => fun
  | [d1, d2, d3] => { results := [.lit (.bool true)], args := [d1, d2, d3] }
  | _ => none }
def filtKeysRow : OpenClaim := { program := "ytmjmfollimaleaa", sum := "37da50ea0213474a12e1b65dc29bfbe63cf70e00514803af83e83f1e8167db5a", func := "rivulet/rivuletlaw14.FiltKeys", spec := "filtKeys", unfollowed := true, recurses := true, apart := false }
def FiltKeysSaid : Prop := filtKeysRow.holds Try.pinned (OpenSpec.ofChange filtKeysSpec)

/-- ITS FALSE NEIGHBOUR: 'it returns false'. Refute it at one input. -/
def filtKeysWrong : ChangeSpec := { name := "filtKeys", fn := fun _ => fun
  | [d1, d2, d3] => { results := [.lit (.bool false)], args := [d1, d2, d3] }
  | _ => none }
def FiltKeysWrongFalsely : Prop := filtKeysRow.holds Try.pinned (OpenSpec.ofChange filtKeysWrong)

/-- 'rivuletlaw14.FiltLets': WHATEVER THE INPUT: true; the input reads as it did. -/
def filtLetsSpec : ChangeSpec := { name := "filtLets", fn := fun _ => fun
  | [d1, d2, d3, d4] => { results := [.lit (.bool true)], args := [d1, d2, d3, d4] }
  | _ => none }
def filtLetsRow : OpenClaim := { program := "ytmjmfollimaleaa", sum := "37da50ea0213474a12e1b65dc29bfbe63cf70e00514803af83e83f1e8167db5a", func := "rivulet/rivuletlaw14.FiltLets", spec := "filtLets", unfollowed := true, recurses := true, apart := false }
def FiltLetsSaid : Prop := filtLetsRow.holds Try.pinned (OpenSpec.ofChange filtLetsSpec)

/-- ITS FALSE NEIGHBOUR: 'it returns false'. Refute it at one input. -/
def filtLetsWrong : ChangeSpec := { name := "filtLets", fn := fun _ => fun
  | [d1, d2, d3, d4] => { results := [.lit (.bool false)], args := [d1, d2, d3, d4] }
  | _ => none }
def FiltLetsWrongFalsely : Prop := filtLetsRow.holds Try.pinned (OpenSpec.ofChange filtLetsWrong)

/-- 'rivuletlaw14.FiltRises': WHATEVER THE INPUT: true; the input reads as it did. -/
def filtRisesSpec : ChangeSpec := { name := "filtRises", fn := fun _ => fun
  | [d1, d2] => { results := [.lit (.bool true)], args := [d1, d2] }
  | _ => none }
def filtRisesRow : OpenClaim := { program := "ytmjmfollimaleaa", sum := "37da50ea0213474a12e1b65dc29bfbe63cf70e00514803af83e83f1e8167db5a", func := "rivulet/rivuletlaw14.FiltRises", spec := "filtRises", unfollowed := true, recurses := true, apart := false }
def FiltRisesSaid : Prop := filtRisesRow.holds Try.pinned (OpenSpec.ofChange filtRisesSpec)

/-- ITS FALSE NEIGHBOUR: 'it returns false'. Refute it at one input. -/
def filtRisesWrong : ChangeSpec := { name := "filtRises", fn := fun _ => fun
  | [d1, d2] => { results := [.lit (.bool false)], args := [d1, d2] }
  | _ => none }
def FiltRisesWrongFalsely : Prop := filtRisesRow.holds Try.pinned (OpenSpec.ofChange filtRisesWrong)

/-- 'rivuletlaw14.FiltSays': WHATEVER THE INPUT: true; the input reads as it did. -/
def filtSaysSpec : ChangeSpec := { name := "filtSays", fn := fun _ => fun
  | [d1, d2, d3, d4] => { results := [.lit (.bool true)], args := [d1, d2, d3, d4] }
  | _ => none }
def filtSaysRow : OpenClaim := { program := "ytmjmfollimaleaa", sum := "37da50ea0213474a12e1b65dc29bfbe63cf70e00514803af83e83f1e8167db5a", func := "rivulet/rivuletlaw14.FiltSays", spec := "filtSays", unfollowed := true, recurses := true, apart := false }
def FiltSaysSaid : Prop := filtSaysRow.holds Try.pinned (OpenSpec.ofChange filtSaysSpec)

/-- ITS FALSE NEIGHBOUR: 'it returns false'. Refute it at one input. -/
def filtSaysWrong : ChangeSpec := { name := "filtSays", fn := fun _ => fun
  | [d1, d2, d3, d4] => { results := [.lit (.bool false)], args := [d1, d2, d3, d4] }
  | _ => none }
def FiltSaysWrongFalsely : Prop := filtSaysRow.holds Try.pinned (OpenSpec.ofChange filtSaysWrong)

/- THE SECOND FORM. 'bulk': how many values and letters a reading holds, each counted each time it is reached (what is shared counts as often as it is met; a slice's spare places count too). A statement '..UptoSaid' is the law's where the arguments, and the package variables that the reading takes, are together of bulk at most 1048576: NARROWER than '..Said'. Prove '..Said' where nothing that the law and all that it calls make is longer than what came in: it says more and counts as full. Else prove '..UptoSaid'. A law counts once. -/
mutual
def uptoBulk {H : Type} : DataW H → Nat
  | .lit (.string bytes) => bytes.length + 1
  | .lit _ => 1
  | .nil => 1
  | .ptr d => uptoBulk d + 1
  | .slice elems spare => uptoBulkAll elems + uptoBulkAll spare + 1
  | .agg parts => uptoBulkAll parts + 1
  | .iface _ d => uptoBulk d + 1
  | .map entries => uptoBulkEntries entries + 1
  | .held _ => 1
def uptoBulkAll {H : Type} : List (DataW H) → Nat
  | [] => 0
  | d :: r => uptoBulk d + uptoBulkAll r
def uptoBulkEntries {H : Type} : List (Lit × DataW H) → Nat
  | [] => 0
  | x :: r => uptoBulkEntry x + uptoBulkEntries r
def uptoBulkEntry {H : Type} : Lit × DataW H → Nat
  | (.string bytes, d) => bytes.length + uptoBulk d + 1
  | (_, d) => uptoBulk d + 1
 end
def uptoSmall : (H : Type) → List (DataW H) → Bool := fun _ ds => decide (uptoBulkAll ds ≤ 1048576)
def OpenSpec.upto (s : _root_.Go.ChangeSpec) : _root_.Go.OpenSpec := { _root_.Go.OpenSpec.ofChange s with cond := some uptoSmall }

/-- 'rivuletlaw14.FiltOnes', WHERE WHAT IT READS IS OF BULK AT MOST 1048576: true; the input reads as it did. -/
def filtOnesUptoRow : OpenClaim := { program := "ytmjmfollimaleaa", sum := "37da50ea0213474a12e1b65dc29bfbe63cf70e00514803af83e83f1e8167db5a", func := "rivulet/rivuletlaw14.FiltOnes", spec := "filtOnes", unfollowed := true, recurses := true, apart := false, narrowed := true }
def FiltOnesUptoSaid : Prop := filtOnesUptoRow.holds Try.pinned (OpenSpec.upto filtOnesSpec)

/-- 'rivuletlaw14.FiltKeys', WHERE WHAT IT READS IS OF BULK AT MOST 1048576: true; the input reads as it did. -/
def filtKeysUptoRow : OpenClaim := { program := "ytmjmfollimaleaa", sum := "37da50ea0213474a12e1b65dc29bfbe63cf70e00514803af83e83f1e8167db5a", func := "rivulet/rivuletlaw14.FiltKeys", spec := "filtKeys", unfollowed := true, recurses := true, apart := false, narrowed := true }
def FiltKeysUptoSaid : Prop := filtKeysUptoRow.holds Try.pinned (OpenSpec.upto filtKeysSpec)

/-- 'rivuletlaw14.FiltLets', WHERE WHAT IT READS IS OF BULK AT MOST 1048576: true; the input reads as it did. -/
def filtLetsUptoRow : OpenClaim := { program := "ytmjmfollimaleaa", sum := "37da50ea0213474a12e1b65dc29bfbe63cf70e00514803af83e83f1e8167db5a", func := "rivulet/rivuletlaw14.FiltLets", spec := "filtLets", unfollowed := true, recurses := true, apart := false, narrowed := true }
def FiltLetsUptoSaid : Prop := filtLetsUptoRow.holds Try.pinned (OpenSpec.upto filtLetsSpec)

/-- 'rivuletlaw14.FiltRises', WHERE WHAT IT READS IS OF BULK AT MOST 1048576: true; the input reads as it did. -/
def filtRisesUptoRow : OpenClaim := { program := "ytmjmfollimaleaa", sum := "37da50ea0213474a12e1b65dc29bfbe63cf70e00514803af83e83f1e8167db5a", func := "rivulet/rivuletlaw14.FiltRises", spec := "filtRises", unfollowed := true, recurses := true, apart := false, narrowed := true }
def FiltRisesUptoSaid : Prop := filtRisesUptoRow.holds Try.pinned (OpenSpec.upto filtRisesSpec)

/-- 'rivuletlaw14.FiltSays', WHERE WHAT IT READS IS OF BULK AT MOST 1048576: true; the input reads as it did. -/
def filtSaysUptoRow : OpenClaim := { program := "ytmjmfollimaleaa", sum := "37da50ea0213474a12e1b65dc29bfbe63cf70e00514803af83e83f1e8167db5a", func := "rivulet/rivuletlaw14.FiltSays", spec := "filtSays", unfollowed := true, recurses := true, apart := false, narrowed := true }
def FiltSaysUptoSaid : Prop := filtSaysUptoRow.holds Try.pinned (OpenSpec.upto filtSaysSpec)

end Rows
end Go.Proofs.Ytmjmfollimaleaa
