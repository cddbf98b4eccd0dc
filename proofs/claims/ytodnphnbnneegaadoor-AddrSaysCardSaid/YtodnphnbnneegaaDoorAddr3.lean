/- addr: numbers and parts of texts: contracts out of the library's own. -/
import Derived.Test.YtodnphnbnneegaaDoorAddr2
import Derived.Test.YtodnphnbnneegaaDoorWorld
import Derived.Lib.SplitLaws
import Derived.Lib.SmallJoins
import Derived.Shelf.Strconv.AtoiAll
set_option linter.unusedVariables false
set_option linter.unusedSimpArgs false
set_option maxHeartbeats 4000000
namespace Go.Proofs.YtodnphnbnneegaaDoor.VL
open Go.RowKit Go.Proofs

abbrev f_strconv_Atoi : FuncId := 54
abbrev f_strings_Split : FuncId := 46
abbrev f_strings_Cut : FuncId := 47

/-- What a text says as an int, if it does. -/
def numA (s : ByteArray) : Option Int := match Lib.atoiAll s.data.toList with
  | .ok v => some v
  | _ => none
def atoiR (s : ByteArray) : AV := match Lib.atoiAll s.data.toList with
  | .ok v => .tup [.lit (.int .i64 v), .lit .nilIface]
  | .range => .tup [.lit (.int .i64 (Lib.atoiSat s.data.toList)), .ifc 120 .dead]
  | _ => .tup [.lit (.int .i64 0), .ifc 120 .dead]

theorem maxLen_is {R : RE} (hR : R.Start) : ∃ m, R.w.cell? ⟨5, 0, none⟩ = some (.int .i64 m) := by
  obtain ⟨cs, ty, fr, m, h, h2⟩ := hR.globD.ints 5 (by simp [GI])
  exact ⟨m, by simp [World.cell?, h, h2]⟩

theorem C_Atoi (s : ByteArray) (hs : s.size ≤ 281474976710656) : AC Tryd.prog f_strconv_Atoi [avStr s] (atoiR s) := by
  have hen : Enters Tryd.prog f_strconv_Atoi := enters_of Tryd.func54 (by kernel_rfl) (by kernel_rfl)
  have hok : resOK (atoiR s) = true := by unfold atoiR; split <;> rfl
  refine ⟨hok, hen, fun R cargs hR hh _ hrep => ?_⟩
  simp only [RepL, Rep, avStr] at hrep
  obtain ⟨_, _, rfl, rfl, rfl⟩ := hrep
  have fin : ∀ {v : Value} {w' : World}, (∀ E : RE, Rep E (atoiR s) v) → Below R.w.heap.size R.w w' → ∃ v' E', Ending.returned v = .returned v' ∧ E'.w = w' ∧ Rep E' (atoiR s) v' ∧ After R E' ∧ R.Holds E' [] := by
    intro v w' hv hb
    refine ⟨v, { R with w := w' }, rfl, rfl, hv _, ⟨⟨hb.os, hb.tape, hb.output, hb.size, fun k hk _ => hb.block k hk⟩, hR.MS, fun b o _ => Iff.rfl, fun b o hs => Nat.lt_of_lt_of_le (hR.S b o hs) hb.size, rfl, fun g τ ho => (hR.own g τ ho).elim, fun g τ τ' ho => (hR.own g τ ho).elim⟩, fun c b hc => ?_⟩
    obtain ⟨cs, _, _, e, _⟩ := hh c b hc
    cases e
  have sent : ∀ g ∈ GS, ∃ ev, R.w.cell? ⟨g, 0, none⟩ = some ev ∧ (ev = .nilIface ∨ ∃ te pe, ev = .iface te pe) := fun g hg => ⟨_, hR.glob g hg, .inr ⟨_, _, rfl⟩⟩
  cases ha : Lib.atoiAll s.data.toList
  · rename_i v
    refine (Tryd.strconv_Atoi_ok s (by omega) v ha R.w).mono ?_
    rintro e w' ⟨rfl, hw⟩
    refine fin (fun E => ?_) ?_
    · simp only [atoiR, ha, Rep]
      exact ⟨[.int .i64 v, .nilIface], rfl, by simp only [RepL, Rep]; exact ⟨_, _, rfl, rfl, _, _, rfl, rfl, rfl⟩⟩
    · rcases hw with rfl | ⟨t, rfl⟩
      · exact Below.refl _ _
      · exact Go.Joins.below_bytesWorld _ _ _ _ (Nat.le_refl _)
  · obtain ⟨ev, h1, h2⟩ := sent 6 (by simp [GS])
    refine (Any.strconv_Atoi_syntax Tryd.laysC172 s hs ha ev R.w h1 h2).mono ?_
    rintro e w' ⟨N, rfl, _, _, hb⟩
    refine fin (fun E => ?_) hb
    simp only [atoiR, ha, Rep]
    exact ⟨[.int .i64 0, _], rfl, by simp only [RepL, Rep]; exact ⟨_, _, rfl, rfl, _, _, rfl, ⟨_, rfl, trivial⟩, rfl⟩⟩
  · obtain ⟨ev, h1, h2⟩ := sent 7 (by simp [GS])
    refine (Tryd.strconv_Atoi_range s hs ha ev R.w h1 h2).mono ?_
    rintro e w' ⟨N, rfl, _, _, hb⟩
    refine fin (fun E => ?_) hb
    simp only [atoiR, ha, Rep]
    exact ⟨[.int .i64 (Lib.atoiSat s.data.toList), _], rfl, by simp only [RepL, Rep]; exact ⟨_, _, rfl, rfl, _, _, rfl, ⟨_, rfl, trivial⟩, rfl⟩⟩

theorem C_Cut (s sep : ByteArray) (hs : s.size < 4294967281) : AC Tryd.prog f_strings_Cut [avStr s, avStr sep]
    (.tup [avStr ⟨(Lib.cut s.data.toList sep.data.toList).1.toArray⟩, avStr ⟨(Lib.cut s.data.toList sep.data.toList).2.1.toArray⟩, .lit (.bool (Lib.cut s.data.toList sep.data.toList).2.2)]) := by
  refine AC_lib (v := .tuple #[.string ⟨(Lib.cut s.data.toList sep.data.toList).1.toArray⟩, .string ⟨(Lib.cut s.data.toList sep.data.toList).2.1.toArray⟩, .bool (Lib.cut s.data.toList sep.data.toList).2.2]) (enters_of Tryd.func47 (by kernel_rfl) (by kernel_rfl)) rfl (fun E => ?_) fun R cargs hR hrep => ?_
  · simp only [avStr, Rep]
    exact ⟨[_, _, _], rfl, by simp only [RepL, Rep]; exact ⟨_, _, rfl, rfl, _, _, rfl, rfl, _, _, rfl, rfl, rfl⟩⟩
  · simp only [RepL, Rep, avStr] at hrep
    obtain ⟨_, _, rfl, rfl, _, _, rfl, rfl, rfl⟩ := hrep
    obtain ⟨m, hm⟩ := maxLen_is hR
    refine (Tryd.strings_Cut s sep m R.w hs hm).mono ?_
    rintro e w' ⟨rfl, n, rfl⟩
    exact ⟨rfl, below_drewN _ _⟩

theorem repL_str (E : RE) : ∀ xs : List ByteArray, RepL E (xs.map avStr) (xs.map Value.string)
  | [] => by simp [RepL]
  | x :: xs => by simp only [List.map_cons, RepL, avStr, Rep]; exact ⟨_, _, rfl, rfl, repL_str E xs⟩

theorem C_Split (s sep : ByteArray) (hs : s.size < 4294967281) (h1 : 1 ≤ sep.size) : AC Tryd.prog f_strings_Split [avStr s, avStr sep] (.sl .none 1 ((Lib.splitB sep 0 (Lib.countB s sep) s).map avStr)) := by
  refine ⟨rfl, enters_of Tryd.func46 (by kernel_rfl) (by kernel_rfl), fun R cargs hR hh _ hrep => ?_⟩
  simp only [RepL, Rep, avStr] at hrep
  obtain ⟨_, _, rfl, rfl, _, _, rfl, rfl, rfl⟩ := hrep
  obtain ⟨m, hm⟩ := maxLen_is hR
  have hlen := Lib.splitB_all sep h1 0 (Lib.countB s sep) s rfl
  generalize hl : Lib.splitB sep 0 (Lib.countB s sep) s = l at hlen ⊢
  refine (Tryd.strings_Split s sep m R.w hs hm h1).mono ?_
  rintro e w' ⟨rfl, rfl⟩
  rw [hl]
  let E' : RE := { R with w := R.w.alloc (.cells (l.map Value.string).toArray 9), S := fun b o => R.S b o ∨ b = R.w.heap.size }
  have hb : Below R.w.heap.size R.w E'.w := (Below.refl _ _).alloc (Nat.le_refl _) _
  have hnew : E'.w.heap[R.w.heap.size]? = some (.cells (l.map Value.string).toArray 9 (0, 0)) := by
    show (R.w.heap.push _)[R.w.heap.size]? = _
    simp
  refine ⟨_, E', rfl, rfl, ?_, ⟨⟨hb.os, hb.tape, hb.output, hb.size, fun k hk _ => hb.block k hk⟩, fun k hk o hs => ?_, fun b o hlt => ?_, fun b o hs => ?_, rfl, fun g τ ho => (hR.own g τ ho).elim, fun g τ τ' ho => (hR.own g τ ho).elim⟩, fun c b hc => ?_⟩
  · simp only [Rep]
    refine ⟨some ⟨R.w.heap.size, 0, none⟩, Lib.countB s sep + 1, l.map Value.string, by simp [hlen], by simp [hlen], repL_str _ _, ?_, ?_, fun _ => ⟨_, _, rfl, ?_⟩⟩
    · intro u hu
      obtain ⟨x, _, rfl⟩ := List.mem_map.1 hu
      rfl
    · rw [flat_str]
      intro u hu
      obtain ⟨x, _, rfl⟩ := List.mem_map.1 hu
      rfl
    · rw [flat_str]
      intro j u hj
      refine ⟨.inr rfl, ?_⟩
      simp only [World.cell?, hnew, Nat.zero_add]
      simpa using hj
  · rcases hs with hs | rfl
    · exact hR.MS k hk o hs
    · exact Nat.lt_irrefl _ (hR.Mlt _ hk)
  · constructor
    · rintro (hs | rfl)
      · exact hs
      · exact (Nat.lt_irrefl _ hlt).elim
    · exact .inl
  · rcases hs with hs | rfl
    · exact Nat.lt_of_lt_of_le (hR.S b o hs) hb.size
    · show _ < (R.w.heap.push _).size
      simp
  · obtain ⟨cs, _, _, e, _⟩ := hh c b hc
    cases e

end Go.Proofs.YtodnphnbnneegaaDoor.VL
