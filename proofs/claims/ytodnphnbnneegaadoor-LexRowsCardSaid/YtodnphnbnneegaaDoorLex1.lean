/- lex: the fields of a line: contracts. -/
import Derived.Test.YtodnphnbnneegaaDoorTxt
import Derived.Test.YtodnphnbnneegaaDoorWorld
import Derived.Test.YtodnphnbnneegaaDoorShelf2
import Derived.Shelf.Strings.FieldsFuncGrows
set_option linter.unusedVariables false
set_option linter.unusedSimpArgs false
set_option maxHeartbeats 4000000
namespace Go.Proofs.YtodnphnbnneegaaDoor.VL
open Go.RowKit Go.Proofs

/-- A later reading that knows nothing but the package's variables. -/
def RE.later (R : RE) (W : World) : RE := ⟨W, fun _ _ => False, fun _ => False, fun _ => none, fun _ _ => False, R.G⟩
theorem Start_later {R : RE} (hR : R.Start) (hM : ∀ k, ¬ R.M k) {W : World} (hb : Below R.w.heap.size R.w W) : (R.later W).Start :=
  ⟨fun _ _ h => h, fun _ _ h => h.elim, fun _ h => h.elim, fun _ ⟨c, hc⟩ => (nomatch hc), fun _ ⟨c, hc⟩ => (nomatch hc), fun _ _ _ h => (nomatch h), fun g hg => by
    have := hR.glob g hg
    show W.cell? _ = _
    rw [hb.cell (World.block_lt_of_cell? R.w _ this)]
    exact this, fun _ _ ⟨c, hc⟩ => (nomatch hc), hR.globD.congr fun g hg o ho => (hb.block g (lt_of_heap ho)).trans ho, fun _ _ ⟨c, hc⟩ => (nomatch hc), fun g hg => by
    obtain ⟨h1, ⟨cs, ty, h2⟩, _⟩ := hR.gsent g hg
    exact ⟨h1, ⟨cs, ty, (hb.block _ (lt_of_heap h2)).trans h2⟩, fun ⟨c, hc⟩ => (nomatch hc)⟩, hR.gdist⟩

/-- What a contract gives where nothing is lent. -/
theorem AC_run {P : Program} {f : FuncId} {args : List AV} {r : AV} (h : AC P f args r) {R : RE} (hR : R.Start) (hl : ∀ c, R.loc c = none) {cargs : List Value} (hrep : RepL R args cargs) :
    Calls P f cargs.toArray R.w fun e w' => ∃ v E', e = .returned v ∧ E'.w = w' ∧ Rep E' r v ∧ Below R.w.heap.size R.w w' := by
  refine (h.calls R cargs hR (fun c b hc => by rw [hl c] at hc; cases hc) (fun c cs hc => by cases hc) hrep).mono ?_
  rintro e w' ⟨v, E', rfl, rfl, hr, ha, _⟩
  exact ⟨v, E', rfl, rfl, hr, ha.below.below fun k ⟨c, hc⟩ => by rw [hl c] at hc; cases hc⟩

def spaceP (x : Nat) : Bool := x == 32 || (x == 9 || x == 13)
theorem C_space (x : Nat) : AC Tryd.prog f_lex_space [.lit (.int .i32 (x : Nat))] (.lit (.bool (spaceP x))) := by
  refine ac_lex_space ?_ (Nat.le_add_left 1 _)
  have hc : ∀ k : Nat, (((x : Nat) : Int) == (k : Int)) = (x == k) := fun k => by
    rw [Bool.eq_iff_iff, beq_iff_eq, beq_iff_eq]
    omega
  have h32 := hc 32
  have h9 := hc 9
  have h13 := hc 13
  rw [show ((32 : Nat) : Int) = 32 from rfl] at h32
  rw [show ((9 : Nat) : Int) = 9 from rfl] at h9
  rw [show ((13 : Nat) : Int) = 13 from rfl] at h13
  unfold spaceP
  cases e32 : (x == 32)
  · cases e9 : (x == 9)
    · simp only [go_sem, Nat.reduceAdd, Nat.reduceLT, Nat.reduceEqDiff, Nat.reduceBEq, Nat.reduceLeDiff, Nat.reduceSub, Int.reduceToNat, reduceCtorEq, ↓reduceIte, c_lex_space, h32, h9, h13, e32, e9, Bool.false_or]
    · simp only [go_sem, Nat.reduceAdd, Nat.reduceLT, Nat.reduceEqDiff, Nat.reduceBEq, Nat.reduceLeDiff, Nat.reduceSub, Int.reduceToNat, reduceCtorEq, ↓reduceIte, c_lex_space, h32, h9, h13, e32, e9, Bool.false_or, Bool.true_or]
  · simp only [go_sem, Nat.reduceAdd, Nat.reduceLT, Nat.reduceEqDiff, Nat.reduceBEq, Nat.reduceLeDiff, Nat.reduceSub, Int.reduceToNat, reduceCtorEq, ↓reduceIte, c_lex_space, h32, h9, h13, e32, Bool.true_or]

abbrev f_strings_FieldsFunc : FuncId := 48
def fieldsB (s : ByteArray) : List ByteArray := Lib.goFieldsP spaceP s

theorem C_FieldsFunc (s : ByteArray) (hs : s.size ≤ 4294967296) : AC Tryd.prog f_strings_FieldsFunc [avStr s, .clo (.func f_lex_space) [] []] (.sl .none 1 ((fieldsB s).map avStr)) := by
  refine ⟨rfl, enters_of Tryd.func48 (by kernel_rfl) (by kernel_rfl), fun R cargs hR hh _ hrep => ?_⟩
  simp only [RepL, Rep, avStr] at hrep
  obtain ⟨_, _, rfl, rfl, _, _, rfl, ⟨fs, cs, rfl, rfl, rfl⟩, rfl⟩ := hrep
  have hloc : ∀ c, R.loc c = none := fun c => by
    cases h : R.loc c with
    | none => rfl
    | some b =>
      obtain ⟨_, _, _, e, _⟩ := hh c b h
      cases e
  have hM : ∀ k, ¬ R.M k := fun k ⟨c, hc⟩ => by rw [hloc c] at hc; cases hc
  have hg : PredGrows Tryd.prog f_lex_space #[] spaceP R.w := by
    intro W x hx hb
    have hst := Start_later hR hM hb
    refine (AC_run (C_space x) hst (fun _ => rfl) (cargs := [.int .i32 x]) (by simp only [RepL, Rep]; exact ⟨_, _, rfl, rfl, rfl⟩)).mono ?_
    rintro e w' ⟨v, E', rfl, _, hr, hbl⟩
    simp only [Rep] at hr
    subst hr
    exact ⟨rfl, hbl⟩
  refine (Any.strings_FieldsFunc_grows Tryd.lays229 f_lex_space #[] (enters_of Tryd.func49 (by kernel_rfl) (by kernel_rfl)) spaceP s R.w hs hg (by kernel_rfl) (by kernel_rfl)).mono ?_
  rintro e w' ⟨A, rfl, hA, hown, hb⟩
  unfold fieldsB
  generalize Lib.goFieldsP spaceP s = l at hown ⊢
  obtain ⟨_, ⟨hn, _⟩ | ⟨g, cap, cur, hv, hg2, hheap, hle, hcap, hsz, htake⟩⟩ := hown
  · cases hn
  injection hv with hv1 hv2 hv3
  injection hv1 with hv1
  injection hv1 with hv1
  subst hv1 hv3
  let E' : RE := { R with w := w', S := fun b o => R.S b o ∨ b = A }
  have hlt : A < w'.heap.size := lt_of_heap hheap
  refine ⟨_, E', rfl, rfl, ?_, ⟨⟨hb.os, hb.tape, hb.output, hb.size, fun k hk _ => hb.block k hk⟩, fun k hk o hs => hM k hk, fun b o hlt => ?_, fun b o hs => ?_, rfl, fun g τ ho => (hR.own g τ ho).elim, fun g τ τ' ho => (hR.own g τ ho).elim⟩, fun c b hc => ?_⟩
  · simp only [Rep]
    refine ⟨some ⟨A, 0, none⟩, l.length, l.map Value.string, by simp, by simp, repL_str _ _, ?_, ?_, fun _ => ⟨_, _, rfl, ?_⟩⟩
    · intro u hu
      obtain ⟨x, _, rfl⟩ := List.mem_map.1 hu
      rfl
    · rw [flat_str]
      intro u hu
      obtain ⟨x, _, rfl⟩ := List.mem_map.1 hu
      rfl
    · rw [flat_str]
      intro j u hj
      refine ⟨.inr rfl, ?_⟩
      have hcell : w'.cell? ⟨A, 0 + j, none⟩ = cur[0 + j]? := by
        simp only [World.cell?, hheap]
        rfl
      show w'.cell? _ = _
      rw [hcell, Nat.zero_add]
      have h1 : cur.toList[j]? = some u := by
        rw [← htake, List.getElem?_take] at hj
        split at hj
        · exact hj
        · cases hj
      simpa using h1
  · constructor
    · rintro (hs | rfl)
      · exact hs
      · exact absurd hlt (by omega)
    · exact .inl
  · rcases hs with hs | rfl
    · exact Nat.lt_of_lt_of_le (hR.S b o hs) hb.size
    · exact hlt
  · rw [hloc c] at hc
    cases hc

end Go.Proofs.YtodnphnbnneegaaDoor.VL
