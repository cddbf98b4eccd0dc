/- Sorting, part 9: slices.Clone; what rises, each once (filt.rising): contracts. -/
import Derived.Test.YtmjmfollimaleaaSort8
set_option linter.unusedVariables false
set_option linter.unusedSimpArgs false
set_option maxHeartbeats 4000000
namespace Go.Proofs.Ytmjmfollimaleaa.VL
open Go.RowKit Go.Proofs Go.Sort

/-- A contract over a slice without parts, by its header. -/
theorem AC_hdr {P : Program} {f : FuncId} {t : Tok} {e : Nat} {r : AV} (h : ∀ A cap, AC P f [.lit (.slice A 0 cap)] r) : AC P f [.sl t e []] r := by
  refine ⟨(h none 0).res, (h none 0).enters, fun R cargs hR hh hg hr => ?_⟩
  simp only [RepL, Rep] at hr
  obtain ⟨v, ws, rfl, ⟨A, cap, vs, rfl, _⟩, rfl⟩ := hr
  exact (h A cap).calls R _ hR hh hg (by simp only [RepL, Rep]; exact ⟨_, _, rfl, rfl, rfl⟩)
/-- A contract says less of what comes back. -/
theorem AC_weak {P : Program} {f : FuncId} {args : List AV} {r r' : AV} (h : AC P f args r) (hr : ∀ E v, Rep E r v → Rep E r' v) (hok : resOK r' = true := by rfl) : AC P f args r' :=
  ⟨hok, h.enters, fun R cargs hR hh hg ha => (h.calls R cargs hR hh hg ha).mono fun e w' ⟨v, E', h1, h2, h3, h4, h5⟩ => ⟨v, E', h1, h2, hr _ _ h3, h4, h5⟩⟩
theorem rep_sl0 {E : RE} {t : Tok} {e e' : Nat} {v : Value} (h : Rep E (.sl t e []) v) : Rep E (.sl .none e' []) v := by
  simp only [Rep] at h ⊢
  obtain ⟨A, cap, vs, rfl, h1, h2, h3, h4, _⟩ := h
  refine ⟨A, cap, vs, rfl, h1, h2, fun u hu => ?_, h4, fun h => absurd rfl h⟩
  have : vs = [] := by simpa [RepL] using h2
  rw [this] at hu
  simp at hu

theorem isNone_some (a : Addr) : (some a : Option Addr).isNone = false := rfl
theorem isNone_none : (none : Option Addr).isNone = true := rfl

theorem C_Clone0 (t : Tok) (e : Nat) : AC Try.prog f_slices_Clone_api_Addr_api_Addr [.sl t e []] (.sl .none 1 []) := by
  refine AC_hdr fun A cap => ?_
  cases A with
  | none =>
    refine AC_weak (r := .sl .nil 0 []) (ac_slices_Clone_api_Addr_api_Addr ?_ (Nat.le_add_left 1 _)) (fun E v h => rep_sl0 h)
    simp only [go_sem, Nat.reduceAdd, Nat.reduceLT, Nat.reduceEqDiff, Nat.reduceBEq, Nat.reduceLeDiff, Nat.reduceSub, Int.reduceToNat, reduceCtorEq, ↓reduceIte, c_slices_Clone_api_Addr_api_Addr, isNone_none]
  | some ad =>
    refine AC_weak (r := .sl (.fr [7]) 1 []) (ac_slices_Clone_api_Addr_api_Addr ?_ (Nat.le_add_left 1 _)) (fun E v h => rep_sl0 h)
    simp only [go_sem, Nat.reduceAdd, Nat.reduceLT, Nat.reduceEqDiff, Nat.reduceBEq, Nat.reduceLeDiff, Nat.reduceSub, Int.reduceToNat, reduceCtorEq, ↓reduceIte, c_slices_Clone_api_Addr_api_Addr, isNone_some]
    refine shiftX_of (VS.lit0 (k := 0) (e := 1) .none rfl (.inl rfl)) ?_
    rintro _ rfl
    simp only [mkE_put, go_sem, Nat.reduceAdd, Nat.reduceLT, Nat.reduceEqDiff, Nat.reduceBEq, Nat.reduceLeDiff, Nat.reduceSub, Int.reduceToNat, reduceCtorEq, ↓reduceIte]
    refine bslX_fr ?_
    have e : ∀ s c, avApp 1 4 [] 7 s c (.sl (.fr [5]) 1 []) (.sl .none 1 []) = _ := fun s c => avApp_fr 1 4 [] [5] [] [] .none (by decide) (by decide) rfl
    simp only [go_sem, Nat.reduceAdd, Nat.reduceLT, Nat.reduceEqDiff, Nat.reduceBEq, Nat.reduceLeDiff, Nat.reduceSub, Int.reduceToNat, reduceCtorEq, ↓reduceIte, e, List.append_nil]
theorem C_Clone (rows : List AV) (h0 : rows ≠ []) (hl : rows.length ≤ 4294967296) : AC Try.prog f_slices_Clone_api_Addr_api_Addr [.sl .none 1 rows] (.sl (.fr [7]) 1 rows) := by
  refine ac_slices_Clone_api_Addr_api_Addr ?_ (Nat.le_add_left 1 _)
  simp only [go_sem, Nat.reduceAdd, Nat.reduceLT, Nat.reduceEqDiff, Nat.reduceBEq, Nat.reduceLeDiff, Nat.reduceSub, Int.reduceToNat, reduceCtorEq, ↓reduceIte, c_slices_Clone_api_Addr_api_Addr, avEqs_ne _ _ _ h0]
  refine shiftX_refl ?_
  simp only [go_sem, Nat.reduceAdd, Nat.reduceLT, Nat.reduceEqDiff, Nat.reduceBEq, Nat.reduceLeDiff, Nat.reduceSub, Int.reduceToNat, reduceCtorEq, ↓reduceIte]
  refine bslX_fr ?_
  have e : ∀ s c, avApp 1 4 [] 7 s c (.sl (.fr [5]) 1 []) (.sl .none 1 rows) = _ := fun s c => avApp_fr 1 4 [] [5] [] rows .none (by simpa using hl) (by decide) rfl
  simp only [go_sem, Nat.reduceAdd, Nat.reduceLT, Nat.reduceEqDiff, Nat.reduceBEq, Nat.reduceLeDiff, Nat.reduceSub, Int.reduceToNat, reduceCtorEq, ↓reduceIte, e, List.nil_append]

/-! ### A row without parts -/
theorem C_ins0 (t : Tok) (e : Nat) : AC Try.prog f_slices_insertionSortOrdered_api_Addr [.sl t e [], iI 0, iI 0] (.tup []) := by
  refine ac_slices_insertionSortOrdered_api_Addr ?_ (Nat.le_add_left 3 _)
  simp only [go_sem, Nat.reduceAdd, Nat.reduceLT, Nat.reduceEqDiff, Nat.reduceBEq, Nat.reduceLeDiff, Nat.reduceSub, Int.reduceToNat, reduceCtorEq, ↓reduceIte, c_slices_insertionSortOrdered_api_Addr, iw 1 (by decide) (by decide), Int.zero_add]
  refine aw_loop (fun m E => E = mkE [(0, .sl t e []), (1, iI 0), (2, iI 0), (6, iI 1)] []) 0 (by simp only [go_sem, Nat.reduceAdd, Nat.reduceLT, Nat.reduceEqDiff, Nat.reduceBEq, Nat.reduceLeDiff, Nat.reduceSub, Int.reduceToNat, reduceCtorEq, ↓reduceIte]) ?_
  rintro m _ rfl
  simp only [go_sem, Nat.reduceAdd, Nat.reduceLT, Nat.reduceEqDiff, Nat.reduceBEq, Nat.reduceLeDiff, Nat.reduceSub, Int.reduceToNat, reduceCtorEq, ↓reduceIte, show ((1 : Int) < 0) = False from by simp, decide_false]
theorem C_pdq0 (t : Tok) (e : Nat) : AC Try.prog f_slices_pdqsortOrdered_api_Addr [.sl t e [], iI 0, iI 0, iI 0] (.tup []) := by
  refine ac_slices_pdqsortOrdered_api_Addr ?_ (Nat.le_add_left 4 _)
  simp only [go_sem, Nat.reduceAdd, Nat.reduceLT, Nat.reduceEqDiff, Nat.reduceBEq, Nat.reduceLeDiff, Nat.reduceSub, Int.reduceToNat, reduceCtorEq, ↓reduceIte, c_slices_pdqsortOrdered_api_Addr]
  refine aw_loop (fun m E => E = mkE [(0, .sl t e []), (1, iI 0), (2, iI 0), (3, iI 0), (8, .lit (.bool true)), (9, .lit (.bool true))] []) 0 (by simp only [go_sem, Nat.reduceAdd, Nat.reduceLT, Nat.reduceEqDiff, Nat.reduceBEq, Nat.reduceLeDiff, Nat.reduceSub, Int.reduceToNat, reduceCtorEq, ↓reduceIte]) ?_
  rintro m _ rfl
  simp only [go_sem, Nat.reduceAdd, Nat.reduceLT, Nat.reduceEqDiff, Nat.reduceBEq, Nat.reduceLeDiff, Nat.reduceSub, Int.reduceToNat, reduceCtorEq, ↓reduceIte, Int.sub_self, iw 0 (by decide) (by decide), show ((0 : Int) ≤ 12) = True from by simp, decide_true]
  refine callX_of (C_ins0 _ _) ?_
  simp only [go_sem, Nat.reduceAdd, Nat.reduceLT, Nat.reduceEqDiff, Nat.reduceBEq, Nat.reduceLeDiff, Nat.reduceSub, Int.reduceToNat, reduceCtorEq, ↓reduceIte]
theorem C_Sort0 (t : Tok) (e : Nat) : AC Try.prog f_slices_Sort_api_Addr_api_Addr [.sl t e []] (.tup []) := by
  refine ac_slices_Sort_api_Addr_api_Addr ?_ (Nat.le_add_left 1 _)
  have wu : IntKind.u64.wrap ((0 : Nat) : Int) = ((0 : Nat) : Int) := by decide
  simp only [go_sem, Nat.reduceAdd, Nat.reduceLT, Nat.reduceEqDiff, Nat.reduceBEq, Nat.reduceLeDiff, Nat.reduceSub, Int.reduceToNat, reduceCtorEq, ↓reduceIte, c_slices_Sort_api_Addr_api_Addr, List.length_nil, wu]
  refine callX_of (C_Len (n := 0) (by decide)) ?_
  simp only [go_sem, Nat.reduceAdd, Nat.reduceLT, Nat.reduceEqDiff, Nat.reduceBEq, Nat.reduceLeDiff, Nat.reduceSub, Int.reduceToNat, reduceCtorEq, ↓reduceIte, show bitsLen 0 = 0 from rfl, Int.natCast_zero]
  refine callX_of (C_pdq0 _ _) ?_
  simp only [go_sem, Nat.reduceAdd, Nat.reduceLT, Nat.reduceEqDiff, Nat.reduceBEq, Nat.reduceLeDiff, Nat.reduceSub, Int.reduceToNat, reduceCtorEq, ↓reduceIte]
theorem C_Compact0 (e : Nat) : AC Try.prog f_slices_Compact_api_Addr_api_Addr [.sl .none e []] (.sl .none e []) := by
  refine ac_slices_Compact_api_Addr_api_Addr ?_ (Nat.le_add_left 1 _)
  simp only [go_sem, Nat.reduceAdd, Nat.reduceLT, Nat.reduceEqDiff, Nat.reduceBEq, Nat.reduceLeDiff, Nat.reduceSub, Int.reduceToNat, reduceCtorEq, ↓reduceIte, c_slices_Compact_api_Addr_api_Addr, List.length_nil, show (((0 : Nat) : Int) < 2) = True from by simp, decide_true]
  refine shiftX_refl ?_
  simp only [go_sem, Nat.reduceAdd, Nat.reduceLT, Nat.reduceEqDiff, Nat.reduceBEq, Nat.reduceLeDiff, Nat.reduceSub, Int.reduceToNat, reduceCtorEq, ↓reduceIte]

/-! ### What rises, each once -/
def rise (l : List Int) : List Int := dd (l.mergeSort (fun x y => decide (x ≤ y)))

theorem back_0 (s : List (Nat × AV)) (x y : List AV) : backC [(0, 100000)] [(100000, y)] (mkE s [(0, x)]) = mkE s [(0, y)] := by
  simp only [backC, mkE]
  congr 1
  funext c
  by_cases h2 : c = 0
  · subst h2; rfl
  · simp [lentAs, getC, h2]
theorem call0_of {P : Program} {dst : Option Nat} {os : List AOper} {s : List (Nat × AV)} {K : Env → Prop} {f : FuncId} {raw al : List AV} {args : Option (List AV)} {r : AV} {l : List Int} {tl y : List AV} (ht : Tl tl)
    (hl : mapO (lowerM [(0, 100000)] (getC [(0, l.map aI ++ tl)]) 8) raw = some al) (h : AM P f al [(100000, l.map aI ++ tl)] r [(100000, y)])
    (hk : awX false P os ((mkE s [(0, y)]).putO dst (retag (dst.getD 0) (unlend [(0, 100000)] r))) K) : callX false P dst os s [(0, l.map aI ++ tl)] K f raw args := by
  refine callM_of [(0, 100000)] rfl hl ?_ h ?_
  · show mapO _ _ = _
    have := close_dC l.toArray ht
    rw [show dC l.toArray tl = l.map aI ++ tl by simp [dC]] at this
    simp only [mapO_cons, mapO_nil, getC_cons, ↓reduceIte, this, catO_some]
  · rw [back_0]
    exact hk

theorem chunk_ints : ∀ (l : List Int), chunk false 1 l.length (l.map aI) = l.map aI
  | [] => rfl
  | a :: l => by
    simp only [List.length_cons, List.map_cons, chunk, List.take_succ_cons, List.take_zero, List.headD_cons, List.drop_succ_cons, List.drop_zero, chunk_ints l]
theorem cells_ints : ∀ (l : List Int), (l.map aI).flatMap cellsOf = l.map aI
  | [] => rfl
  | a :: l => by
    simp only [List.map_cons, List.flatMap_cons, cells_ints l]
    rfl

theorem C_rising0 (t : Tok) (e : Nat) : AC Try.prog f_filt_rising [.sl t e []] (.sl .none 1 []) := by
  refine ac_filt_rising ?_ (Nat.le_add_left 1 _)
  simp only [go_sem, Nat.reduceAdd, Nat.reduceLT, Nat.reduceEqDiff, Nat.reduceBEq, Nat.reduceLeDiff, Nat.reduceSub, Int.reduceToNat, reduceCtorEq, ↓reduceIte, c_filt_rising]
  refine callX_of (C_Clone0 _ _) ?_
  simp only [go_sem, Nat.reduceAdd, Nat.reduceLT, Nat.reduceEqDiff, Nat.reduceBEq, Nat.reduceLeDiff, Nat.reduceSub, Int.reduceToNat, reduceCtorEq, ↓reduceIte]
  refine shiftX_refl ?_
  simp only [go_sem, Nat.reduceAdd, Nat.reduceLT, Nat.reduceEqDiff, Nat.reduceBEq, Nat.reduceLeDiff, Nat.reduceSub, Int.reduceToNat, reduceCtorEq, ↓reduceIte]
  refine callX_of (C_Sort0 _ _) ?_
  simp only [go_sem, Nat.reduceAdd, Nat.reduceLT, Nat.reduceEqDiff, Nat.reduceBEq, Nat.reduceLeDiff, Nat.reduceSub, Int.reduceToNat, reduceCtorEq, ↓reduceIte]
  refine callX_of (C_Compact0 _) ?_
  simp only [go_sem, Nat.reduceAdd, Nat.reduceLT, Nat.reduceEqDiff, Nat.reduceBEq, Nat.reduceLeDiff, Nat.reduceSub, Int.reduceToNat, reduceCtorEq, ↓reduceIte]

theorem C_rising (l : List Int) (h0 : l ≠ []) (hl : l.length ≤ 255) : AC Try.prog f_filt_rising [.sl .none 1 (l.map aI)] (.sl .none 1 ((rise l).map aI)) := by
  refine ac_filt_rising ?_ (Nat.le_add_left 1 _)
  simp only [go_sem, Nat.reduceAdd, Nat.reduceLT, Nat.reduceEqDiff, Nat.reduceBEq, Nat.reduceLeDiff, Nat.reduceSub, Int.reduceToNat, reduceCtorEq, ↓reduceIte, c_filt_rising]
  refine callX_of (C_Clone (l.map aI) (by simpa using h0) (by simp; omega)) ?_
  simp only [go_sem, Nat.reduceAdd, Nat.reduceLT, Nat.reduceEqDiff, Nat.reduceBEq, Nat.reduceLeDiff, Nat.reduceSub, Int.reduceToNat, reduceCtorEq, ↓reduceIte]
  refine shiftX_of (VS.adopt (p := .slot 0) (g := false) 0 rfl (by simpa using h0) (fun r hr => ?_) (by decide) rfl) ?_
  · obtain ⟨n, _, rfl⟩ := List.mem_map.1 hr
    rfl
  · rintro _ ⟨cap, j, hcap, rfl⟩
    rw [cells_ints]
    simp only [List.length_map] at hcap ⊢
    simp only [Env.set]
    simp only [mkE_strip, mkE_put, mkE_putc]
    have ht : Tl (List.replicate j .dead) := fun x hx => .inl (List.eq_of_mem_replicate hx)
    generalize List.replicate j AV.dead = tl at ht ⊢
    have hS := C_SortL (cap := cap) ht hl
    have hm : (l.mergeSort (fun x y => decide (x ≤ y))).length = l.length := List.length_mergeSort _
    have hC := C_Compact (d := (l.mergeSort (fun x y => decide (x ≤ y))).toArray) (cap := cap) ht (by simp [hm]; omega) (by simp [hm]; omega)
    rw [show dC (l.mergeSort (fun x y => decide (x ≤ y))).toArray tl = (l.mergeSort (fun x y => decide (x ≤ y))).map aI ++ tl by simp [dC]] at hC
    simp only [List.size_toArray, hm] at hC
    rw [show dd (l.mergeSort (fun x y => decide (x ≤ y))) = rise l from rfl] at hC
    generalize l.mergeSort (fun x y => decide (x ≤ y)) = l' at hS hC
    have hle : (rise l).length ≤ l.length := by
      have := dd_len (l.mergeSort (fun x y => decide (x ≤ y)))
      rw [List.length_mergeSort] at this
      exact this
    generalize rise l = r at hC hle ⊢
    simp only [go_sem, Nat.reduceAdd, Nat.reduceLT, Nat.reduceEqDiff, Nat.reduceBEq, Nat.reduceLeDiff, Nat.reduceSub, Int.reduceToNat, reduceCtorEq, ↓reduceIte]
    refine call0_of ht rfl hS ?_
    simp only [go_sem, Nat.reduceAdd, Nat.reduceLT, Nat.reduceEqDiff, Nat.reduceBEq, Nat.reduceLeDiff, Nat.reduceSub, Int.reduceToNat, reduceCtorEq, ↓reduceIte]
    refine call0_of ht rfl hC ?_
    simp only [go_sem, Nat.reduceAdd, Nat.reduceLT, Nat.reduceEqDiff, Nat.reduceBEq, Nat.reduceLeDiff, Nat.reduceSub, Int.reduceToNat, reduceCtorEq, ↓reduceIte]
    have hret : ∀ C, retM C 7 0 r.length cap false 1 (some (r.map aI ++ (List.replicate (l.length - r.length) (aI 0) ++ tl))) = some (.sl .none 1 (r.map aI)) := by
      intro C
      rw [retM_some (l := r.map aI) 0 r.length cap false 1 _ (show 0 + r.length * 1 ≤ (r.map aI ++ (List.replicate (l.length - r.length) (aI 0) ++ tl)).length ∧ r.length ≤ cap ∧ (false = true ∨ (1 : Nat) = 1) from ⟨by simp, by omega, .inr rfl⟩) ?_, chunk_ints]
      rw [List.drop_zero, Nat.mul_one, List.take_append_of_le_length (by simp), List.take_of_length_le (by simp)]
      refine mapO_id fun x hx => ?_
      obtain ⟨n, _, rfl⟩ := List.mem_map.1 hx
      rfl
    simp only [hret]
    rfl

end Go.Proofs.Ytmjmfollimaleaa.VL
