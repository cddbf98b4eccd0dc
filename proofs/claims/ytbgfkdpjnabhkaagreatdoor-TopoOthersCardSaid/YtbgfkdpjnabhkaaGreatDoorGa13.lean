import Derived.Test.YtbgfkdpjnabhkaaGreatDoorGa12
set_option linter.unusedVariables false
set_option linter.unusedSimpArgs false
section
set_option maxHeartbeats 4000000
namespace Go.Proofs.YtbgfkdpjnabhkaaGreatDoor.VL
open Go.RowKit Go.Proofs Go.Sort
theorem C_IndexFuncAddr {f : FuncId} {fst caps : List AV} {asf : Nat → List AV} {p : Nat → Bool} (t : Tok) (e : Nat) (l : List Nat) (hf : frB t = false) (he : e = 1 ∨ l = []) (hl : l.length < 9223372036854775808)
    (hlow : ∀ n, mapO (lower (getC []) 8) (fst ++ [(avU n)] ++ caps) = some (asf n)) (hAC : ∀ n ∈ l, AC Tryz.prog f (asf n) (.lit (.bool (p n)))) :
    AC Tryz.prog f_q123 [.sl t e (l.map avU), .clo (.func f) fst caps] (.lit (.int .i64 (idxOf p l))) := by
  refine ac_q123 ?_ (Nat.le_add_left 2 17)
  simp only [go_sem, c_q123]
  refine aw_loop (fun m E => ∃ k, k + m = l.length ∧ (∀ (j : Nat) (y : Nat), j < k → l[j]? = some y → p y = false) ∧ E = mkE [(0, .sl t e (l.map avU)), (1, .clo (.func f) fst caps), (7, .lit (.int .i64 l.length)), (8, .lit (.int .i64 (k : Nat)))] []) l.length ?_ ?_
  · exact ⟨0, by omega, fun j y hj => absurd hj (Nat.not_lt_zero j), by simp only [go_sem, Int.ofNat_zero]⟩
  · rintro m _ ⟨k, hk, hall, rfl⟩
    simp only [go_sem]
    refine condX_of (fun h => ?_) (fun h => ?_)
    · have hkl : k < l.length := by simpa using h
      obtain rfl : e = 1 := he.resolve_right (fun h => by rw [h] at hkl; simp at hkl)
      obtain ⟨x, hx⟩ : ∃ x, l[k]? = some x := ⟨l[k], List.getElem?_eq_getElem hkl⟩
      have hw := wrap_succ k (by omega)
      have hlx := hlow x
      simp only [avU, avStr, avU] at hlx
      simp only [go_sem, h, hx, Int.toNat_natCast, Int.natCast_nonneg, List.getElem?_map, avRow_some, hf, avU, avStr, avU, hlx]
      refine callX_of (hAC x (List.mem_of_getElem? hx)) ?_
      cases hp : p x
      · simp only [go_sem, hw]
        refine ⟨m - 1, by omega, k + 1, by omega, fun j y hj hy => ?_, rfl⟩
        by_cases hjk : j = k
        · subst hjk
          rw [hx] at hy
          injection hy with hy
          rw [← hy]
          exact hp
        · exact hall j y (by omega) hy
      · simp only [go_sem, idxOf_some hx hp hall]
    · have hkl : k = l.length := by have : ¬ k < l.length := by simpa using h
                                    omega
      have e : idxOf p l = -1 := idxOf_none fun i x hi => hall i x (by have := (List.getElem?_eq_some_iff.1 hi).1; omega) hi
      simp only [go_sem, h, e]
theorem C_member_1 (y : Nat) (hy : y < 4294967296) : AC Tryz.prog f_q142 [avU y] (.lit (.bool (!hostN y))) := by
  refine ac_q142 ?_ (Nat.le_add_left 1 _)
  simp only [go_sem, c_q142, avU]
  refine callX_of (C_host y hy) ?_
  simp only [go_sem]
theorem C_has_member_1 (t : Tok) (e : Nat) (l : List Nat) (ht : lowTok t = t) (hf : frB t = false) (he : e = 1 ∨ l = []) (hl : l.length < 9223372036854775808) (hx : ∀ y ∈ l, y < 4294967296) :
    AC Tryz.prog f_q81 [.sl t e (l.map avU), .clo (.func f_q142) [] []] (.lit (.bool (l.any fun y => !hostN y))) := by
  refine ac_q81 ?_ (Nat.le_add_left 2 _)
  simp only [go_sem, c_q81, avStr, ht]
  refine callX_of (C_IndexFuncAddr (asf := fun y => [avU y]) (p := fun y => !hostN y) t e l hf he hl (fun y => ?_) (fun y hy => C_member_1 y (hx y hy))) ?_
  · simp only [go_sem, avU, lower]
  · simp only [go_sem, any_idx]
theorem C_Values (t : Tok) (e : Nat) (rows : List AV) (ht : t = .none ∨ t = .nil) : AC Tryz.prog f_q144 [.sl t e rows] (.clo (.func f_q174) [] [.rp [.sl t e rows]]) := by
  refine ac_q144 ?_ (Nat.le_add_left 1 _)
  rcases ht with rfl | rfl <;> simp only [go_sem, c_q144] <;> rfl
theorem C_Collect (t : Tok) (e : Nat) (l : List Nat) (ht : t = .none ∨ l = []) (h0 : l ≠ []) (hl : l.length ≤ 4294967296) :
    AC Tryz.prog f_q173 [.clo (.func f_q174) [] [.rp [.sl t e (l.map avU)]]] (.sl (.fr [4, 0]) 1 (l.map avU)) := by
  refine ac_q173 ?_ (Nat.le_add_left 1 _)
  simp only [go_sem, c_q173]
  refine callX_of (C_AppendSeq t e l ht h0 hl) ?_
  simp only [go_sem]
theorem C_Collect0 (t : Tok) (e : Nat) : AC Tryz.prog f_q173 [.clo (.func f_q174) [] [.rp [.sl t e []]]] (.sl .none 1 []) := by
  refine ac_q173 ?_ (Nat.le_add_left 1 _)
  simp only [go_sem, c_q173]
  refine callX_of (C_AppendSeq0 t e) ?_
  simp only [go_sem]
def zs (l : List Nat) : List Int := l.map fun (n : Nat) => (n : Int)
theorem zs_av (l : List Nat) : (zs l).map aI = l.map avU := by
  unfold zs
  rw [List.map_map]
  exact List.map_congr_left fun n _ => rfl
def sorted (l : List Nat) : List Int := (zs l).mergeSort (fun x y => decide (x ≤ y))
theorem C_Sorted (t : Tok) (e : Nat) (l : List Nat) (ht : t = .none ∨ l = []) (hl : l.length ≤ 255) :
    AC Tryz.prog f_q143 [.clo (.func f_q174) [] [.rp [.sl t e (l.map avU)]]] (.sl .none 1 ((sorted l).map aI)) := by
  by_cases h0 : l = []
  · subst h0
    refine ac_q143 ?_ (Nat.le_add_left 1 _)
    simp only [go_sem, c_q143, List.map_nil]
    refine callX_of (C_Collect0 t e) ?_
    simp only [go_sem]
    refine shiftX_refl ?_
    simp only [go_sem]
    refine callX_of (C_Sort0 _ _) ?_
    simp only [go_sem]
    simp [sorted, zs]
  · refine ac_q143 ?_ (Nat.le_add_left 1 _)
    simp only [go_sem, c_q143]
    refine callX_of (C_Collect t e l ht h0 (by omega)) ?_
    rw [← zs_av]
    have hz0 : zs l ≠ [] := by simpa [zs] using h0
    have hzl : (zs l).length = l.length := by simp [zs]
    rw [← hzl] at hl
    unfold sorted
    generalize zs l = z at hz0 hl
    simp only [go_sem]
    refine shiftX_of (VS.adopt (p := .slot 3) (g := false) 0 rfl (by simpa using hz0) (fun r hr => ?_) (by decide) rfl) ?_
    · obtain ⟨n, _, rfl⟩ := List.mem_map.1 hr
      rfl
    · rintro _ ⟨cap, j, hcap, rfl⟩
      rw [cells_ints]
      simp only [List.length_map] at hcap ⊢
      simp only [Env.set]
      simp only [mkE_strip, mkE_put, mkE_putc]
      have ht : Tl (List.replicate j .dead) := fun x hx => .inl (List.eq_of_mem_replicate hx)
      generalize List.replicate j AV.dead = tl at ht ⊢
      have hS := C_SortL (cap := cap) ht hl
      have hm : (z.mergeSort (fun x y => decide (x ≤ y))).length = z.length := List.length_mergeSort _
      generalize z.mergeSort (fun x y => decide (x ≤ y)) = l' at hS hm ⊢
      simp only [go_sem]
      refine call0_of ht rfl hS ?_
      simp only [go_sem]
      have hret : ∀ C, retM C 7 0 z.length cap false 1 (some (l'.map aI ++ tl)) = some (.sl .none 1 (l'.map aI)) := by
        intro C
        rw [← hm, retM_some (l := l'.map aI) 0 l'.length cap false 1 _ (show 0 + l'.length * 1 ≤ (l'.map aI ++ tl).length ∧ l'.length ≤ cap ∧ (false = true ∨ (1 : Nat) = 1) from ⟨by simp, by omega, .inr rfl⟩) ?_, chunk_ints]
        rw [List.drop_zero, Nat.mul_one, List.take_append_of_le_length (by simp), List.take_of_length_le (by simp)]
        refine mapO_id fun x hx => ?_
        obtain ⟨n, _, rfl⟩ := List.mem_map.1 hx
        rfl
      simp only [hret]
      rfl
theorem sorted_len (l : List Nat) : (sorted l).length = l.length := by simp [sorted, zs, List.length_mergeSort]
theorem sorted_lt (l : List Nat) (h : l.Nodup) : (sorted l).Pairwise (· < ·) := by
  have hz : (zs l).Nodup := by
    unfold zs
    rw [List.nodup_iff_pairwise_ne, List.pairwise_map]
    exact (List.nodup_iff_pairwise_ne.1 h).imp fun h e => h (by omega)
  have hp := List.mergeSort_perm (zs l) (fun x y => decide (x ≤ y))
  have hn : (sorted l).Nodup := hp.nodup_iff.2 hz
  have hs : (sorted l).Pairwise (fun a b => decide (a ≤ b) = true) := List.pairwise_mergeSort (le := fun x y : Int => decide (x ≤ y)) (by simp; omega) (by simp; omega) (zs l)
  rw [List.nodup_iff_pairwise_ne] at hn
  exact (hs.and hn).imp fun ⟨h1, h2⟩ => by simp at h1; omega
theorem C_CompactN (l : List Int) (hl : l.length ≤ 255) (hs : l.Pairwise (· < ·)) : AC Tryz.prog f_q53 [.sl .none 1 (l.map aI)] (.sl .none 1 (l.map aI)) := by
  refine ac_q53 ?_ (Nat.le_add_left 1 _)
  simp only [go_sem, c_q53, List.length_map]
  by_cases h2 : l.length < 2
  · have f1 : ((l.length : Int) < 2) = True := eq_true (by omega)
    simp only [go_sem, f1, decide_true]
    refine shiftX_refl ?_
    simp only [go_sem]
  have f1 : ((l.length : Int) < 2) = False := eq_false (by omega)
  simp only [go_sem, f1, decide_false]
  refine aw_loop (fun m E => ∃ i : Nat, 1 ≤ i ∧ i ≤ l.length ∧ l.length - i ≤ m ∧ E = mkE [(0, .sl .none 1 (l.map aI)), (3, iI i)] []) l.length ?_ ?_
  · exact ⟨1, Nat.le_refl _, by omega, by omega, by simp only [go_sem, Int.natCast_one]⟩
  · rintro m _ ⟨i, h1, hi, hm, rfl⟩
    by_cases hin : i < l.length
    · have f2 : ((i : Int) < (l.length : Int)) = True := eq_true (by omega)
      have w1 := iwn (i - 1) (by omega : (i : Int) - 1 = ((i - 1 : Nat) : Int)) (by omega)
      have w2 := iwn (i + 1) (by omega : (i : Int) + 1 = ((i + 1 : Nat) : Int)) (by omega)
      have g1 : l[i]? = some l[i] := List.getElem?_eq_getElem hin
      have g2 : l[i - 1]? = some l[i - 1] := List.getElem?_eq_getElem (by omega)
      have hlt : l[i - 1] < l[i] := List.pairwise_iff_getElem.1 hs (i - 1) i (by omega) hin (by omega)
      have f3 : (l[i] == l[i - 1]) = false := by simp; omega
      have hr := fun x => avRow_some 1 .none (AV.lit x) rfl
      simp only [go_sem, f2, decide_true, w1, List.length_map, List.getElem?_map, g1, g2, hr, aI, Option.map_some, Int.natCast_nonneg, Int.toNat_natCast, f3, w2]
      exact ⟨m - 1, by omega, i + 1, by omega, by omega, by omega, rfl⟩
    · have f2 : ((i : Int) < (l.length : Int)) = False := eq_false (by omega)
      simp only [go_sem, f2, decide_false, List.length_map]
theorem C_member (w : NW) (h : w.OK) (i : Nat) (x : NM) (hx : w.mbs[i]? = some x) (hv : mbOf w x ≠ some 1) :
    AC Tryz.prog f_q89 [.agg (netV w), .lit (.int .i64 (i : Nat))] (amiss (mbOf w x)) := by
  have hi : i < w.mbs.length := (List.getElem?_eq_some_iff.1 hx).1
  have hm : x ∈ w.mbs := List.mem_of_getElem? hx
  refine ac_q89 ?_ (Nat.le_add_left 2 _) (by unfold mbOf; split <;> (try split) <;> (try split) <;> (try split) <;> rfl)
  have gm : (0 ∈ GS) = True := eq_true (by simp [GS])
  simp only [go_sem, c_q89, netV, Int.toNat_natCast, Int.natCast_nonneg, List.getElem?_map, hx, rowAgg, avMb, avU, List.length_map]
  refine callX_of (C_place x.lk w.lks.length) ?_
  cases h2 : placeN x.lk w.lks.length
  · simp only [go_sem, h2, g_none, mbOf, amiss, Bool.not_false]
  simp only [go_sem, h2, Bool.not_true]
  refine callX_of (C_Group x.g (h.mbg x hm)) ?_
  cases h3 : groupN x.g
  · simp only [go_sem, h2, h3, g_kind, mbOf, amiss, Bool.not_false, Bool.true_or, Bool.true_eq_false]
  simp only [go_sem, h3, Bool.not_true]
  refine callX_of (C_has_member_1 .none 1 x.src rfl rfl (.inl rfl) (h.mbl x hm) (h.mbs x hm)) ?_
  cases h4 : x.src.any fun y => !hostN y
  case true => simp only [go_sem, h2, h3, h4, g_kind, mbOf, amiss, Bool.not_true, Bool.false_or, Bool.true_eq_false]
  simp only [go_sem, h4, List.length_map]
  by_cases h5 : 4 < x.src.length
  · have f5 : (4 < (x.src.length : Int)) = True := eq_true (by omega)
    simp only [go_sem, f5, gm, h2, h3, h4, h5, mbOf, amiss, decide_true, Bool.not_true, Bool.false_or, Bool.true_eq_false, Bool.false_eq_true]
  have f5 : (4 < (x.src.length : Int)) = False := eq_false (by omega)
  have hnd : x.src.Nodup := by
    apply Classical.byContradiction
    intro hn
    apply hv
    simp [mbOf, h2, h3, h5, hn]
    simpa using h4
  simp only [go_sem, f5, decide_false]
  refine callX_of (C_Values .none 1 (x.src.map avU) (.inl rfl)) ?_
  simp only [go_sem]
  refine callX_of (C_Sorted .none 1 x.src (.inl rfl) (by omega)) ?_
  simp only [go_sem]
  refine shiftX_refl ?_
  have hl := sorted_len x.src
  have f6 : ((x.src.length : Int) < (x.src.length : Int)) = False := eq_false (by omega)
  simp only [go_sem]
  refine callX_of (C_CompactN (sorted x.src) (by omega) (sorted_lt x.src hnd)) ?_
  simp only [go_sem, List.length_map, hl, f6, decide_false, h2, h3, h4, h5, hnd, mbOf, amiss, Bool.not_true, Bool.false_or, Bool.true_eq_false, Bool.false_eq_true, decide_true]
end Go.Proofs.YtbgfkdpjnabhkaaGreatDoor.VL
end

section
set_option maxHeartbeats 4000000
namespace Go.Proofs.YtbgfkdpjnabhkaaGreatDoor.VL
open Go.RowKit Go.Proofs
def fnN : Nat → FuncId
  | 0 => f_q83
  | 1 => f_q84
  | 2 => f_q85
  | 3 => f_q86
  | 4 => f_q87
  | 5 => f_q88
  | _ => f_q89
theorem W_at (w : NW) (h : w.OK) (k i : Nat) (hi : i < lenN w k) (hv : 6 ≤ k → vAt w k i ≠ some 1) : AC Tryz.prog (fnN k) [.agg (netV w), .lit (.int .i64 (i : Nat))] (amiss (vAt w k i)) := by
  match k, hi, hv with
  | 0, hi, _ =>
    have e := List.getElem?_eq_getElem (show i < w.rts.length from hi)
    have := W_router w h i _ e
    simpa only [vAt, fnN, e, Option.bind_some] using this
  | 1, hi, _ =>
    have e := List.getElem?_eq_getElem (show i < w.lks.length from hi)
    have := W_link w h i _ e
    simpa only [vAt, fnN, e, Option.bind_some] using this
  | 2, hi, _ =>
    have e := List.getElem?_eq_getElem (show i < w.pts.length from hi)
    have := W_port w h i _ e
    simpa only [vAt, fnN, e, Option.bind_some] using this
  | 3, hi, _ =>
    have e := List.getElem?_eq_getElem (show i < w.ros.length from hi)
    have := W_route w h i _ e
    simpa only [vAt, fnN, e, Option.bind_some] using this
  | 4, hi, _ =>
    have e := List.getElem?_eq_getElem (show i < w.rgs.length from hi)
    have := W_ranges w h i _ e
    simpa only [vAt, fnN, e, Option.bind_some] using this
  | 5, hi, _ =>
    have e := List.getElem?_eq_getElem (show i < w.scs.length from hi)
    have := W_source w h i _ e
    simpa only [vAt, fnN, e, Option.bind_some] using this
  | k + 6, hi, hv =>
    have e := List.getElem?_eq_getElem (show i < w.mbs.length from hi)
    have hv2 := hv (by omega)
    simp only [vAt, e, Option.bind_some] at hv2
    have := C_member w h i _ e hv2
    simpa only [vAt, fnN, e, Option.bind_some] using this
def rowK (w : NW) (k : Nat) : AV := .agg [.lit (.int .i64 (lenN w k : Nat)), .lit (.int .i64 (mostN k : Nat)), .clo (.func (fnN k)) [.agg (netV w)] []]
def rowsV (w : NW) : List AV := [rowK w 0, rowK w 1, rowK w 2, rowK w 3, rowK w 4, rowK w 5, rowK w 6]
theorem rowsV_get (w : NW) (k : Nat) (h : k < 7) : (rowsV w)[k]? = some (.agg [.lit (.int .i64 (lenN w k : Nat)), .lit (.int .i64 (mostN k : Nat)), .clo (.func (fnN k)) [.agg (netV w)] []]) := by
  match k, h with
  | 0, _ => rfl
  | 1, _ => rfl
  | 2, _ => rfl
  | 3, _ => rfl
  | 4, _ => rfl
  | 5, _ => rfl
  | 6, _ => rfl
  | k + 7, h => omega
theorem low_net (C : Nat → Option (List AV)) (n : Nat) (w : NW) : mapO (lower C (n + 1)) (netV w) = some (netV w) := by
  simp only [netV, mapO_cons, mapO_nil, lower_sl, lowTok_none, catO_some]
theorem lenN_lt (w : NW) (h : w.OK) (k : Nat) : lenN w k < 9223372036854775808 := by
  unfold lenN
  split
  · exact h.l1
  · exact h.l2
  · exact h.l3
  · exact h.l4
  · exact h.l5
  · exact h.l6
  · exact h.l7
theorem scanK_hit (w : NW) (k n g : Nat) (h : vList w k 0 = some g) : scanK w (n + 1) k = some g := by simp only [scanK, h]
theorem scanK_go (w : NW) (k n : Nat) (h : vList w k 0 = none) : scanK w (n + 1) k = scanK w n (k + 1) := by simp only [scanK, h]
theorem C_cValid (w : NW) (h : w.OK) (hv : ∀ i, i < w.mbs.length → vAt w 6 i ≠ some 1) : AC Tryz.prog f_q50 [.agg (netV w)] (amiss (vNet w)) := by
  refine ac_q50 ?_ (Nat.le_add_left 1 _) (by cases vNet w <;> rfl)
  have gm : (0 ∈ GS) = True := eq_true (by simp [GS])
  simp only [go_sem, c_q50, netV, List.length_map]
  refine aw_loop (fun m E => ∃ k : Nat, k + m = 7 ∧ scanK w m k = vNet w ∧ E = mkE [(52, .sl (.own [52]) 3 (rowsV w)), (53, .lit (.int .i64 7)), (54, .lit (.int .i64 (k : Nat)))] [(1, netV w), (3, netV w)]) 7 ?_ ?_
  · exact ⟨0, rfl, rfl, by simp only [go_sem]; rfl⟩
  · rintro m _ ⟨k, hk, hs, rfl⟩
    by_cases hk7 : k < 7
    · have f1 : ((k : Int) < 7) = True := eq_true (by omega)
      have hw := wrap_succ k (by omega)
      obtain ⟨m, rfl⟩ : ∃ m', m = m' + 1 := ⟨m - 1, by omega⟩
      have hr := fun cs => avRow_some 3 (.own [52]) (AV.agg cs) rfl
      have hlen := lenN_lt w h k
      simp only [go_sem, f1, decide_true, rowsV_get w k hk7, hr, Int.toNat_natCast, Int.natCast_nonneg]
      refine aw_loop (fun q E => ∃ i : Nat, i + q = lenN w k ∧ vList w k i = vList w k 0 ∧ E = mkE [(5, .lp 5 0), (52, .sl (.own [52]) 3 (rowsV w)), (53, .lit (.int .i64 7)), (54, .lit (.int .i64 (k : Nat))), (59, .lit (.int .i64 (lenN w k : Nat))), (60, .lit (.int .i64 (i : Nat)))] [(1, netV w), (3, netV w), (5, [.lit (.int .i64 (lenN w k : Nat)), .lit (.int .i64 (mostN k : Nat)), .clo (.func (fnN k)) [.agg (netV w)] []])]) (lenN w k) ?_ ?_
      · exact ⟨0, by omega, rfl, by simp only [go_sem, Int.natCast_zero]⟩
      · rintro q _ ⟨i, hi, hvi, rfl⟩
        by_cases hil : i < lenN w k
        · have f2 : ((i : Int) < (lenN w k : Int)) = True := eq_true (by omega)
          have hw2 := wrap_succ i (by omega)
          by_cases hm : mostN k ≤ i
          · have f3 : ((mostN k : Int) ≤ (i : Int)) = True := eq_true (by omega)
            have e : vNet w = some 0 := by rw [← hs]; exact scanK_hit w k m _ (by rw [← hvi]; exact vList_many w k i hil hm)
            simp only [go_sem, f2, f3, decide_true, gm, e, amiss]
          · have f3 : ((mostN k : Int) ≤ (i : Int)) = False := eq_false (by omega)
            simp only [go_sem, f2, f3, decide_true, decide_false, low_net]
            refine callX_of (W_at w h k i hil (fun h6 => ?_)) ?_
            · obtain rfl : k = 6 := by omega
              exact hv i hil
            cases hva : vAt w k i with
            | some g =>
              have e : vNet w = some g := by rw [← hs]; exact scanK_hit w k m _ (by rw [← hvi]; exact vList_some w k i g hil (by omega) hva)
              simp only [go_sem, amiss, e]
            | none =>
              simp only [go_sem, amiss, hw2]
              exact ⟨q - 1, by omega, i + 1, by omega, by rw [← hvi]; exact (vList_none w k i hil (by omega) hva).symm, rfl⟩
        · have f2 : ((i : Int) < (lenN w k : Int)) = False := eq_false (by omega)
          simp only [go_sem, f2, decide_false, hw]
          exact ⟨m, by omega, k + 1, by omega, by rw [← hs]; exact (scanK_go w k m (by rw [← hvi]; exact vList_end w k i (by omega))).symm, rfl⟩
    · have f1 : ((k : Int) < 7) = False := eq_false (by omega)
      obtain rfl : m = 0 := by omega
      rw [← hs]
      simp only [go_sem, f1, decide_false, scanK, amiss]
end Go.Proofs.YtbgfkdpjnabhkaaGreatDoor.VL
end

section
set_option maxHeartbeats 4000000
namespace Go.Proofs.YtbgfkdpjnabhkaaGreatDoor.VL
open Go.RowKit Go.Proofs
theorem or_tab : ((List.range 32).all fun k => decide (mskN k ||| 2 ^ (31 - k) = mskN (k + 1))) = true := by decide +kernel
theorem or_row (k : Nat) (h : k < 32) : mskN k ||| 2 ^ (31 - k) = mskN (k + 1) := by
  have := or_tab
  simp only [List.all_eq_true, List.mem_range, decide_eq_true_eq] at this
  exact this k h
theorem nat_mod32 (y : Nat) (h : y < 4294967296) : (y : Int) % 4294967296 = (y : Int) := by omega
theorem C_rMask (b : Int) : AC Tryz.prog f_q103 [.lit (.int .i64 b)] (avU (mskN (cl32 b))) := by
  refine ac_q103 ?_ (Nat.le_add_left 1 _)
  simp only [go_sem, c_q103]
  refine aw_loop (fun m E => ∃ k : Nat, k + m = 32 ∧ k ≤ cl32 b ∧ E = mkE [(0, .lit (.int .i64 b)), (3, avU (mskN k)), (4, .lit (.int .i64 (k : Nat)))] []) 32 ?_ ?_
  · exact ⟨0, by omega, by omega, by simp only [go_sem]; rfl⟩
  · rintro m _ ⟨k, hk, hkb, rfl⟩
    have hc := cl32_le b
    by_cases h1 : (k : Int) < b
    · have e1 : ((k : Int) < b) = True := eq_true h1
      by_cases h2 : k < 32
      · have e2 : ((k : Int) < 32) = True := eq_true (by omega)
        have w1 : IntKind.i64.wrap (31 - (k : Int)) = 31 - (k : Int) := by rw [IntKind.wrap_i64]; omega
        have w2 : IntKind.u64.wrap (31 - (k : Int)) = 31 - (k : Int) := by
          have : IntKind.u64.wrap (31 - (k : Int)) = (31 - (k : Int)) % 18446744073709551616 := by simp [IntKind.wrap, IntKind.bits, IntKind.signed]
          rw [this]
          omega
        have b4 := avBin_shl 32 .u32 .u64 1 (31 - (k : Int)) (by omega) (by simp [IntKind.bits]; omega)
        have b5 : IntKind.u32.wrap (1 * 2 ^ (31 - (k : Int)).toNat) = ((2 ^ (31 - k) : Nat) : Int) := by
          have e : (31 - (k : Int)).toNat = 31 - k := by omega
          have hp2 : 2 ^ (31 - k) ≤ 2 ^ 31 := Nat.pow_le_pow_right (by decide) (by omega)
          have e2 : (1 * 2 ^ (31 - k) : Int) = ((2 ^ (31 - k) : Nat) : Int) := by simp
          rw [e, e2, IntKind.wrap_u32]
          exact nat_mod32 _ (Nat.lt_of_le_of_lt hp2 (by decide))
        have b6 : bits .or .u32 (mskN k : Nat) ((2 ^ (31 - k) : Nat) : Int) = ((mskN (k + 1) : Nat) : Int) := by
          have hp2 : 2 ^ (31 - k) ≤ 2 ^ 31 := Nat.pow_le_pow_right (by decide) (by omega)
          rw [u32_or_nat _ _ (mskN_lt _) (Nat.lt_of_le_of_lt hp2 (by decide)), or_row k h2]
        have w3 := wrap_succ k (by omega)
        simp only [go_sem, avU, e1, e2, decide_true, w1, w2, b4, b5, b6, w3]
        refine ⟨m - 1, by omega, k + 1, by omega, ?_, rfl⟩
        unfold cl32
        split <;> (try split) <;> omega
      · have e2 : ((k : Int) < 32) = False := eq_false (by omega)
        have e3 : k = cl32 b := by omega
        simp only [go_sem, avU, e1, e2, decide_true, decide_false]
        rw [e3]
    · have e1 : ((k : Int) < b) = False := eq_false h1
      have e3 : k = cl32 b := by
        by_cases p1 : b < 0
        · have e : cl32 b = 0 := if_pos p1
          omega
        · by_cases p2 : 32 < b
          · have e : cl32 b = 32 := by unfold cl32; rw [if_neg p1, if_pos p2]
            omega
          · have e : cl32 b = b.toNat := by unfold cl32; rw [if_neg p1, if_neg p2]
            omega
      simp only [go_sem, avU, e1, decide_false]
      rw [e3]
theorem C_rValid (a : Nat) (b : Int) (ha : a < 4294967296) : AC Tryz.prog f_q102 [avPfx a b] (.lit (.bool (validN a b))) := by
  refine ac_q102 ?_ (Nat.le_add_left 1 19)
  by_cases h0 : 0 ≤ b
  · by_cases h1 : b ≤ 32
    · have e0 : decide (0 ≤ b) = true := by simpa using h0
      have e1 : decide (b ≤ 32) = true := by simpa using h1
      simp only [go_sem, c_q102, avPfx, avU, e0, e1]
      refine callX_of (C_rMask b) ?_
      simp only [go_sem, c_q102, avU, e0, e1, u32_nmsk a _ ha]
      rw [cl32_eq b h0 h1, nat_beq0]
      simp [validN, e0, e1]
    · have e0 : decide (0 ≤ b) = true := by simpa using h0
      have e1 : decide (b ≤ 32) = false := by simpa using h1
      simp only [go_sem, c_q102, avPfx, avU, e0, e1]
      simp [validN, e0, e1]
  · have e0 : decide (0 ≤ b) = false := by simpa using h0
    simp only [go_sem, c_q102, avPfx, avU, e0]
    simp [validN, e0]
theorem C_rIn (p : Nat) (b : Int) (x : Nat) (hp : p < 4294967296) (hx : x < 4294967296) : AC Tryz.prog f_q57 [avPfx p b, avU x] (.lit (.bool (inN p b x))) := by
  refine ac_q57 ?_ (Nat.le_add_left 2 15)
  cases hv : validN p b with
  | false =>
    simp only [go_sem, c_q57, avPfx, avU]
    refine callX_of (C_rValid p b hp) ?_
    simp only [go_sem, hv]
    simp [inN, hv]
  | true =>
    obtain ⟨h0, h1⟩ := validN_bounds hv
    simp only [go_sem, c_q57, avPfx, avU]
    refine callX_of (C_rValid p b hp) ?_
    simp only [go_sem, hv]
    refine callX_of (C_rMask b) ?_
    simp only [go_sem, avU, u32_msk x _ hx]
    rw [cl32_eq b h0 h1, nat_beq]
    simp [inN, hv]
theorem C_rWithin (p : Nat) (b : Int) (q : Nat) (c : Int) (hp : p < 4294967296) (hq : q < 4294967296) : AC Tryz.prog f_q157 [avPfx p b, avPfx q c] (.lit (.bool (withinN p b q c))) := by
  refine ac_q157 ?_ (Nat.le_add_left 2 18)
  cases hv : validN p b with
  | false =>
    simp only [go_sem, c_q157, avPfx, avU]
    refine callX_of (C_rValid p b hp) ?_
    simp only [go_sem, hv]
    simp [withinN, hv]
  | true =>
    cases hc : decide (c ≤ b) with
    | false =>
      simp only [go_sem, c_q157, avPfx, avU]
      refine callX_of (C_rValid p b hp) ?_
      simp only [go_sem, hv, hc]
      simp [withinN, hv, hc]
    | true =>
      simp only [go_sem, c_q157, avPfx, avU]
      refine callX_of (C_rValid p b hp) ?_
      simp only [go_sem, hv, hc]
      refine callX_of (C_rIn q c p hq hp) ?_
      simp only [go_sem, hv, hc]
      simp [withinN, hv, hc]
theorem C_rGroup (a : Nat) (ha : a < 4294967296) : AC Tryz.prog f_q159 [avU a] (.lit (.bool (groupN a))) := by
  refine ac_q159 ?_ (Nat.le_add_left 1 _)
  have e := avBin_shr 32 .u32 .u64 (a : Int) 28 (by decide) (by decide)
  have e2 : (((a : Int) / 2 ^ 28) == 14) = groupN a := by
    rw [show (2 : Int) ^ 28 = 268435456 from rfl, Bool.eq_iff_iff]
    simp only [beq_iff_eq, groupN, Bool.and_eq_true, decide_eq_true_eq]
    omega
  simp only [go_sem, c_q159, avU, e]
  rw [← e2]
end Go.Proofs.YtbgfkdpjnabhkaaGreatDoor.VL
end

section
set_option maxHeartbeats 4000000
namespace Go.Proofs.YtbgfkdpjnabhkaaGreatDoor.VL
open Go.RowKit Go.Proofs
def nmCode (ok : Bool) : Int := if ok = true then 0 else 109
def fstOK (l : List UInt8) : Bool := decide (1 ≤ l.length) && (decide (l.length ≤ 12) && hd0 l[0]?)
theorem nameOK_fst (l : List UInt8) : nameOK l = (fstOK l && l.all fun b => signN b.toNat) := by
  simp only [nameOK, fstOK, Bool.and_assoc]
theorem C_r5Name (s : ByteArray) (hs : s.size < 9223372036854775808) : AC Tryz.prog f_q156 [avStr s] (.lit (.int .i64 (nmCode (nameOK s.data.toList)))) := by
  refine ac_q156 ?_ (Nat.le_add_left 1 _)
  have hsz : s.size = s.data.toList.length := Lib.size_eq s
  simp only [go_sem, c_q156, avStr]
  generalize hL : s.data.toList = l at hsz
  have hf := nameOK_fst l
  by_cases h1 : 1 ≤ l.length
  · have e1 : ((1 : Int) ≤ (s.size : Int)) = True := eq_true (by omega)
    obtain ⟨b0, hb0⟩ : ∃ b, l[0]? = some b := ⟨l[0], List.getElem?_eq_getElem (by omega)⟩
    have i0 := avIxs_l s .i64 0 b0 (by rw [hL]; exact hb0)
    rw [show ((0 : Nat) : Int) = 0 from rfl] at i0
    have d1 : decide (1 ≤ l.length) = true := by simpa using h1
    by_cases h2 : l.length ≤ 12
    · have e2 : ((s.size : Int) ≤ 12) = True := eq_true (by omega)
      have d2 : decide (l.length ≤ 12) = true := by simpa using h2
      by_cases hA : 97 ≤ b0.toNat
      · have gA : ((97 : Int) ≤ ((b0.toNat : Nat) : Int)) = True := eq_true (by omega)
        by_cases hB : b0.toNat ≤ 122
        · have gB : (((b0.toNat : Nat) : Int) ≤ 122) = True := eq_true (by omega)
          have eF : fstOK l = true := by simp only [fstOK, d1, d2, hb0, hd0, letterN, hA, hB, decide_true, Bool.and_self]
          simp only [go_sem, e1, e2, i0, gA, gB, decide_true, decide_false]
          refine aw_loop (fun m E => ∃ (k : Nat) (ok : Bool), k + m = l.length ∧ ok = (fstOK l && (l.take k).all fun b => signN b.toNat) ∧ E = mkE [(0, .lit (.string s)), (3, .lit (.bool ok)), (4, .lit (.int .i64 (k : Nat)))] []) l.length ?_ ?_
          · exact ⟨0, _, by omega, rfl, by simp only [go_sem, eF, List.take_zero, List.all_nil, Bool.and_true]; rfl⟩
          · rintro m _ ⟨k, ok, hk, hok, rfl⟩
            by_cases hkl : k < l.length
            · have f1 : ((k : Int) < (s.size : Int)) = True := eq_true (by omega)
              obtain ⟨b, hb⟩ : ∃ b, l[k]? = some b := ⟨l[k], List.getElem?_eq_getElem hkl⟩
              have ib := avIxs_l s .i64 k b (by rw [hL]; exact hb)
              have w1 := wrap_succ k (by omega)
              have hstep : (fstOK l && (l.take (k + 1)).all fun b => signN b.toNat) = (ok && signN b.toNat) := by
                rw [List.take_add_one, hb, List.all_append, hok, Bool.and_assoc]
                simp
              cases ok with
              | false =>
                simp only [go_sem, f1, decide_true, ib, w1]
                exact ⟨m - 1, by omega, k + 1, false, by omega, by rw [hstep]; rfl, rfl⟩
              | true =>
                have done : ∀ t : Bool, signN b.toNat = t → t = (fstOK l && (l.take (k + 1)).all fun b => signN b.toNat) := fun t ht => by rw [hstep, ht]; rfl
                by_cases hA : 97 ≤ b.toNat
                · have gA : ((97 : Int) ≤ ((b.toNat : Nat) : Int)) = True := eq_true (by omega)
                  by_cases hB : b.toNat ≤ 122
                  · have gB : (((b.toNat : Nat) : Int) ≤ 122) = True := eq_true (by omega)
                    simp only [go_sem, f1, decide_true, ib, w1, gA, gB]
                    exact ⟨m - 1, by omega, k + 1, true, by omega, done true (by simp [signN, letterN, hA, hB]), rfl⟩
                  · have gB : (((b.toNat : Nat) : Int) ≤ 122) = False := eq_false (by omega)
                    have g48 : ((48 : Int) ≤ ((b.toNat : Nat) : Int)) = True := eq_true (by omega)
                    have g57 : (((b.toNat : Nat) : Int) ≤ 57) = False := eq_false (by omega)
                    have g45 : (((b.toNat : Nat) : Int) == 45) = false := by simp only [beq_eq_false_iff_ne, ne_eq]; omega
                    simp only [go_sem, f1, decide_true, decide_false, ib, w1, gA, gB, g48, g57, g45]
                    exact ⟨m - 1, by omega, k + 1, false, by omega, done false (by simp [signN, letterN]; omega), rfl⟩
                · have gA : ((97 : Int) ≤ ((b.toNat : Nat) : Int)) = False := eq_false (by omega)
                  by_cases h48 : 48 ≤ b.toNat
                  · have g48 : ((48 : Int) ≤ ((b.toNat : Nat) : Int)) = True := eq_true (by omega)
                    by_cases h57 : b.toNat ≤ 57
                    · have g57 : (((b.toNat : Nat) : Int) ≤ 57) = True := eq_true (by omega)
                      simp only [go_sem, f1, decide_true, decide_false, ib, w1, gA, g48, g57]
                      exact ⟨m - 1, by omega, k + 1, true, by omega, done true (by simp [signN, h48, h57]), rfl⟩
                    · have g57 : (((b.toNat : Nat) : Int) ≤ 57) = False := eq_false (by omega)
                      have g45 : (((b.toNat : Nat) : Int) == 45) = false := by simp only [beq_eq_false_iff_ne, ne_eq]; omega
                      simp only [go_sem, f1, decide_true, decide_false, ib, w1, gA, g48, g57, g45]
                      exact ⟨m - 1, by omega, k + 1, false, by omega, done false (by simp [signN, letterN]; omega), rfl⟩
                  · have g48 : ((48 : Int) ≤ ((b.toNat : Nat) : Int)) = False := eq_false (by omega)
                    by_cases h45 : b.toNat = 45
                    · have g45 : (((b.toNat : Nat) : Int) == 45) = true := by rw [h45]; rfl
                      simp only [go_sem, f1, decide_true, decide_false, ib, w1, gA, g48, g45]
                      exact ⟨m - 1, by omega, k + 1, true, by omega, done true (by simp [signN, h45]), rfl⟩
                    · have g45 : (((b.toNat : Nat) : Int) == 45) = false := by simp only [beq_eq_false_iff_ne, ne_eq]; omega
                      simp only [go_sem, f1, decide_true, decide_false, ib, w1, gA, g48, g45]
                      exact ⟨m - 1, by omega, k + 1, false, by omega, done false (by simp [signN, letterN]; omega), rfl⟩
            · have f1 : ((k : Int) < (s.size : Int)) = False := eq_false (by omega)
              rw [List.take_of_length_le (by omega), ← hf] at hok
              rw [← hok]
              cases ok
              · simp only [go_sem, f1, decide_false, nmCode, Bool.false_eq_true]
              · simp only [go_sem, f1, decide_false, nmCode]
        · have gB : (((b0.toNat : Nat) : Int) ≤ 122) = False := eq_false (by omega)
          have eF : fstOK l = false := by simp [fstOK, hb0, hd0, letterN, hB]
          simp only [go_sem, e1, e2, i0, gA, gB, decide_true, decide_false]
          refine aw_loop (fun m E => ∃ (k : Nat) (ok : Bool), k + m = l.length ∧ ok = (fstOK l && (l.take k).all fun b => signN b.toNat) ∧ E = mkE [(0, .lit (.string s)), (3, .lit (.bool ok)), (4, .lit (.int .i64 (k : Nat)))] []) l.length ?_ ?_
          · exact ⟨0, _, by omega, rfl, by simp only [go_sem, eF, List.take_zero, List.all_nil, Bool.and_true]; rfl⟩
          · rintro m _ ⟨k, ok, hk, hok, rfl⟩
            by_cases hkl : k < l.length
            · have f1 : ((k : Int) < (s.size : Int)) = True := eq_true (by omega)
              obtain ⟨b, hb⟩ : ∃ b, l[k]? = some b := ⟨l[k], List.getElem?_eq_getElem hkl⟩
              have ib := avIxs_l s .i64 k b (by rw [hL]; exact hb)
              have w1 := wrap_succ k (by omega)
              have hstep : (fstOK l && (l.take (k + 1)).all fun b => signN b.toNat) = (ok && signN b.toNat) := by
                rw [List.take_add_one, hb, List.all_append, hok, Bool.and_assoc]
                simp
              cases ok with
              | false =>
                simp only [go_sem, f1, decide_true, ib, w1]
                exact ⟨m - 1, by omega, k + 1, false, by omega, by rw [hstep]; rfl, rfl⟩
              | true =>
                have done : ∀ t : Bool, signN b.toNat = t → t = (fstOK l && (l.take (k + 1)).all fun b => signN b.toNat) := fun t ht => by rw [hstep, ht]; rfl
                by_cases hA : 97 ≤ b.toNat
                · have gA : ((97 : Int) ≤ ((b.toNat : Nat) : Int)) = True := eq_true (by omega)
                  by_cases hB : b.toNat ≤ 122
                  · have gB : (((b.toNat : Nat) : Int) ≤ 122) = True := eq_true (by omega)
                    simp only [go_sem, f1, decide_true, ib, w1, gA, gB]
                    exact ⟨m - 1, by omega, k + 1, true, by omega, done true (by simp [signN, letterN, hA, hB]), rfl⟩
                  · have gB : (((b.toNat : Nat) : Int) ≤ 122) = False := eq_false (by omega)
                    have g48 : ((48 : Int) ≤ ((b.toNat : Nat) : Int)) = True := eq_true (by omega)
                    have g57 : (((b.toNat : Nat) : Int) ≤ 57) = False := eq_false (by omega)
                    have g45 : (((b.toNat : Nat) : Int) == 45) = false := by simp only [beq_eq_false_iff_ne, ne_eq]; omega
                    simp only [go_sem, f1, decide_true, decide_false, ib, w1, gA, gB, g48, g57, g45]
                    exact ⟨m - 1, by omega, k + 1, false, by omega, done false (by simp [signN, letterN]; omega), rfl⟩
                · have gA : ((97 : Int) ≤ ((b.toNat : Nat) : Int)) = False := eq_false (by omega)
                  by_cases h48 : 48 ≤ b.toNat
                  · have g48 : ((48 : Int) ≤ ((b.toNat : Nat) : Int)) = True := eq_true (by omega)
                    by_cases h57 : b.toNat ≤ 57
                    · have g57 : (((b.toNat : Nat) : Int) ≤ 57) = True := eq_true (by omega)
                      simp only [go_sem, f1, decide_true, decide_false, ib, w1, gA, g48, g57]
                      exact ⟨m - 1, by omega, k + 1, true, by omega, done true (by simp [signN, h48, h57]), rfl⟩
                    · have g57 : (((b.toNat : Nat) : Int) ≤ 57) = False := eq_false (by omega)
                      have g45 : (((b.toNat : Nat) : Int) == 45) = false := by simp only [beq_eq_false_iff_ne, ne_eq]; omega
                      simp only [go_sem, f1, decide_true, decide_false, ib, w1, gA, g48, g57, g45]
                      exact ⟨m - 1, by omega, k + 1, false, by omega, done false (by simp [signN, letterN]; omega), rfl⟩
                  · have g48 : ((48 : Int) ≤ ((b.toNat : Nat) : Int)) = False := eq_false (by omega)
                    by_cases h45 : b.toNat = 45
                    · have g45 : (((b.toNat : Nat) : Int) == 45) = true := by rw [h45]; rfl
                      simp only [go_sem, f1, decide_true, decide_false, ib, w1, gA, g48, g45]
                      exact ⟨m - 1, by omega, k + 1, true, by omega, done true (by simp [signN, h45]), rfl⟩
                    · have g45 : (((b.toNat : Nat) : Int) == 45) = false := by simp only [beq_eq_false_iff_ne, ne_eq]; omega
                      simp only [go_sem, f1, decide_true, decide_false, ib, w1, gA, g48, g45]
                      exact ⟨m - 1, by omega, k + 1, false, by omega, done false (by simp [signN, letterN]; omega), rfl⟩
            · have f1 : ((k : Int) < (s.size : Int)) = False := eq_false (by omega)
              rw [List.take_of_length_le (by omega), ← hf] at hok
              rw [← hok]
              cases ok
              · simp only [go_sem, f1, decide_false, nmCode, Bool.false_eq_true]
              · simp only [go_sem, f1, decide_false, nmCode]
      · have gA : ((97 : Int) ≤ ((b0.toNat : Nat) : Int)) = False := eq_false (by omega)
        have eF : fstOK l = false := by simp [fstOK, hb0, hd0, letterN, hA]
        simp only [go_sem, e1, e2, i0, gA, decide_true, decide_false]
        refine aw_loop (fun m E => ∃ (k : Nat) (ok : Bool), k + m = l.length ∧ ok = (fstOK l && (l.take k).all fun b => signN b.toNat) ∧ E = mkE [(0, .lit (.string s)), (3, .lit (.bool ok)), (4, .lit (.int .i64 (k : Nat)))] []) l.length ?_ ?_
        · exact ⟨0, _, by omega, rfl, by simp only [go_sem, eF, List.take_zero, List.all_nil, Bool.and_true]; rfl⟩
        · rintro m _ ⟨k, ok, hk, hok, rfl⟩
          by_cases hkl : k < l.length
          · have f1 : ((k : Int) < (s.size : Int)) = True := eq_true (by omega)
            obtain ⟨b, hb⟩ : ∃ b, l[k]? = some b := ⟨l[k], List.getElem?_eq_getElem hkl⟩
            have ib := avIxs_l s .i64 k b (by rw [hL]; exact hb)
            have w1 := wrap_succ k (by omega)
            have hstep : (fstOK l && (l.take (k + 1)).all fun b => signN b.toNat) = (ok && signN b.toNat) := by
              rw [List.take_add_one, hb, List.all_append, hok, Bool.and_assoc]
              simp
            cases ok with
            | false =>
              simp only [go_sem, f1, decide_true, ib, w1]
              exact ⟨m - 1, by omega, k + 1, false, by omega, by rw [hstep]; rfl, rfl⟩
            | true =>
              have done : ∀ t : Bool, signN b.toNat = t → t = (fstOK l && (l.take (k + 1)).all fun b => signN b.toNat) := fun t ht => by rw [hstep, ht]; rfl
              by_cases hA : 97 ≤ b.toNat
              · have gA : ((97 : Int) ≤ ((b.toNat : Nat) : Int)) = True := eq_true (by omega)
                by_cases hB : b.toNat ≤ 122
                · have gB : (((b.toNat : Nat) : Int) ≤ 122) = True := eq_true (by omega)
                  simp only [go_sem, f1, decide_true, ib, w1, gA, gB]
                  exact ⟨m - 1, by omega, k + 1, true, by omega, done true (by simp [signN, letterN, hA, hB]), rfl⟩
                · have gB : (((b.toNat : Nat) : Int) ≤ 122) = False := eq_false (by omega)
                  have g48 : ((48 : Int) ≤ ((b.toNat : Nat) : Int)) = True := eq_true (by omega)
                  have g57 : (((b.toNat : Nat) : Int) ≤ 57) = False := eq_false (by omega)
                  have g45 : (((b.toNat : Nat) : Int) == 45) = false := by simp only [beq_eq_false_iff_ne, ne_eq]; omega
                  simp only [go_sem, f1, decide_true, decide_false, ib, w1, gA, gB, g48, g57, g45]
                  exact ⟨m - 1, by omega, k + 1, false, by omega, done false (by simp [signN, letterN]; omega), rfl⟩
              · have gA : ((97 : Int) ≤ ((b.toNat : Nat) : Int)) = False := eq_false (by omega)
                by_cases h48 : 48 ≤ b.toNat
                · have g48 : ((48 : Int) ≤ ((b.toNat : Nat) : Int)) = True := eq_true (by omega)
                  by_cases h57 : b.toNat ≤ 57
                  · have g57 : (((b.toNat : Nat) : Int) ≤ 57) = True := eq_true (by omega)
                    simp only [go_sem, f1, decide_true, decide_false, ib, w1, gA, g48, g57]
                    exact ⟨m - 1, by omega, k + 1, true, by omega, done true (by simp [signN, h48, h57]), rfl⟩
                  · have g57 : (((b.toNat : Nat) : Int) ≤ 57) = False := eq_false (by omega)
                    have g45 : (((b.toNat : Nat) : Int) == 45) = false := by simp only [beq_eq_false_iff_ne, ne_eq]; omega
                    simp only [go_sem, f1, decide_true, decide_false, ib, w1, gA, g48, g57, g45]
                    exact ⟨m - 1, by omega, k + 1, false, by omega, done false (by simp [signN, letterN]; omega), rfl⟩
                · have g48 : ((48 : Int) ≤ ((b.toNat : Nat) : Int)) = False := eq_false (by omega)
                  by_cases h45 : b.toNat = 45
                  · have g45 : (((b.toNat : Nat) : Int) == 45) = true := by rw [h45]; rfl
                    simp only [go_sem, f1, decide_true, decide_false, ib, w1, gA, g48, g45]
                    exact ⟨m - 1, by omega, k + 1, true, by omega, done true (by simp [signN, h45]), rfl⟩
                  · have g45 : (((b.toNat : Nat) : Int) == 45) = false := by simp only [beq_eq_false_iff_ne, ne_eq]; omega
                    simp only [go_sem, f1, decide_true, decide_false, ib, w1, gA, g48, g45]
                    exact ⟨m - 1, by omega, k + 1, false, by omega, done false (by simp [signN, letterN]; omega), rfl⟩
          · have f1 : ((k : Int) < (s.size : Int)) = False := eq_false (by omega)
            rw [List.take_of_length_le (by omega), ← hf] at hok
            rw [← hok]
            cases ok
            · simp only [go_sem, f1, decide_false, nmCode, Bool.false_eq_true]
            · simp only [go_sem, f1, decide_false, nmCode]
    · have e2 : ((s.size : Int) ≤ 12) = False := eq_false (by omega)
      have eF : fstOK l = false := by simp [fstOK, h2]
      simp only [go_sem, e1, e2, decide_true, decide_false]
      refine aw_loop (fun m E => ∃ (k : Nat) (ok : Bool), k + m = l.length ∧ ok = (fstOK l && (l.take k).all fun b => signN b.toNat) ∧ E = mkE [(0, .lit (.string s)), (3, .lit (.bool ok)), (4, .lit (.int .i64 (k : Nat)))] []) l.length ?_ ?_
      · exact ⟨0, _, by omega, rfl, by simp only [go_sem, eF, List.take_zero, List.all_nil, Bool.and_true]; rfl⟩
      · rintro m _ ⟨k, ok, hk, hok, rfl⟩
        by_cases hkl : k < l.length
        · have f1 : ((k : Int) < (s.size : Int)) = True := eq_true (by omega)
          obtain ⟨b, hb⟩ : ∃ b, l[k]? = some b := ⟨l[k], List.getElem?_eq_getElem hkl⟩
          have ib := avIxs_l s .i64 k b (by rw [hL]; exact hb)
          have w1 := wrap_succ k (by omega)
          have hstep : (fstOK l && (l.take (k + 1)).all fun b => signN b.toNat) = (ok && signN b.toNat) := by
            rw [List.take_add_one, hb, List.all_append, hok, Bool.and_assoc]
            simp
          cases ok with
          | false =>
            simp only [go_sem, f1, decide_true, ib, w1]
            exact ⟨m - 1, by omega, k + 1, false, by omega, by rw [hstep]; rfl, rfl⟩
          | true =>
            have done : ∀ t : Bool, signN b.toNat = t → t = (fstOK l && (l.take (k + 1)).all fun b => signN b.toNat) := fun t ht => by rw [hstep, ht]; rfl
            by_cases hA : 97 ≤ b.toNat
            · have gA : ((97 : Int) ≤ ((b.toNat : Nat) : Int)) = True := eq_true (by omega)
              by_cases hB : b.toNat ≤ 122
              · have gB : (((b.toNat : Nat) : Int) ≤ 122) = True := eq_true (by omega)
                simp only [go_sem, f1, decide_true, ib, w1, gA, gB]
                exact ⟨m - 1, by omega, k + 1, true, by omega, done true (by simp [signN, letterN, hA, hB]), rfl⟩
              · have gB : (((b.toNat : Nat) : Int) ≤ 122) = False := eq_false (by omega)
                have g48 : ((48 : Int) ≤ ((b.toNat : Nat) : Int)) = True := eq_true (by omega)
                have g57 : (((b.toNat : Nat) : Int) ≤ 57) = False := eq_false (by omega)
                have g45 : (((b.toNat : Nat) : Int) == 45) = false := by simp only [beq_eq_false_iff_ne, ne_eq]; omega
                simp only [go_sem, f1, decide_true, decide_false, ib, w1, gA, gB, g48, g57, g45]
                exact ⟨m - 1, by omega, k + 1, false, by omega, done false (by simp [signN, letterN]; omega), rfl⟩
            · have gA : ((97 : Int) ≤ ((b.toNat : Nat) : Int)) = False := eq_false (by omega)
              by_cases h48 : 48 ≤ b.toNat
              · have g48 : ((48 : Int) ≤ ((b.toNat : Nat) : Int)) = True := eq_true (by omega)
                by_cases h57 : b.toNat ≤ 57
                · have g57 : (((b.toNat : Nat) : Int) ≤ 57) = True := eq_true (by omega)
                  simp only [go_sem, f1, decide_true, decide_false, ib, w1, gA, g48, g57]
                  exact ⟨m - 1, by omega, k + 1, true, by omega, done true (by simp [signN, h48, h57]), rfl⟩
                · have g57 : (((b.toNat : Nat) : Int) ≤ 57) = False := eq_false (by omega)
                  have g45 : (((b.toNat : Nat) : Int) == 45) = false := by simp only [beq_eq_false_iff_ne, ne_eq]; omega
                  simp only [go_sem, f1, decide_true, decide_false, ib, w1, gA, g48, g57, g45]
                  exact ⟨m - 1, by omega, k + 1, false, by omega, done false (by simp [signN, letterN]; omega), rfl⟩
              · have g48 : ((48 : Int) ≤ ((b.toNat : Nat) : Int)) = False := eq_false (by omega)
                by_cases h45 : b.toNat = 45
                · have g45 : (((b.toNat : Nat) : Int) == 45) = true := by rw [h45]; rfl
                  simp only [go_sem, f1, decide_true, decide_false, ib, w1, gA, g48, g45]
                  exact ⟨m - 1, by omega, k + 1, true, by omega, done true (by simp [signN, h45]), rfl⟩
                · have g45 : (((b.toNat : Nat) : Int) == 45) = false := by simp only [beq_eq_false_iff_ne, ne_eq]; omega
                  simp only [go_sem, f1, decide_true, decide_false, ib, w1, gA, g48, g45]
                  exact ⟨m - 1, by omega, k + 1, false, by omega, done false (by simp [signN, letterN]; omega), rfl⟩
        · have f1 : ((k : Int) < (s.size : Int)) = False := eq_false (by omega)
          rw [List.take_of_length_le (by omega), ← hf] at hok
          rw [← hok]
          cases ok
          · simp only [go_sem, f1, decide_false, nmCode, Bool.false_eq_true]
          · simp only [go_sem, f1, decide_false, nmCode]
  · have e1 : ((1 : Int) ≤ (s.size : Int)) = False := eq_false (by omega)
    have eF : fstOK l = false := by
      have : decide (1 ≤ l.length) = false := by simpa using h1
      simp only [fstOK, this, Bool.false_and]
    simp only [go_sem, e1, decide_true, decide_false]
    refine aw_loop (fun m E => ∃ (k : Nat) (ok : Bool), k + m = l.length ∧ ok = (fstOK l && (l.take k).all fun b => signN b.toNat) ∧ E = mkE [(0, .lit (.string s)), (3, .lit (.bool ok)), (4, .lit (.int .i64 (k : Nat)))] []) l.length ?_ ?_
    · exact ⟨0, _, by omega, rfl, by simp only [go_sem, eF, List.take_zero, List.all_nil, Bool.and_true]; rfl⟩
    · rintro m _ ⟨k, ok, hk, hok, rfl⟩
      by_cases hkl : k < l.length
      · have f1 : ((k : Int) < (s.size : Int)) = True := eq_true (by omega)
        obtain ⟨b, hb⟩ : ∃ b, l[k]? = some b := ⟨l[k], List.getElem?_eq_getElem hkl⟩
        have ib := avIxs_l s .i64 k b (by rw [hL]; exact hb)
        have w1 := wrap_succ k (by omega)
        have hstep : (fstOK l && (l.take (k + 1)).all fun b => signN b.toNat) = (ok && signN b.toNat) := by
          rw [List.take_add_one, hb, List.all_append, hok, Bool.and_assoc]
          simp
        cases ok with
        | false =>
          simp only [go_sem, f1, decide_true, ib, w1]
          exact ⟨m - 1, by omega, k + 1, false, by omega, by rw [hstep]; rfl, rfl⟩
        | true =>
          have done : ∀ t : Bool, signN b.toNat = t → t = (fstOK l && (l.take (k + 1)).all fun b => signN b.toNat) := fun t ht => by rw [hstep, ht]; rfl
          by_cases hA : 97 ≤ b.toNat
          · have gA : ((97 : Int) ≤ ((b.toNat : Nat) : Int)) = True := eq_true (by omega)
            by_cases hB : b.toNat ≤ 122
            · have gB : (((b.toNat : Nat) : Int) ≤ 122) = True := eq_true (by omega)
              simp only [go_sem, f1, decide_true, ib, w1, gA, gB]
              exact ⟨m - 1, by omega, k + 1, true, by omega, done true (by simp [signN, letterN, hA, hB]), rfl⟩
            · have gB : (((b.toNat : Nat) : Int) ≤ 122) = False := eq_false (by omega)
              have g48 : ((48 : Int) ≤ ((b.toNat : Nat) : Int)) = True := eq_true (by omega)
              have g57 : (((b.toNat : Nat) : Int) ≤ 57) = False := eq_false (by omega)
              have g45 : (((b.toNat : Nat) : Int) == 45) = false := by simp only [beq_eq_false_iff_ne, ne_eq]; omega
              simp only [go_sem, f1, decide_true, decide_false, ib, w1, gA, gB, g48, g57, g45]
              exact ⟨m - 1, by omega, k + 1, false, by omega, done false (by simp [signN, letterN]; omega), rfl⟩
          · have gA : ((97 : Int) ≤ ((b.toNat : Nat) : Int)) = False := eq_false (by omega)
            by_cases h48 : 48 ≤ b.toNat
            · have g48 : ((48 : Int) ≤ ((b.toNat : Nat) : Int)) = True := eq_true (by omega)
              by_cases h57 : b.toNat ≤ 57
              · have g57 : (((b.toNat : Nat) : Int) ≤ 57) = True := eq_true (by omega)
                simp only [go_sem, f1, decide_true, decide_false, ib, w1, gA, g48, g57]
                exact ⟨m - 1, by omega, k + 1, true, by omega, done true (by simp [signN, h48, h57]), rfl⟩
              · have g57 : (((b.toNat : Nat) : Int) ≤ 57) = False := eq_false (by omega)
                have g45 : (((b.toNat : Nat) : Int) == 45) = false := by simp only [beq_eq_false_iff_ne, ne_eq]; omega
                simp only [go_sem, f1, decide_true, decide_false, ib, w1, gA, g48, g57, g45]
                exact ⟨m - 1, by omega, k + 1, false, by omega, done false (by simp [signN, letterN]; omega), rfl⟩
            · have g48 : ((48 : Int) ≤ ((b.toNat : Nat) : Int)) = False := eq_false (by omega)
              by_cases h45 : b.toNat = 45
              · have g45 : (((b.toNat : Nat) : Int) == 45) = true := by rw [h45]; rfl
                simp only [go_sem, f1, decide_true, decide_false, ib, w1, gA, g48, g45]
                exact ⟨m - 1, by omega, k + 1, true, by omega, done true (by simp [signN, h45]), rfl⟩
              · have g45 : (((b.toNat : Nat) : Int) == 45) = false := by simp only [beq_eq_false_iff_ne, ne_eq]; omega
                simp only [go_sem, f1, decide_true, decide_false, ib, w1, gA, g48, g45]
                exact ⟨m - 1, by omega, k + 1, false, by omega, done false (by simp [signN, letterN]; omega), rfl⟩
      · have f1 : ((k : Int) < (s.size : Int)) = False := eq_false (by omega)
        rw [List.take_of_length_le (by omega), ← hf] at hok
        rw [← hok]
        cases ok
        · simp only [go_sem, f1, decide_false, nmCode, Bool.false_eq_true]
        · simp only [go_sem, f1, decide_false, nmCode]
def codeG : Nat → Int
  | 0 => 104
  | 1 => 110
  | 2 => 103
  | 3 => 113
  | 4 => 111
  | 5 => 112
  | 6 => 109
  | _ => -1
def codeN : Option Nat → Int
  | none => 0
  | some g => codeG g
theorem any_take_none {α : Type} {p : α → Bool} {l : List α} {i : Nat} (h : ∀ (j : Nat) (y : α), j < i → l[j]? = some y → p y = false) : (l.take i).any p = false := by
  rw [List.any_eq_false]
  intro x hx
  obtain ⟨j, hj, e⟩ := List.mem_iff_getElem.1 hx
  simp only [List.length_take] at hj
  rw [List.getElem_take] at e
  simp [h j x (by omega) (by rw [List.getElem?_eq_getElem (by omega), e])]
theorem any_take_some {α : Type} {p : α → Bool} {l : List α} {i k : Nat} {x : α} (hk : k < i) (hx : l[k]? = some x) (hp : p x = true) : (l.take i).any p = true := by
  rw [List.any_eq_true]
  refine ⟨x, ?_, hp⟩
  obtain ⟨h1, h2⟩ := List.getElem?_eq_some_iff.1 hx
  exact List.mem_iff_getElem.2 ⟨k, by simp; omega, by rw [List.getElem_take]; exact h2⟩
theorem C_rPlace (i n : Int) : AC Tryz.prog f_q158 [.lit (.int .i64 i), .lit (.int .i64 n)] (.lit (.bool (placeN i n))) := by
  refine ac_q158 ?_ (Nat.le_add_left 2 _)
  unfold placeN
  cases h : decide (0 ≤ i)
  · simp only [go_sem, c_q158, h, Bool.false_and]
  · simp only [go_sem, c_q158, h, Bool.true_and]
theorem C_rGroups : AC Tryz.prog f_q61 [] (avPfx 3758096384 4) := by
  refine ac_q61 ?_ (Nat.zero_le _)
  simp only [go_sem, c_q61, avPfx]
  rfl
theorem C_rSameKey (a b c d : Nat) : AC Tryz.prog f_q161 [.agg [avU a, avU b], .agg [avU c, avU d]] (.lit (.bool (a == c && b == d))) := by
  refine ac_q161 ?_ (Nat.le_add_left 2 _)
  cases h : a == c <;> simp only [go_sem, c_q161, avU, nat_beqb, h, Bool.true_and, Bool.false_and]
theorem C_rSamePrefix (a : Nat) (b : Int) (c : Nat) (d : Int) : AC Tryz.prog f_q160 [avPfx a b, avPfx c d] (.lit (.bool (a == c && b == d))) := by
  refine ac_q160 ?_ (Nat.le_add_left 2 _)
  cases h : a == c <;> simp only [go_sem, c_q160, avPfx, avU, nat_beqb, h, Bool.true_and, Bool.false_and]
theorem b109 : ((109 : Int) != 0) = true := rfl
theorem b000 : ((0 : Int) != 0) = false := rfl
theorem R_router (w : NW) (h : w.OK) (i : Nat) (x : NRt) (hx : w.rts[i]? = some x) : AC Tryz.prog f_q104 [.agg (netV w), .lit (.int .i64 (i : Nat))] (.lit (.int .i64 (codeN (rtOf w.rts i x)))) := by
  have hi : i < w.rts.length := (List.getElem?_eq_some_iff.1 hx).1
  have hl := h.l1
  refine ac_q104 ?_ (Nat.le_add_left 2 _)
  simp only [go_sem, c_q104, netV, Int.toNat_natCast, Int.natCast_nonneg, List.getElem?_map, hx, rowAgg, avRouter, avStr]
  refine callX_of (C_r5Name x.nm (h.rtn x (List.mem_of_getElem? hx))) ?_
  cases h1 : nameOK x.nm.data.toList
  · simp only [go_sem, nmCode, h1, rtOf, codeN, codeG, b109, Bool.false_eq_true]
  simp only [go_sem, nmCode, h1, b000]
  refine aw_loop (fun m E => ∃ k : Nat, k + m = i ∧ (∀ (j : Nat) (y : NRt), j < k → w.rts[j]? = some y → p_router_1 x y = false) ∧ E = mkE [(1, .lit (.int .i64 (i : Nat))), (2, .lp 2 0), (5, .lp 5 0), (6, .lit (.int .i64 (k : Nat)))] [(2, netV w), (5, [avStr x.nm, .lit (.int .i64 x.rank)])]) i ?_ ?_
  · exact ⟨0, by omega, fun j y hj => absurd hj (Nat.not_lt_zero j), by simp only [go_sem, Int.natCast_zero]; rfl⟩
  · rintro m _ ⟨k, hk, hall, rfl⟩
    by_cases hki : k < i
    · have f1 : ((k : Int) < (i : Int)) = True := eq_true (by omega)
      obtain ⟨y, hy⟩ : ∃ y, w.rts[k]? = some y := ⟨w.rts[k], List.getElem?_eq_getElem (by omega)⟩
      have hw := wrap_succ k (by omega)
      cases hp : p_router_1 x y
      · have hp2 : (y.nm.toList == x.nm.toList) = false := hp
        simp only [go_sem, f1, decide_true, netV, Int.toNat_natCast, Int.natCast_nonneg, List.getElem?_map, hy, rowAgg, avRouter, avStr, hp2, hw]
        refine ⟨m - 1, by omega, k + 1, by omega, fun j z hj hz => ?_, rfl⟩
        by_cases hjk : j = k
        · subst hjk; rw [hy] at hz; injection hz with hz; rw [← hz]; exact hp
        · exact hall j z (by omega) hz
      · have hp2 : (y.nm.toList == x.nm.toList) = true := hp
        simp only [go_sem, f1, decide_true, netV, Int.toNat_natCast, Int.natCast_nonneg, List.getElem?_map, hy, rowAgg, avRouter, avStr, hp2, rtOf, h1, any_take_some hki hy hp, codeN, codeG, Bool.true_eq_false]
    · obtain rfl : k = i := by omega
      have f1 : ((k : Int) < (k : Int)) = False := eq_false (by omega)
      have hany := any_take_none hall
      by_cases g1 : x.rank < 0
      · have e : costN x.rank = false := by simp only [costN]; simp; omega
        simp only [go_sem, f1, decide_false, avStr, g1, decide_true, rtOf, h1, hany, e, codeN, codeG, Bool.true_eq_false, Bool.false_eq_true]
      · by_cases g2 : 65535 < x.rank
        · have e : costN x.rank = false := by simp only [costN]; simp; omega
          simp only [go_sem, f1, decide_false, avStr, g1, g2, decide_true, rtOf, h1, hany, e, codeN, codeG, Bool.true_eq_false, Bool.false_eq_true]
        · have e : costN x.rank = true := by simp only [costN]; simp; omega
          simp only [go_sem, f1, decide_false, avStr, g1, g2, rtOf, h1, hany, e, codeN, codeG, Bool.true_eq_false, Bool.false_eq_true]
end Go.Proofs.YtbgfkdpjnabhkaaGreatDoor.VL
end

section
set_option maxHeartbeats 4000000
namespace Go.Proofs.YtbgfkdpjnabhkaaGreatDoor.VL
open Go.RowKit Go.Proofs
theorem R_link (w : NW) (h : w.OK) (i : Nat) (x : NLk) (hx : w.lks[i]? = some x) : AC Tryz.prog f_q105 [.agg (netV w), .lit (.int .i64 (i : Nat))] (.lit (.int .i64 (codeN (lkOf w.lks i x)))) := by
  have hi : i < w.lks.length := (List.getElem?_eq_some_iff.1 hx).1
  have hl := h.l2
  have ha := h.lka x (List.mem_of_getElem? hx)
  refine ac_q105 ?_ (Nat.le_add_left 2 _)
  simp only [go_sem, c_q105, netV, Int.toNat_natCast, Int.natCast_nonneg, List.getElem?_map, hx, rowAgg, avLink, avStr, avU]
  refine callX_of (C_r5Name x.nm (h.lkn x (List.mem_of_getElem? hx))) ?_
  cases h1 : nameOK x.nm.data.toList
  · simp only [go_sem, nmCode, h1, lkOf, codeN, codeG, b109, Bool.false_eq_true]
  simp only [go_sem, nmCode, h1, b000]
  refine aw_loop (fun m E => ∃ k : Nat, k + m = i ∧ (∀ (j : Nat) (y : NLk), j < k → w.lks[j]? = some y → p_link_1 x y = false) ∧ E = mkE [(1, .lit (.int .i64 (i : Nat))), (2, .lp 2 0), (5, .lp 5 0), (6, .lit (.int .i64 (k : Nat)))] [(2, netV w), (5, [avStr x.nm, avU x.a, .lit (.int .i64 x.b)])]) i ?_ ?_
  · exact ⟨0, by omega, fun j y hj => absurd hj (Nat.not_lt_zero j), by simp only [go_sem, Int.natCast_zero]; rfl⟩
  · rintro m _ ⟨k, hk, hall, rfl⟩
    by_cases hki : k < i
    · have f1 : ((k : Int) < (i : Int)) = True := eq_true (by omega)
      obtain ⟨y, hy⟩ : ∃ y, w.lks[k]? = some y := ⟨w.lks[k], List.getElem?_eq_getElem (by omega)⟩
      have hw := wrap_succ k (by omega)
      cases hp : p_link_1 x y
      · have hp2 : (y.nm.toList == x.nm.toList) = false := hp
        simp only [go_sem, f1, decide_true, netV, Int.toNat_natCast, Int.natCast_nonneg, List.getElem?_map, hy, rowAgg, avLink, avStr, avU, hp2, hw]
        refine ⟨m - 1, by omega, k + 1, by omega, fun j z hj hz => ?_, rfl⟩
        by_cases hjk : j = k
        · subst hjk; rw [hy] at hz; injection hz with hz; rw [← hz]; exact hp
        · exact hall j z (by omega) hz
      · have hp2 : (y.nm.toList == x.nm.toList) = true := hp
        simp only [go_sem, f1, decide_true, netV, Int.toNat_natCast, Int.natCast_nonneg, List.getElem?_map, hy, rowAgg, avLink, avStr, avU, hp2, lkOf, h1, any_take_some hki hy hp, codeN, codeG, Bool.true_eq_false]
    · obtain rfl : k = i := by omega
      have f1 : ((k : Int) < (k : Int)) = False := eq_false (by omega)
      have hany := any_take_none hall
      have hV := C_rValid x.a x.b ha
      have hW1 := C_rWithin x.a x.b 3758096384 4 ha (by decide)
      have hW2 := C_rWithin 3758096384 4 x.a x.b (by decide) ha
      have hG := C_rGroups
      simp only [avPfx, avU] at hV hW1 hW2 hG
      simp only [go_sem, f1, decide_false, avStr, avU]
      refine callX_of hV ?_
      cases h3 : validN x.a x.b
      · simp only [go_sem, lkOf, h1, hany, h3, codeN, codeG, Bool.not_false, Bool.true_eq_false, Bool.false_eq_true]
      simp only [go_sem, Bool.not_true]
      refine callX_of hG ?_
      simp only [go_sem]
      refine callX_of hW1 ?_
      cases h4 : withinN x.a x.b 3758096384 4
      case true => simp only [go_sem, lkOf, h1, hany, h3, h4, codeN, codeG, Bool.true_or, Bool.true_eq_false, Bool.false_eq_true]
      simp only [go_sem]
      refine callX_of hG ?_
      simp only [go_sem]
      refine callX_of hW2 ?_
      cases h5 : withinN 3758096384 4 x.a x.b <;> simp only [go_sem, lkOf, h1, hany, h3, h4, h5, codeN, codeG, Bool.or_true, Bool.or_false, Bool.true_eq_false, Bool.false_eq_true]
theorem at_link {w : NW} {lk : Int} (h : placeN lk w.lks.length = true) : ∃ (q : Nat) (y : NLk), lk = (q : Int) ∧ w.lks[q]? = some y := by
  simp only [placeN, Bool.and_eq_true, decide_eq_true_eq] at h
  exact ⟨lk.toNat, w.lks[lk.toNat]'(by omega), by omega, List.getElem?_eq_getElem (by omega)⟩
theorem onAt_net {w : NW} {lk : Int} {q : Nat} {y : NLk} (a : Nat) (e : lk = (q : Int)) (hy : w.lks[q]? = some y) : onAt w.net lk a = onN y a := by
  simp only [onAt, NW.net, Option.getD_some, e, Int.toNat_natCast, hy]
theorem nb0 (a : Nat) : ((a : Int) == 0) = (a == 0) := by
  rw [Bool.eq_iff_iff]; simp
theorem rt_len (w : NW) : (w.net.rts.getD []).length = w.rts.length := rfl
theorem lk_len (w : NW) : (w.net.lks.getD []).length = w.lks.length := rfl
theorem pt_net (w : NW) : w.net.pts.getD [] = w.pts := rfl
theorem R_port (w : NW) (h : w.OK) (i : Nat) (x : NPt) (hx : w.pts[i]? = some x) : AC Tryz.prog f_q106 [.agg (netV w), .lit (.int .i64 (i : Nat))] (.lit (.int .i64 (codeN (ptOf w.net w.pts i x)))) := by
  have hi : i < w.pts.length := (List.getElem?_eq_some_iff.1 hx).1
  have hl := h.l3
  have ha := h.pta x (List.mem_of_getElem? hx)
  refine ac_q106 ?_ (Nat.le_add_left 2 _)
  simp only [go_sem, c_q106, netV, Int.toNat_natCast, Int.natCast_nonneg, List.getElem?_map, hx, rowAgg, avPort, avU, List.length_map]
  refine callX_of (C_rPlace x.rt w.rts.length) ?_
  cases h1 : placeN x.rt w.rts.length
  · simp only [go_sem, h1, ptOf, rt_len, lk_len, codeN, codeG, Bool.not_false, Bool.false_and]
  simp only [go_sem, h1, Bool.not_true, List.length_map]
  refine callX_of (C_rPlace x.lk w.lks.length) ?_
  cases h2 : placeN x.lk w.lks.length
  · simp only [go_sem, h1, h2, ptOf, rt_len, lk_len, codeN, codeG, Bool.not_false, Bool.and_false]
  obtain ⟨q, y0, hq, hy0⟩ := at_link h2
  have hat := onAt_net x.a hq hy0
  have hI := C_rIn y0.a y0.b x.a (h.lka y0 (List.mem_of_getElem? hy0)) ha
  simp only [avPfx, avU] at hI
  cases h3 : x.a == 0
  case true =>
    have e : onN y0 x.a = false := by simp only [onN, h3, Bool.not_true, Bool.false_and]
    simp only [go_sem, h1, h2, Bool.not_true, nb0, h3, ptOf, rt_len, lk_len, hat, e, codeN, codeG, Bool.and_self, Bool.true_eq_false]
  simp only [go_sem, Bool.not_true, nb0, h3, hq, hy0, Int.toNat_natCast, Int.natCast_nonneg, List.getElem?_map, rowAgg, avLink, avStr, avU]
  refine callX_of hI ?_
  cases h4 : inN y0.a y0.b x.a
  · have e : onN y0 x.a = false := by simp only [onN, h4, Bool.and_false]
    simp only [go_sem, h1, h2, Bool.not_false, ptOf, rt_len, lk_len, ← hq, hat, e, codeN, codeG, Bool.and_self, Bool.true_eq_false]
  have e : onN y0 x.a = true := by simp only [onN, h3, h4, Bool.not_false, Bool.and_self]
  simp only [go_sem, Bool.not_true]
  refine aw_loop (fun m E => ∃ k : Nat, k + m = i ∧ (∀ (j : Nat) (y : NPt), j < k → w.pts[j]? = some y → p_port_1 x y = false) ∧ E = mkE [(1, .lit (.int .i64 (i : Nat))), (2, .lp 2 0), (5, .lp 5 0), (6, .lit (.int .i64 (k : Nat)))] [(2, netV w), (5, [.lit (.int .i64 x.rt), .lit (.int .i64 x.lk), avU x.a])]) i ?_ ?_
  · exact ⟨0, by omega, fun j y hj => absurd hj (Nat.not_lt_zero j), by simp only [go_sem, Int.natCast_zero, hq]; rfl⟩
  · rintro m _ ⟨k, hk, hall, rfl⟩
    by_cases hki : k < i
    · have f1 : ((k : Int) < (i : Int)) = True := eq_true (by omega)
      obtain ⟨y, hy⟩ : ∃ y, w.pts[k]? = some y := ⟨w.pts[k], List.getElem?_eq_getElem (by omega)⟩
      have hw := wrap_succ k (by omega)
      have go : p_port_1 x y = false → ∀ (j : Nat) (z : NPt), j < k + 1 → w.pts[j]? = some z → p_port_1 x z = false := fun hp j z hj hz => by
        by_cases hjk : j = k
        · subst hjk; rw [hy] at hz; injection hz with hz; rw [← hz]; exact hp
        · exact hall j z (by omega) hz
      cases e0 : (y.a == x.a) <;> cases e1 : (y.rt == x.rt) <;> cases e2 : (y.lk == x.lk) <;> simp only [go_sem, f1, decide_true, netV, Int.toNat_natCast, Int.natCast_nonneg, List.getElem?_map, hy, rowAgg, avPort, avU, nat_beqb, e0, e1, e2, hw]
      all_goals first
        | exact ⟨m - 1, by omega, k + 1, by omega, go (by simp only [p_port_1, e0, e1, e2]; rfl), rfl⟩
        | (have hp : p_port_1 x y = true := by simp only [p_port_1, e0, e1, e2]; rfl
           simp only [ptOf, rt_len, lk_len, h1, h2, ← hq, hat, e, any_take_some hki hy hp, codeN, codeG, Bool.and_self, Bool.true_eq_false, if_false, if_true])
    · obtain rfl : k = i := by omega
      have f1 : ((k : Int) < (k : Int)) = False := eq_false (by omega)
      have hany := any_take_none hall
      simp only [go_sem, f1, decide_false, ptOf, rt_len, lk_len, h1, h2, ← hq, hat, e, hany, codeN, codeG, Bool.and_self, Bool.true_eq_false, Bool.false_eq_true]
theorem R_route (w : NW) (h : w.OK) (i : Nat) (x : NRo) (hx : w.ros[i]? = some x) : AC Tryz.prog f_q107 [.agg (netV w), .lit (.int .i64 (i : Nat))] (.lit (.int .i64 (codeN (roOf w.net x)))) := by
  have hi : i < w.ros.length := (List.getElem?_eq_some_iff.1 hx).1
  have hl := h.l4
  have ha := h.roa x (List.mem_of_getElem? hx)
  have hv := h.rov x (List.mem_of_getElem? hx)
  refine ac_q107 ?_ (Nat.le_add_left 2 _)
  simp only [go_sem, c_q107, netV, Int.toNat_natCast, Int.natCast_nonneg, List.getElem?_map, hx, rowAgg, avRoute, avU, List.length_map]
  refine callX_of (C_rPlace x.rt w.rts.length) ?_
  cases h1 : placeN x.rt w.rts.length
  · simp only [go_sem, h1, roOf, rt_len, codeN, codeG, Bool.not_false]
  have hV := C_rValid x.a x.b ha
  simp only [avPfx, avU] at hV
  simp only [go_sem, h1, Bool.not_true]
  refine callX_of hV ?_
  cases h3 : validN x.a x.b
  · simp only [go_sem, roOf, rt_len, h1, h3, codeN, codeG, Bool.not_false, Bool.false_and, Bool.true_eq_false, Bool.false_eq_true]
  have hG := C_rGroup x.via hv
  simp only [avU] at hG
  have kind : hostN x.via = false → roOf w.net x = some 3 ∨ costN x.cost = false := fun hh => by
    cases hc : costN x.cost
    · exact .inr rfl
    · left; simp only [roOf, rt_len, h1, h3, hc, hh, Bool.and_self, Bool.true_eq_false, if_false, if_true]
  by_cases g1 : x.cost < 0
  · have e : costN x.cost = false := by simp only [costN]; simp; omega
    simp only [go_sem, Bool.not_true, g1, decide_true, roOf, rt_len, h1, h3, e, codeN, codeG, Bool.and_false, Bool.true_eq_false]
  by_cases g2 : 65535 < x.cost
  · have e : costN x.cost = false := by simp only [costN]; simp; omega
    simp only [go_sem, Bool.not_true, g1, g2, decide_true, decide_false, roOf, rt_len, h1, h3, e, codeN, codeG, Bool.and_false, Bool.true_eq_false]
  have e : costN x.cost = true := by simp only [costN]; simp; omega
  simp only [go_sem, Bool.not_true, g1, g2, decide_false]
  refine callX_of hG ?_
  cases h4 : groupN x.via
  · cases h5 : x.via == 0
    · have eh : hostN x.via = true := by simp only [hostN, h4, h5, Bool.not_false, Bool.and_self]
      simp only [go_sem, nb0, h5, roOf, rt_len, h1, h3, e, eh, codeN, codeG, Bool.and_self, Bool.true_eq_false]
    · have eh : hostN x.via = false := by simp only [hostN, h5, Bool.not_true, Bool.false_and]
      simp only [go_sem, nb0, h5, roOf, rt_len, h1, h3, e, eh, codeN, codeG, Bool.and_self, Bool.true_eq_false]
  · have eh : hostN x.via = false := by simp only [hostN, h4, Bool.not_true, Bool.and_false]
    simp only [go_sem, roOf, rt_len, h1, h3, e, eh, codeN, codeG, Bool.and_self, Bool.true_eq_false]
theorem R_groups (w : NW) (h : w.OK) (i : Nat) (x : NRg) (hx : w.rgs[i]? = some x) : AC Tryz.prog f_q108 [.agg (netV w), .lit (.int .i64 (i : Nat))] (.lit (.int .i64 (codeN (rgOf w.rgs i x)))) := by
  have hi : i < w.rgs.length := (List.getElem?_eq_some_iff.1 hx).1
  have hl := h.l5
  have ha := h.rga x (List.mem_of_getElem? hx)
  have hv := h.rgr x (List.mem_of_getElem? hx)
  have hV := C_rValid x.a x.b ha
  have hW1 := C_rWithin x.a x.b 3758096384 4 ha (by decide)
  have hG := C_rGroups
  have hR := C_rGroup x.root hv
  simp only [avPfx, avU] at hV hW1 hG hR
  refine ac_q108 ?_ (Nat.le_add_left 2 _)
  simp only [go_sem, c_q108, netV, Int.toNat_natCast, Int.natCast_nonneg, List.getElem?_map, hx, rowAgg, avRange, avU, List.length_map]
  refine callX_of hV ?_
  cases h1 : validN x.a x.b
  · simp only [go_sem, h1, rgOf, codeN, codeG, Bool.not_false]
  simp only [go_sem, Bool.not_true]
  refine callX_of hG ?_
  simp only [go_sem]
  refine callX_of hW1 ?_
  cases h2 : withinN x.a x.b 3758096384 4
  · simp only [go_sem, h1, h2, rgOf, codeN, codeG, Bool.not_false, Bool.false_and, Bool.true_eq_false]
  simp only [go_sem, Bool.not_true]
  refine callX_of hR ?_
  cases h4 : groupN x.root
  case true =>
    have eh : hostN x.root = false := by simp only [hostN, h4, Bool.not_true, Bool.and_false]
    simp only [go_sem, h1, h2, eh, rgOf, codeN, codeG, Bool.and_false, Bool.true_eq_false]
  cases h5 : x.root == 0
  case true =>
    have eh : hostN x.root = false := by simp only [hostN, h5, Bool.not_true, Bool.false_and]
    simp only [go_sem, nb0, h5, h1, h2, eh, rgOf, codeN, codeG, Bool.and_false, Bool.true_eq_false]
  have eh : hostN x.root = true := by simp only [hostN, h4, h5, Bool.not_false, Bool.and_self]
  simp only [go_sem, nb0, h5]
  refine aw_loop (fun m E => ∃ k : Nat, k + m = i ∧ (∀ (j : Nat) (y : NRg), j < k → w.rgs[j]? = some y → p_ranges_1 x y = false) ∧ E = mkE [(1, .lit (.int .i64 (i : Nat))), (2, .lp 2 0), (5, .lp 5 0), (6, .lit (.int .i64 (k : Nat)))] [(2, netV w), (5, [avU x.a, .lit (.int .i64 x.b), avU x.root])]) i ?_ ?_
  · exact ⟨0, by omega, fun j y hj => absurd hj (Nat.not_lt_zero j), by simp only [go_sem, Int.natCast_zero]; rfl⟩
  · rintro m _ ⟨k, hk, hall, rfl⟩
    by_cases hki : k < i
    · have f1 : ((k : Int) < (i : Int)) = True := eq_true (by omega)
      obtain ⟨y, hy⟩ : ∃ y, w.rgs[k]? = some y := ⟨w.rgs[k], List.getElem?_eq_getElem (by omega)⟩
      have hw := wrap_succ k (by omega)
      have hS := C_rSamePrefix y.a y.b x.a x.b
      simp only [avPfx, avU] at hS
      simp only [go_sem, f1, decide_true, netV, Int.toNat_natCast, Int.natCast_nonneg, List.getElem?_map, hy, rowAgg, avRange, avU]
      refine callX_of hS ?_
      cases hp : p_ranges_1 x y
      · have hp2 : (y.a == x.a && y.b == x.b) = false := hp
        simp only [go_sem, hp2, hw]
        refine ⟨m - 1, by omega, k + 1, by omega, fun j z hj hz => ?_, rfl⟩
        by_cases hjk : j = k
        · subst hjk; rw [hy] at hz; injection hz with hz; rw [← hz]; exact hp
        · exact hall j z (by omega) hz
      · have hp2 : (y.a == x.a && y.b == x.b) = true := hp
        simp only [go_sem, hp2, rgOf, h1, h2, eh, any_take_some hki hy hp, codeN, codeG, Bool.and_self, Bool.true_eq_false]
    · obtain rfl : k = i := by omega
      have f1 : ((k : Int) < (k : Int)) = False := eq_false (by omega)
      have hany := any_take_none hall
      simp only [go_sem, f1, decide_false, rgOf, h1, h2, eh, hany, codeN, codeG, Bool.and_self, Bool.true_eq_false, Bool.false_eq_true]
theorem R_source (w : NW) (h : w.OK) (i : Nat) (x : NSc) (hx : w.scs[i]? = some x) : AC Tryz.prog f_q109 [.agg (netV w), .lit (.int .i64 (i : Nat))] (.lit (.int .i64 (codeN (scOf w.net w.scs i x)))) := by
  have hi : i < w.scs.length := (List.getElem?_eq_some_iff.1 hx).1
  have hl := h.l6
  have hl3 := h.l3
  have ha := h.scs x (List.mem_of_getElem? hx)
  have hg := h.scg x (List.mem_of_getElem? hx)
  refine ac_q109 ?_ (Nat.le_add_left 2 _)
  simp only [go_sem, c_q109, netV, Int.toNat_natCast, Int.natCast_nonneg, List.getElem?_map, hx, rowAgg, avSource, avU, List.length_map]
  refine callX_of (C_rPlace x.lk w.lks.length) ?_
  cases h2 : placeN x.lk w.lks.length
  · simp only [go_sem, h2, scOf, lk_len, codeN, codeG, Bool.not_false]
  obtain ⟨q, y0, hq, hy0⟩ := at_link h2
  have hat := onAt_net x.s hq hy0
  have hI := C_rIn y0.a y0.b x.s (h.lka y0 (List.mem_of_getElem? hy0)) ha
  have hG := C_rGroup x.g hg
  simp only [avPfx, avU] at hI hG
  cases h3 : x.s == 0
  case true =>
    have e : onN y0 x.s = false := by simp only [onN, h3, Bool.not_true, Bool.false_and]
    simp only [go_sem, h2, Bool.not_true, nb0, h3, scOf, lk_len, hat, e, codeN, codeG, Bool.true_eq_false]
  simp only [go_sem, Bool.not_true, nb0, h3, hq, hy0, Int.toNat_natCast, Int.natCast_nonneg, List.getElem?_map, rowAgg, avLink, avStr, avU]
  refine callX_of hI ?_
  cases h4 : inN y0.a y0.b x.s
  · have e : onN y0 x.s = false := by simp only [onN, h4, Bool.and_false]
    simp only [go_sem, h2, Bool.not_false, scOf, lk_len, ← hq, hat, e, codeN, codeG, Bool.true_eq_false]
  have e : onN y0 x.s = true := by simp only [onN, h3, h4, Bool.not_false, Bool.and_self]
  simp only [go_sem, Bool.not_true]
  refine callX_of hG ?_
  cases h5 : groupN x.g
  · simp only [go_sem, h2, Bool.not_false, scOf, lk_len, ← hq, hat, e, h5, codeN, codeG, Bool.true_eq_false]
  simp only [go_sem, Bool.not_true]
  refine aw_loop (fun m E => ∃ k : Nat, k + m = i ∧ (∀ (j : Nat) (y : NSc), j < k → w.scs[j]? = some y → p_source_1 x y = false) ∧ E = mkE [(1, .lit (.int .i64 (i : Nat))), (2, .lp 2 0), (5, .lp 5 0), (6, .lit (.int .i64 (k : Nat)))] [(2, netV w), (5, [.lit (.int .i64 x.lk), avU x.s, avU x.g])]) i ?_ ?_
  · exact ⟨0, by omega, fun j y hj => absurd hj (Nat.not_lt_zero j), by simp only [go_sem, Int.natCast_zero, ← hq]; rfl⟩
  · rintro m _ ⟨k, hk, hall, rfl⟩
    by_cases hki : k < i
    · have f1 : ((k : Int) < (i : Int)) = True := eq_true (by omega)
      obtain ⟨y, hy⟩ : ∃ y, w.scs[k]? = some y := ⟨w.scs[k], List.getElem?_eq_getElem (by omega)⟩
      have hw := wrap_succ k (by omega)
      have hS := C_rSameKey y.s y.g x.s x.g
      simp only [avU] at hS
      have go : p_source_1 x y = false → ∀ (j : Nat) (z : NSc), j < k + 1 → w.scs[j]? = some z → p_source_1 x z = false := fun hp j z hj hz => by
        by_cases hjk : j = k
        · subst hjk; rw [hy] at hz; injection hz with hz; rw [← hz]; exact hp
        · exact hall j z (by omega) hz
      simp only [go_sem, f1, decide_true, netV, Int.toNat_natCast, Int.natCast_nonneg, List.getElem?_map, hy, rowAgg, avSource, avU]
      refine callX_of hS ?_
      cases e0 : (y.s == x.s) <;> cases e1 : (y.g == x.g) <;> cases e2 : (y.lk == x.lk) <;> simp only [go_sem, nat_beqb, e0, e1, e2, hw, bne, Bool.true_and, Bool.false_and, Bool.not_true, Bool.not_false]
      all_goals first
        | exact ⟨m - 1, by omega, k + 1, by omega, go (by simp only [p_source_1, e0, e1, e2, bne]; rfl), rfl⟩
        | (have hp : p_source_1 x y = true := by simp only [p_source_1, e0, e1, e2, bne]; rfl
           simp only [scOf, lk_len, h2, ← hq, hat, e, h5, any_take_some hki hy hp, codeN, codeG, Bool.true_or, Bool.true_eq_false, if_false, if_true])
    · obtain rfl : k = i := by omega
      have f1 : ((k : Int) < (k : Int)) = False := eq_false (by omega)
      have hany := any_take_none hall
      simp only [go_sem, f1, decide_false]
      refine aw_loop (fun m E => ∃ j : Nat, j + m = w.pts.length ∧ (∀ (r : Nat) (y : NPt), r < j → w.pts[r]? = some y → p_source_2 x y = false) ∧ E = mkE [(2, .lp 2 0), (5, .lp 5 0), (8, .lit (.int .i64 (j : Nat)))] [(2, netV w), (5, [.lit (.int .i64 x.lk), avU x.s, avU x.g])]) w.pts.length ?_ ?_
      · exact ⟨0, by omega, fun j y hj => absurd hj (Nat.not_lt_zero j), by simp only [go_sem, Int.natCast_zero]⟩
      · rintro m _ ⟨j, hj, hall2, rfl⟩
        by_cases hjl : j < w.pts.length
        · have f2 : ((j : Int) < (w.pts.length : Int)) = True := eq_true (by omega)
          obtain ⟨y, hy⟩ : ∃ y, w.pts[j]? = some y := ⟨w.pts[j], List.getElem?_eq_getElem hjl⟩
          have hw := wrap_succ j (by omega)
          cases hp : p_source_2 x y
          · have hp2 : (y.a == x.s) = false := hp
            simp only [go_sem, f2, decide_true, netV, Int.toNat_natCast, Int.natCast_nonneg, List.getElem?_map, List.length_map, hy, rowAgg, avPort, avU, nat_beqb, hp2, hw]
            refine ⟨m - 1, by omega, j + 1, by omega, fun r z hr hz => ?_, rfl⟩
            by_cases hrj : r = j
            · subst hrj; rw [hy] at hz; injection hz with hz; rw [← hz]; exact hp
            · exact hall2 r z (by omega) hz
          · have hp2 : (y.a == x.s) = true := hp
            have hany2 : w.pts.any (p_source_2 x) = true := List.any_eq_true.2 ⟨y, List.mem_of_getElem? hy, hp⟩
            simp only [go_sem, f2, decide_true, netV, Int.toNat_natCast, Int.natCast_nonneg, List.getElem?_map, List.length_map, hy, rowAgg, avPort, avU, nat_beqb, hp2, scOf, lk_len, pt_net, h2, hat, e, h5, hany2, codeN, codeG, Bool.or_true, Bool.true_eq_false]
        · have f2 : ((j : Int) < (w.pts.length : Int)) = False := eq_false (by omega)
          have hany2 : w.pts.any (p_source_2 x) = false := by
            have := any_take_none (p := p_source_2 x) (l := w.pts) (i := j) hall2
            rwa [List.take_of_length_le (by omega)] at this
          simp only [go_sem, f2, decide_false, netV, List.length_map, scOf, lk_len, pt_net, h2, hat, e, h5, hany, hany2, codeN, codeG, Bool.or_self, Bool.true_eq_false, Bool.false_eq_true]
end Go.Proofs.YtbgfkdpjnabhkaaGreatDoor.VL
end

section
set_option maxHeartbeats 4000000
namespace Go.Proofs.YtbgfkdpjnabhkaaGreatDoor.VL
open Go.RowKit Go.Proofs
theorem C_HasU (t : Tok) (e : Nat) (l : List Nat) (a : Nat) (hf : frB t = false) (he : e = 1 ∨ l = []) (hl : l.length < 9223372036854775808) : AC Tryz.prog f_q162 [.sl t e (l.map avU), avU a] (.lit (.bool (l.any fun y => y == a))) := by
  refine ac_q162 ?_ (Nat.le_add_left 2 _)
  simp only [go_sem, c_q162, avU]
  refine aw_loop (fun m E => ∃ k, k + m = l.length ∧ (∀ (j : Nat) (y : Nat), j < k → l[j]? = some y → (y == a) = false) ∧ E = mkE [(0, .sl t e (l.map avU)), (1, avU a), (5, .lit (.int .i64 (k : Nat)))] []) l.length ?_ ?_
  · exact ⟨0, by omega, fun j y hj => absurd hj (Nat.not_lt_zero j), by simp only [go_sem, Int.ofNat_zero, avU]⟩
  · rintro m _ ⟨k, hk, hall, rfl⟩
    by_cases hkl : k < l.length
    · have f1 : ((k : Int) < (l.length : Int)) = True := eq_true (by omega)
      obtain rfl : e = 1 := he.resolve_right (fun h => by rw [h] at hkl; simp at hkl)
      obtain ⟨x, hx⟩ : ∃ x, l[k]? = some x := ⟨l[k], List.getElem?_eq_getElem hkl⟩
      have hw := wrap_succ k (by omega)
      have hr := fun x => avRow_some 1 t (AV.lit x) hf
      cases hp : x == a
      · simp only [go_sem, f1, decide_true, hx, Int.toNat_natCast, Int.natCast_nonneg, List.length_map, List.getElem?_map, Option.map_some, hr, avU, nat_beqb, hp, hw]
        refine ⟨m - 1, by omega, k + 1, by omega, fun j y hj hy => ?_, rfl⟩
        by_cases hjk : j = k
        · subst hjk; rw [hx] at hy; injection hy with hy; rw [← hy]; exact hp
        · exact hall j y (by omega) hy
      · have e : (l.any fun y => y == a) = true := List.any_eq_true.2 ⟨x, List.mem_of_getElem? hx, hp⟩
        simp only [go_sem, f1, decide_true, hx, Int.toNat_natCast, Int.natCast_nonneg, List.length_map, List.getElem?_map, Option.map_some, hr, avU, nat_beqb, hp, e]
    · have f1 : ((k : Int) < (l.length : Int)) = False := eq_false (by omega)
      have e : (l.any fun y => y == a) = false := by
        have := any_take_none (p := fun y => y == a) (l := l) (i := k) hall
        rwa [List.take_of_length_le (by omega)] at this
      simp only [go_sem, f1, decide_false, List.length_map, e]
theorem nodup_of {l : List Nat} (h : ∀ (j y : Nat), l[j]? = some y → ((l.take j).any fun z => z == y) = false) : l.Nodup := by
  rw [List.nodup_iff_pairwise_ne, List.pairwise_iff_getElem]
  intro i j hi hj hij e
  have := h j l[j] (List.getElem?_eq_getElem hj)
  rw [List.any_eq_false] at this
  have hm : l[i] ∈ l.take j := List.mem_iff_getElem.2 ⟨i, by simp; omega, by rw [List.getElem_take]⟩
  exact this _ hm (by simp [e])
theorem not_nodup_of {l : List Nat} {j y : Nat} (hy : l[j]? = some y) (h : ((l.take j).any fun z => z == y) = true) : ¬ l.Nodup := by
  intro hn
  obtain ⟨z, hz, e⟩ := List.any_eq_true.1 h
  obtain ⟨i, hi, e2⟩ := List.mem_iff_getElem.1 hz
  simp only [List.length_take] at hi
  rw [List.getElem_take] at e2
  obtain ⟨h1, h2⟩ := List.getElem?_eq_some_iff.1 hy
  rw [List.nodup_iff_pairwise_ne, List.pairwise_iff_getElem] at hn
  exact hn i j (by omega) h1 (by omega) (by rw [e2, h2]; simpa using e)
theorem R_member (w : NW) (h : w.OK) (i : Nat) (x : NM) (hx : w.mbs[i]? = some x) : AC Tryz.prog f_q110 [.agg (netV w), .lit (.int .i64 (i : Nat))] (.lit (.int .i64 (codeN (mbOf w x)))) := by
  have hi : i < w.mbs.length := (List.getElem?_eq_some_iff.1 hx).1
  have hm : x ∈ w.mbs := List.mem_of_getElem? hx
  have hG := C_rGroup x.g (h.mbg x hm)
  have hsl := h.mbl x hm
  simp only [avU] at hG
  refine ac_q110 ?_ (Nat.le_add_left 2 _)
  simp only [go_sem, c_q110, netV, Int.toNat_natCast, Int.natCast_nonneg, List.getElem?_map, hx, rowAgg, avMb, avU, List.length_map]
  refine callX_of (C_rPlace x.lk w.lks.length) ?_
  cases h2 : placeN x.lk w.lks.length
  · simp only [go_sem, h2, mbOf, codeN, codeG, Bool.not_false]
  simp only [go_sem, Bool.not_true]
  refine callX_of hG ?_
  simp only [go_sem]
  have step : ∀ (k a : Nat), x.src[k]? = some a → (!groupN x.g || (x.src.take (k + 1)).any fun a => !hostN a) = ((!groupN x.g || (x.src.take k).any fun a => !hostN a) || !hostN a) := by
    intro k a ha
    rw [List.take_add_one, ha, List.any_append]
    simp [Bool.or_assoc]
  refine aw_loop (fun m E => ∃ k : Nat, k + m = x.src.length ∧ E = mkE [(5, .lp 5 0), (6, .lit (.bool (!groupN x.g || (x.src.take k).any fun a => !hostN a))), (7, .lit (.int .i64 (k : Nat)))] [(2, netV w), (5, [.lit (.int .i64 x.lk), avU x.g, .lit (.bool x.only), .sl .none 1 (x.src.map avU)])]) x.src.length ?_ ?_
  · exact ⟨0, by omega, by simp only [go_sem, Int.natCast_zero, List.take_zero, List.any_nil]; rfl⟩
  · rintro m _ ⟨k, hk, rfl⟩
    by_cases hkl : k < x.src.length
    · have f1 : ((k : Int) < (x.src.length : Int)) = True := eq_true (by omega)
      obtain ⟨a, ha⟩ : ∃ a, x.src[k]? = some a := ⟨x.src[k], List.getElem?_eq_getElem hkl⟩
      have hw := wrap_succ k (by omega)
      have hr := fun x => avRow_some 1 .none (AV.lit x) rfl
      have hA := C_rGroup a (h.mbs x hm a (List.mem_of_getElem? ha))
      simp only [avU] at hA
      have hs := step k a ha
      generalize hb : (!groupN x.g || (x.src.take k).any fun a => !hostN a) = b at hs
      have next : ∀ b', b' = (b || !hostN a) → mkE [(5, .lp 5 0), (6, .lit (.bool b')), (7, .lit (.int .i64 ((k + 1 : Nat) : Int)))] [(2, netV w), (5, [.lit (.int .i64 x.lk), avU x.g, .lit (.bool x.only), .sl .none 1 (x.src.map avU)])] = mkE [(5, .lp 5 0), (6, .lit (.bool (!groupN x.g || (x.src.take (k + 1)).any fun a => !hostN a))), (7, .lit (.int .i64 ((k + 1 : Nat) : Int)))] [(2, netV w), (5, [.lit (.int .i64 x.lk), avU x.g, .lit (.bool x.only), .sl .none 1 (x.src.map avU)])] := fun b' e => by rw [hs, e]
      cases b with
      | true =>
        simp only [go_sem, f1, decide_true, List.length_map, hw]
        exact ⟨m - 1, by omega, k + 1, by omega, next true rfl⟩
      | false =>
        simp only [go_sem, f1, decide_true, List.length_map, Int.toNat_natCast, Int.natCast_nonneg, List.getElem?_map, ha, Option.map_some, hr, avU, hw]
        refine callX_of hA ?_
        cases hg : groupN a
        · simp only [go_sem, List.length_map, Int.toNat_natCast, Int.natCast_nonneg, List.getElem?_map, ha, Option.map_some, hr, avU, nb0, hw]
          exact ⟨m - 1, by omega, k + 1, by omega, next (a == 0) (by simp only [hostN, hg]; cases a == 0 <;> rfl)⟩
        · simp only [go_sem, hw]
          exact ⟨m - 1, by omega, k + 1, by omega, next true (by simp only [hostN, hg]; cases a == 0 <;> rfl)⟩
    · obtain rfl : k = x.src.length := by omega
      have f1 : ((x.src.length : Int) < (x.src.length : Int)) = False := eq_false (by omega)
      rw [List.take_length]
      cases hb : (!groupN x.g || x.src.any fun a => !hostN a)
      case true => simp only [go_sem, f1, decide_false, List.length_map, mbOf, h2, hb, codeN, codeG, Bool.true_eq_false]
      by_cases h5 : 4 < x.src.length
      · have f5 : (4 < (x.src.length : Int)) = True := eq_true (by omega)
        simp only [go_sem, f1, f5, decide_false, decide_true, List.length_map, mbOf, h2, hb, h5, codeN, codeG, Bool.true_eq_false, Bool.false_eq_true]
      have f5 : (4 < (x.src.length : Int)) = False := eq_false (by omega)
      simp only [go_sem, f1, f5, decide_false, List.length_map]
      refine aw_loop (fun m E => ∃ k : Nat, k + m = x.src.length ∧ (∀ (j y : Nat), j < k → x.src[j]? = some y → ((x.src.take j).any fun z => z == y) = false) ∧ E = mkE [(5, .lp 5 0), (8, .lit (.int .i64 (k : Nat)))] [(2, netV w), (5, [.lit (.int .i64 x.lk), avU x.g, .lit (.bool x.only), .sl .none 1 (x.src.map avU)])]) x.src.length ?_ ?_
      · exact ⟨0, by omega, fun j y hj => absurd hj (Nat.not_lt_zero j), by simp only [go_sem, Int.natCast_zero]⟩
      · rintro m _ ⟨k, hk, hall, rfl⟩
        by_cases hkl : k < x.src.length
        · have f2 : ((k : Int) < (x.src.length : Int)) = True := eq_true (by omega)
          obtain ⟨a, ha⟩ : ∃ a, x.src[k]? = some a := ⟨x.src[k], List.getElem?_eq_getElem hkl⟩
          have hw := wrap_succ k (by omega)
          have hr := fun x => avRow_some 1 .none (AV.lit x) rfl
          have sl1 := headSl avU 1 x.src k (by omega)
          have hH := C_HasU .none 1 (x.src.take k) a rfl (.inl rfl) (by rw [List.length_take]; omega)
          simp only [avU] at hH
          simp only [go_sem, f2, decide_true, List.length_map, Int.toNat_natCast, Int.natCast_nonneg, List.getElem?_map, ha, Option.map_some, hr, avU, sl1]
          refine callX_of hH ?_
          cases hp : (x.src.take k).any fun y => y == a
          · simp only [go_sem, hw]
            refine ⟨m - 1, by omega, k + 1, by omega, fun j y hj hy => ?_, rfl⟩
            by_cases hjk : j = k
            · subst hjk; rw [ha] at hy; injection hy with hy; rw [← hy]; exact hp
            · exact hall j y (by omega) hy
          · have hn := not_nodup_of ha hp
            simp only [go_sem, mbOf, h2, hb, h5, hn, codeN, codeG, decide_false, Bool.true_eq_false, Bool.false_eq_true]
        · have f2 : ((k : Int) < (x.src.length : Int)) = False := eq_false (by omega)
          have hn : x.src.Nodup := nodup_of fun j y hy => hall j y (by have := (List.getElem?_eq_some_iff.1 hy).1; omega) hy
          simp only [go_sem, f2, decide_false, List.length_map, mbOf, h2, hb, h5, hn, codeN, codeG, decide_true, Bool.true_eq_false, Bool.false_eq_true]
theorem one_net (w : NW) : (netV w).all AV.one = true := rfl
theorem len_net (w : NW) : (netV w).length = 7 := rfl
theorem take_net (w : NW) : (netV w).take 7 = netV w := rfl
theorem R_valid (w : NW) (h : w.OK) (k i : Nat) (hk : k < 7) (hi : i < lenN w k) : AC Tryz.prog f_q63 [.agg (netV w), .lit (.int .i64 (k : Nat)), .lit (.int .i64 (i : Nat))] (.lit (.int .i64 (codeN (vAt w k i)))) := by
  refine ac_q63 ?_ (Nat.le_add_left 3 _)
  have cc : ∀ n : Nat, ((k : Int) == (n : Int)) = (k == n) := fun n => nat_beqb k n
  match k, hk, hi with
  | 0, _, hi =>
    have e := List.getElem?_eq_getElem (show i < w.rts.length from hi)
    have hC := R_router w h i _ e
    simp only [go_sem, c_q63, show (((0 : Nat) : Int) == 0) = true from rfl, low_net, one_net, len_net, take_net, Nat.le_refl]
    refine callX_of hC ?_
    simp only [go_sem, vAt, e, Option.bind_some]
  | 1, _, hi =>
    have e := List.getElem?_eq_getElem (show i < w.lks.length from hi)
    have hC := R_link w h i _ e
    simp only [go_sem, c_q63, show (((1 : Nat) : Int) == 0) = false from rfl, show (((1 : Nat) : Int) == 1) = true from rfl, low_net, one_net, len_net, take_net, Nat.le_refl]
    refine callX_of hC ?_
    simp only [go_sem, vAt, e, Option.bind_some]
  | 2, _, hi =>
    have e := List.getElem?_eq_getElem (show i < w.pts.length from hi)
    have hC := R_port w h i _ e
    simp only [go_sem, c_q63, show (((2 : Nat) : Int) == 0) = false from rfl, show (((2 : Nat) : Int) == 1) = false from rfl, show (((2 : Nat) : Int) == 2) = true from rfl, low_net, one_net, len_net, take_net, Nat.le_refl]
    refine callX_of hC ?_
    simp only [go_sem, vAt, e, Option.bind_some]
  | 3, _, hi =>
    have e := List.getElem?_eq_getElem (show i < w.ros.length from hi)
    have hC := R_route w h i _ e
    simp only [go_sem, c_q63, show (((3 : Nat) : Int) == 0) = false from rfl, show (((3 : Nat) : Int) == 1) = false from rfl, show (((3 : Nat) : Int) == 2) = false from rfl, show (((3 : Nat) : Int) == 3) = true from rfl, low_net, one_net, len_net, take_net, Nat.le_refl]
    refine callX_of hC ?_
    simp only [go_sem, vAt, e, Option.bind_some]
  | 4, _, hi =>
    have e := List.getElem?_eq_getElem (show i < w.rgs.length from hi)
    have hC := R_groups w h i _ e
    simp only [go_sem, c_q63, show (((4 : Nat) : Int) == 0) = false from rfl, show (((4 : Nat) : Int) == 1) = false from rfl, show (((4 : Nat) : Int) == 2) = false from rfl, show (((4 : Nat) : Int) == 3) = false from rfl, show (((4 : Nat) : Int) == 4) = true from rfl, low_net, one_net, len_net, take_net, Nat.le_refl]
    refine callX_of hC ?_
    simp only [go_sem, vAt, e, Option.bind_some]
  | 5, _, hi =>
    have e := List.getElem?_eq_getElem (show i < w.scs.length from hi)
    have hC := R_source w h i _ e
    simp only [go_sem, c_q63, show (((5 : Nat) : Int) == 0) = false from rfl, show (((5 : Nat) : Int) == 1) = false from rfl, show (((5 : Nat) : Int) == 2) = false from rfl, show (((5 : Nat) : Int) == 3) = false from rfl, show (((5 : Nat) : Int) == 4) = false from rfl, show (((5 : Nat) : Int) == 5) = true from rfl, low_net, one_net, len_net, take_net, Nat.le_refl]
    refine callX_of hC ?_
    simp only [go_sem, vAt, e, Option.bind_some]
  | 6, _, hi =>
    have e := List.getElem?_eq_getElem (show i < w.mbs.length from hi)
    have hC := R_member w h i _ e
    simp only [go_sem, c_q63, show (((6 : Nat) : Int) == 0) = false from rfl, show (((6 : Nat) : Int) == 1) = false from rfl, show (((6 : Nat) : Int) == 2) = false from rfl, show (((6 : Nat) : Int) == 3) = false from rfl, show (((6 : Nat) : Int) == 4) = false from rfl, show (((6 : Nat) : Int) == 5) = false from rfl, low_net, one_net, len_net, take_net, Nat.le_refl]
    refine callX_of hC ?_
    simp only [go_sem, vAt, e, Option.bind_some]
def lensV (w : NW) : List AV := [.lit (.int .i64 (w.rts.length : Nat)), .lit (.int .i64 (w.lks.length : Nat)), .lit (.int .i64 (w.pts.length : Nat)), .lit (.int .i64 (w.ros.length : Nat)), .lit (.int .i64 (w.rgs.length : Nat)), .lit (.int .i64 (w.scs.length : Nat)), .lit (.int .i64 (w.mbs.length : Nat))]
def mostsV : List AV := [.lit (.int .i64 16), .lit (.int .i64 24), .lit (.int .i64 64), .lit (.int .i64 96), .lit (.int .i64 8), .lit (.int .i64 8), .lit (.int .i64 24)]
theorem lensV_get (w : NW) (k : Nat) (h : k < 7) : (lensV w)[k]? = some (.lit (.int .i64 (lenN w k : Nat))) := by
  match k, h with
  | 0, _ => rfl
  | 1, _ => rfl
  | 2, _ => rfl
  | 3, _ => rfl
  | 4, _ => rfl
  | 5, _ => rfl
  | 6, _ => rfl
  | k + 7, h => omega
theorem mostsV_get (k : Nat) (h : k < 7) : mostsV[k]? = some (.lit (.int .i64 (mostN k : Nat))) := by
  match k, h with
  | 0, _ => rfl
  | 1, _ => rfl
  | 2, _ => rfl
  | 3, _ => rfl
  | 4, _ => rfl
  | 5, _ => rfl
  | 6, _ => rfl
  | k + 7, h => omega
theorem R_sizes (w : NW) : AC Tryz.prog f_q62 [.agg (netV w)] (.tup [.agg (lensV w), .agg mostsV]) := by
  refine ac_q62 ?_ (Nat.le_add_left 1 _)
  simp only [go_sem, c_q62, netV, List.length_map]
  rfl
theorem ld_drop (l : List AV) (k : Nat) : aval.ld false 1 (l.drop k) = l[k]? := by simp [aval.ld]
theorem codeG_ne (g : Nat) : (codeG g != 0) = true := by
  unfold codeG
  split <;> rfl
theorem R_Valid (w : NW) (h : w.OK) : AC Tryz.prog f_q18 [.agg (netV w)] (.lit (.int .i64 (codeN (vNet w)))) := by
  refine ac_q18 ?_ (Nat.le_add_left 1 _)
  simp only [go_sem, c_q18, low_net, one_net, len_net, take_net, Nat.le_refl]
  refine callX_of (R_sizes w) ?_
  have g1 : (lensV w).all AV.one = true := rfl
  have g2 : mostsV.all AV.one = true := rfl
  have g3 : (lensV w).length = 7 := rfl
  have g4 : mostsV.length = 7 := rfl
  have g5 : ∀ d, retagL d (lensV w) = lensV w := fun _ => rfl
  have g6 : ∀ d, retagL d mostsV = mostsV := fun _ => rfl
  simp only [go_sem, g1, g2, g3, g4, g5, g6]
  refine aw_loop (fun m E => ∃ k : Nat, k + m = 7 ∧ scanK w m k = vNet w ∧ E = mkE [(1, .lp 1 0), (3, .lp 3 0), (4, .lp 4 0), (5, .lit (.int .i64 (k : Nat)))] [(1, netV w), (3, lensV w), (4, mostsV)]) 7 ?_ ?_
  · exact ⟨0, rfl, rfl, by simp only [go_sem]; rfl⟩
  · rintro m _ ⟨k, hk, hs, rfl⟩
    by_cases hk7 : k < 7
    · have f1 : ((k : Int) < 7) = True := eq_true (by omega)
      have hw := wrap_succ k (by omega)
      obtain ⟨m, rfl⟩ : ∃ m', m = m' + 1 := ⟨m - 1, by omega⟩
      have hlen := lenN_lt w h k
      simp only [go_sem, f1, decide_true]
      refine aw_loop (fun q E => ∃ i : Nat, i + q = lenN w k ∧ vList w k i = vList w k 0 ∧ E = mkE [(1, .lp 1 0), (3, .lp 3 0), (4, .lp 4 0), (5, .lit (.int .i64 (k : Nat))), (6, .lit (.int .i64 (i : Nat)))] [(1, netV w), (3, lensV w), (4, mostsV)]) (lenN w k) ?_ ?_
      · exact ⟨0, by omega, rfl, by simp only [go_sem, Int.natCast_zero]⟩
      · rintro q _ ⟨i, hi, hvi, rfl⟩
        have l1 : aval.ld false 1 ((lensV w).drop k) = _ := (ld_drop _ _).trans (lensV_get w k hk7)
        have l2 : aval.ld false 1 (mostsV.drop k) = _ := (ld_drop _ _).trans (mostsV_get k hk7)
        have f7 : ((k : Int) < ((7 : Nat) : Int)) = True := eq_true (by omega)
        by_cases hil : i < lenN w k
        · have f2 : ((i : Int) < (lenN w k : Int)) = True := eq_true (by omega)
          have hw2 := wrap_succ i (by omega)
          have hC := R_valid w h k i hk7 hil
          by_cases hm : mostN k ≤ i
          · have f3 : ((mostN k : Int) ≤ (i : Int)) = True := eq_true (by omega)
            have e : vNet w = some 0 := by rw [← hs]; exact scanK_hit w k m _ (by rw [← hvi]; exact vList_many w k i hil hm)
            simp only [go_sem, f1, f7, f2, f3, decide_true, l1, l2, Int.toNat_natCast, Int.natCast_nonneg, Nat.mul_one, Nat.zero_add, e, codeN, codeG]
          · have f3 : ((mostN k : Int) ≤ (i : Int)) = False := eq_false (by omega)
            simp only [go_sem, f1, f7, f2, f3, decide_true, decide_false, l1, l2, Int.toNat_natCast, Int.natCast_nonneg, Nat.mul_one, Nat.zero_add, low_net, one_net, len_net, take_net, Nat.le_refl]
            refine callX_of hC ?_
            cases hva : vAt w k i with
            | some g =>
              have e : vNet w = some g := by rw [← hs]; exact scanK_hit w k m _ (by rw [← hvi]; exact vList_some w k i g hil (by omega) hva)
              have hne := codeG_ne g
              simp only [go_sem, codeN, e, hne]
            | none =>
              simp only [go_sem, codeN, b000, hw2]
              exact ⟨q - 1, by omega, i + 1, by omega, by rw [← hvi]; exact (vList_none w k i hil (by omega) hva).symm, rfl⟩
        · have f2 : ((i : Int) < (lenN w k : Int)) = False := eq_false (by omega)
          simp only [go_sem, f1, f7, f2, decide_true, decide_false, l1, Int.toNat_natCast, Int.natCast_nonneg, Nat.mul_one, Nat.zero_add, hw]
          exact ⟨m, by omega, k + 1, by omega, by rw [← hs]; exact (scanK_go w k m (by rw [← hvi]; exact vList_end w k i (by omega))).symm, rfl⟩
    · have f1 : ((k : Int) < 7) = False := eq_false (by omega)
      obtain rfl : m = 0 := by omega
      rw [← hs]
      simp only [go_sem, f1, decide_false, scanK, codeN]
end Go.Proofs.YtbgfkdpjnabhkaaGreatDoor.VL
end

section
set_option maxHeartbeats 4000000
namespace Go.Proofs.YtbgfkdpjnabhkaaGreatDoor.VL
open Go.RowKit Go.Proofs
def lightN (w : NW) (r : Nat) : Bool := decide (w.rts.length ≤ r) && (decide (w.lks.length ≤ 12) && (decide (w.pts.length ≤ 24) && (decide (w.ros.length ≤ 30) && (decide (w.rgs.length ≤ 4) && (decide (w.scs.length ≤ 5) && (decide (w.mbs.length ≤ 10) && (vNet w).isNone))))))
structure LightOK (w : NW) (r : Nat) : Prop where
  l1 : w.rts.length ≤ r
  l2 : w.lks.length ≤ 12
  l3 : w.pts.length ≤ 24
  l4 : w.ros.length ≤ 30
  l5 : w.rgs.length ≤ 4
  l6 : w.scs.length ≤ 5
  l7 : w.mbs.length ≤ 10
  v : vNet w = none
theorem lightN_iff {w : NW} {r : Nat} : lightN w r = true ↔ LightOK w r := by
  simp only [lightN, Bool.and_eq_true, decide_eq_true_eq, Option.isNone_iff_eq_none]
  exact ⟨fun ⟨a, b, c, d, e, f, g, i⟩ => ⟨a, b, c, d, e, f, g, i⟩, fun ⟨a, b, c, d, e, f, g, i⟩ => ⟨a, b, c, d, e, f, g, i⟩⟩
theorem C_Light (w : NW) (h : w.OK) (r : Nat) : AC Tryz.prog f_q8 [.agg (netV w), .lit (.int .i64 (r : Nat))] (.lit (.bool (lightN w r))) := by
  refine ac_q8 ?_ (Nat.le_add_left 2 _)
  by_cases a1 : w.rts.length ≤ r
  case neg =>
    have f1 : ((w.rts.length : Int) ≤ (r : Int)) = False := eq_false (by omega)
    simp only [go_sem, c_q8, netV, List.length_map, f1, decide_false, lightN, a1, Bool.false_and]
  have f1 : ((w.rts.length : Int) ≤ (r : Int)) = True := eq_true (by omega)
  by_cases a2 : w.lks.length ≤ 12
  case neg =>
    have f2 : ((w.lks.length : Int) ≤ 12) = False := eq_false (by omega)
    simp only [go_sem, c_q8, netV, List.length_map, f1, f2, decide_true, decide_false, lightN, a1, a2, Bool.false_and, Bool.true_and]
  have f2 : ((w.lks.length : Int) ≤ 12) = True := eq_true (by omega)
  by_cases a3 : w.pts.length ≤ 24
  case neg =>
    have f3 : ((w.pts.length : Int) ≤ 24) = False := eq_false (by omega)
    simp only [go_sem, c_q8, netV, List.length_map, f1, f2, f3, decide_true, decide_false, lightN, a1, a2, a3, Bool.false_and, Bool.true_and]
  have f3 : ((w.pts.length : Int) ≤ 24) = True := eq_true (by omega)
  by_cases a4 : w.ros.length ≤ 30
  case neg =>
    have f4 : ((w.ros.length : Int) ≤ 30) = False := eq_false (by omega)
    simp only [go_sem, c_q8, netV, List.length_map, f1, f2, f3, f4, decide_true, decide_false, lightN, a1, a2, a3, a4, Bool.false_and, Bool.true_and]
  have f4 : ((w.ros.length : Int) ≤ 30) = True := eq_true (by omega)
  by_cases a5 : w.rgs.length ≤ 4
  case neg =>
    have f5 : ((w.rgs.length : Int) ≤ 4) = False := eq_false (by omega)
    simp only [go_sem, c_q8, netV, List.length_map, f1, f2, f3, f4, f5, decide_true, decide_false, lightN, a1, a2, a3, a4, a5, Bool.false_and, Bool.true_and]
  have f5 : ((w.rgs.length : Int) ≤ 4) = True := eq_true (by omega)
  by_cases a6 : w.scs.length ≤ 5
  case neg =>
    have f6 : ((w.scs.length : Int) ≤ 5) = False := eq_false (by omega)
    simp only [go_sem, c_q8, netV, List.length_map, f1, f2, f3, f4, f5, f6, decide_true, decide_false, lightN, a1, a2, a3, a4, a5, a6, Bool.false_and, Bool.true_and]
  have f6 : ((w.scs.length : Int) ≤ 5) = True := eq_true (by omega)
  by_cases a7 : w.mbs.length ≤ 10
  case neg =>
    have f7 : ((w.mbs.length : Int) ≤ 10) = False := eq_false (by omega)
    simp only [go_sem, c_q8, netV, List.length_map, f1, f2, f3, f4, f5, f6, f7, decide_true, decide_false, lightN, a1, a2, a3, a4, a5, a6, a7, Bool.false_and, Bool.true_and]
  have f7 : ((w.mbs.length : Int) ≤ 10) = True := eq_true (by omega)
  have hV := R_Valid w h
  simp only [netV] at hV
  simp only [go_sem, c_q8, netV, List.length_map, f1, f2, f3, f4, f5, f6, f7, decide_true]
  refine callX_of hV ?_
  have e : (codeN (vNet w) == 0) = (vNet w).isNone := by
    cases hv : vNet w with
    | none => rfl
    | some g =>
      have := codeG_ne g
      simp only [codeN, Option.isNone_some]
      rw [bne, Bool.not_eq_true'] at this
      exact this
  simp only [go_sem, e, lightN, a1, a2, a3, a4, a5, a6, a7, decide_true, Bool.true_and]
end Go.Proofs.YtbgfkdpjnabhkaaGreatDoor.VL
end

