/-
  DERIVED. GIVEN WITH THE SEED: THE PROGRAM's TIES (one call each: nine closed facts by the kernel) AND EACH ROW's TIE, after the 31st guide's Derived/Test/Toyas{Tie, Card}.lean. No idea stands in it: it is a product of the set-up. Laid BY PROGRAM, IN A SANDBOX (cutbox-door.mjs). By AI agents, Wed Nov 11 2026. No macro, syntax, notation, axiom, sorry.
-/
import Derived.Test.YtnndbbmidoidpaaGreatDoorRows
import Derived.LaidByTextLater
import Derived.SevenTiedAt
import Derived.LaidSub
import Derived.LaidOnce
namespace Go.Proofs.YtnndbbmidoidpaaGreatDoor
open Go
set_option maxRecDepth 100000
theorem seatTie1 : Tryz.prog.laidByTextLater [("math/bits.deBruijn32tab", Rows.laid_math_bits_deBruijn32tab), ("math/bits.deBruijn64tab", Rows.laid_math_bits_deBruijn64tab), ("internal/strconv.uint64pow10", Rows.laid_internal_strconv_uint64pow10), ("unicode/utf8.acceptRanges", Rows.laid_unicode_utf8_acceptRanges), ("strconv.ErrRange", Rows.laid_strconv_ErrRange), ("strconv.ErrSyntax", Rows.laid_strconv_ErrSyntax), ("rivulet/api.ErrEnd", Rows.laid_rivulet_api_ErrEnd), ("rivulet/api.ErrShape", Rows.laid_rivulet_api_ErrShape), ("rivulet/api.ErrRange", Rows.laid_rivulet_api_ErrRange), ("rivulet/api.ErrMany", Rows.laid_rivulet_api_ErrMany), ("rivulet/api.ErrSum", Rows.laid_rivulet_api_ErrSum), ("rivulet/api.ErrWord", Rows.laid_rivulet_api_ErrWord), ("rivulet/api.ErrNumber", Rows.laid_rivulet_api_ErrNumber), ("rivulet/api.ErrAddr", Rows.laid_rivulet_api_ErrAddr), ("rivulet/api.ErrName", Rows.laid_rivulet_api_ErrName), ("rivulet/api.ErrTwice", Rows.laid_rivulet_api_ErrTwice), ("rivulet/api.ErrNone", Rows.laid_rivulet_api_ErrNone), ("rivulet/api.ErrAway", Rows.laid_rivulet_api_ErrAway), ("rivulet/api.ErrKind", Rows.laid_rivulet_api_ErrKind), ("rivulet/api.ErrDeep", Rows.laid_rivulet_api_ErrDeep)] [.data, .data, .data, .data, .sentinel, .sentinel, .sentinel, .sentinel, .sentinel, .sentinel, .sentinel, .sentinel, .sentinel, .sentinel, .sentinel, .sentinel, .sentinel, .sentinel, .sentinel, .sentinel] true :=
  Program.laidByTextLater_by_one 338 8 65 (by kernel_rfl) (by kernel_rfl) (by kernel_rfl) (by kernel_rfl) (by kernel_rfl) (by kernel_rfl) (fun _ _ => by kernel_rfl)
theorem pin_laid_unicode_utf8_first : Tryz.pinned.checked.prog.pinnedFits "unicode/utf8.first" = true := by kernel_rfl
theorem noOwnUnsafe : Tryz.pinned.checked.prog.headLifts.contains "ownunsafe" = false := by kernel_rfl
theorem tie : Tryz.prog.laidByTextLater [("rivulet/api.ErrEnd", Rows.laid_rivulet_api_ErrEnd), ("rivulet/api.ErrShape", Rows.laid_rivulet_api_ErrShape), ("rivulet/api.ErrRange", Rows.laid_rivulet_api_ErrRange), ("rivulet/api.ErrMany", Rows.laid_rivulet_api_ErrMany), ("rivulet/api.ErrSum", Rows.laid_rivulet_api_ErrSum), ("rivulet/api.ErrWord", Rows.laid_rivulet_api_ErrWord), ("rivulet/api.ErrNumber", Rows.laid_rivulet_api_ErrNumber), ("rivulet/api.ErrAddr", Rows.laid_rivulet_api_ErrAddr), ("rivulet/api.ErrName", Rows.laid_rivulet_api_ErrName), ("rivulet/api.ErrTwice", Rows.laid_rivulet_api_ErrTwice), ("rivulet/api.ErrNone", Rows.laid_rivulet_api_ErrNone), ("rivulet/api.ErrAway", Rows.laid_rivulet_api_ErrAway), ("rivulet/api.ErrKind", Rows.laid_rivulet_api_ErrKind), ("rivulet/api.ErrDeep", Rows.laid_rivulet_api_ErrDeep)] [.sentinel, .sentinel, .sentinel, .sentinel, .sentinel, .sentinel, .sentinel, .sentinel, .sentinel, .sentinel, .sentinel, .sentinel, .sentinel, .sentinel] true :=
  Program.laidByTextLater.sub seatTie1 ["rivulet/api.ErrEnd", "rivulet/api.ErrShape", "rivulet/api.ErrRange", "rivulet/api.ErrMany", "rivulet/api.ErrSum", "rivulet/api.ErrWord", "rivulet/api.ErrNumber", "rivulet/api.ErrAddr", "rivulet/api.ErrName", "rivulet/api.ErrTwice", "rivulet/api.ErrNone", "rivulet/api.ErrAway", "rivulet/api.ErrKind", "rivulet/api.ErrDeep"] (by kernel_rfl) (by kernel_rfl)
theorem topoSays_row_tie : Rows.topoSaysRow.laidByTextAt .later Tryz.pinned [.sentinel, .sentinel, .sentinel, .sentinel, .sentinel, .sentinel, .sentinel, .sentinel, .sentinel, .sentinel, .sentinel, .sentinel, .sentinel, .sentinel] true :=
  OpenClaim.laidByTextAt_later rfl rfl tie noOwnUnsafe
theorem fits2 : Tryz.pinned.checked.prog.listedFits [("math/bits.deBruijn32tab", Rows.laid_math_bits_deBruijn32tab), ("math/bits.deBruijn64tab", Rows.laid_math_bits_deBruijn64tab), ("internal/strconv.uint64pow10", Rows.laid_internal_strconv_uint64pow10), ("unicode/utf8.acceptRanges", Rows.laid_unicode_utf8_acceptRanges), ("strconv.ErrRange", Rows.laid_strconv_ErrRange), ("strconv.ErrSyntax", Rows.laid_strconv_ErrSyntax), ("rivulet/api.ErrEnd", Rows.laid_rivulet_api_ErrEnd), ("rivulet/api.ErrShape", Rows.laid_rivulet_api_ErrShape), ("rivulet/api.ErrRange", Rows.laid_rivulet_api_ErrRange), ("rivulet/api.ErrMany", Rows.laid_rivulet_api_ErrMany), ("rivulet/api.ErrSum", Rows.laid_rivulet_api_ErrSum), ("rivulet/api.ErrWord", Rows.laid_rivulet_api_ErrWord), ("rivulet/api.ErrNumber", Rows.laid_rivulet_api_ErrNumber), ("rivulet/api.ErrAddr", Rows.laid_rivulet_api_ErrAddr), ("rivulet/api.ErrName", Rows.laid_rivulet_api_ErrName), ("rivulet/api.ErrTwice", Rows.laid_rivulet_api_ErrTwice), ("rivulet/api.ErrNone", Rows.laid_rivulet_api_ErrNone), ("rivulet/api.ErrAway", Rows.laid_rivulet_api_ErrAway), ("rivulet/api.ErrKind", Rows.laid_rivulet_api_ErrKind), ("rivulet/api.ErrDeep", Rows.laid_rivulet_api_ErrDeep), ("unicode/utf8.first", Rows.laid_unicode_utf8_first)] = true := by
  unfold Program.listedFits
  rw [noOwnUnsafe]
  kernel_rfl
theorem tie2 : Tryz.prog.laidByTextLater [("math/bits.deBruijn32tab", Rows.laid_math_bits_deBruijn32tab), ("math/bits.deBruijn64tab", Rows.laid_math_bits_deBruijn64tab), ("internal/strconv.uint64pow10", Rows.laid_internal_strconv_uint64pow10), ("unicode/utf8.acceptRanges", Rows.laid_unicode_utf8_acceptRanges), ("strconv.ErrRange", Rows.laid_strconv_ErrRange), ("strconv.ErrSyntax", Rows.laid_strconv_ErrSyntax), ("rivulet/api.ErrEnd", Rows.laid_rivulet_api_ErrEnd), ("rivulet/api.ErrShape", Rows.laid_rivulet_api_ErrShape), ("rivulet/api.ErrRange", Rows.laid_rivulet_api_ErrRange), ("rivulet/api.ErrMany", Rows.laid_rivulet_api_ErrMany), ("rivulet/api.ErrSum", Rows.laid_rivulet_api_ErrSum), ("rivulet/api.ErrWord", Rows.laid_rivulet_api_ErrWord), ("rivulet/api.ErrNumber", Rows.laid_rivulet_api_ErrNumber), ("rivulet/api.ErrAddr", Rows.laid_rivulet_api_ErrAddr), ("rivulet/api.ErrName", Rows.laid_rivulet_api_ErrName), ("rivulet/api.ErrTwice", Rows.laid_rivulet_api_ErrTwice), ("rivulet/api.ErrNone", Rows.laid_rivulet_api_ErrNone), ("rivulet/api.ErrAway", Rows.laid_rivulet_api_ErrAway), ("rivulet/api.ErrKind", Rows.laid_rivulet_api_ErrKind), ("rivulet/api.ErrDeep", Rows.laid_rivulet_api_ErrDeep)] [.data, .data, .data, .data, .sentinel, .sentinel, .sentinel, .sentinel, .sentinel, .sentinel, .sentinel, .sentinel, .sentinel, .sentinel, .sentinel, .sentinel, .sentinel, .sentinel, .sentinel, .sentinel] true :=
  Program.laidByTextLater.sub seatTie1 ["math/bits.deBruijn32tab", "math/bits.deBruijn64tab", "internal/strconv.uint64pow10", "unicode/utf8.acceptRanges", "strconv.ErrRange", "strconv.ErrSyntax", "rivulet/api.ErrEnd", "rivulet/api.ErrShape", "rivulet/api.ErrRange", "rivulet/api.ErrMany", "rivulet/api.ErrSum", "rivulet/api.ErrWord", "rivulet/api.ErrNumber", "rivulet/api.ErrAddr", "rivulet/api.ErrName", "rivulet/api.ErrTwice", "rivulet/api.ErrNone", "rivulet/api.ErrAway", "rivulet/api.ErrKind", "rivulet/api.ErrDeep"] (by kernel_rfl) (by kernel_rfl)
theorem confWrong_row_tie : Rows.confWrongRow.laidByTextAt .later Tryz.pinned [.data, .data, .data, .data, .sentinel, .sentinel, .sentinel, .sentinel, .sentinel, .sentinel, .sentinel, .sentinel, .sentinel, .sentinel, .sentinel, .sentinel, .sentinel, .sentinel, .sentinel, .sentinel, .pinned] true :=
  OpenClaim.laidByTextAt_pinned rfl rfl tie2 rfl rfl rfl rfl (fun y hy _e => by
    simp only [Rows.confWrongRow, List.zip_cons_cons, List.zip_nil_right, List.mem_cons, List.mem_nil_iff, or_false] at hy
    rcases hy with rfl | rfl | rfl | rfl | rfl | rfl | rfl | rfl | rfl | rfl | rfl | rfl | rfl | rfl | rfl | rfl | rfl | rfl | rfl | rfl | rfl
    · cases _e
    · cases _e
    · cases _e
    · cases _e
    · cases _e
    · cases _e
    · cases _e
    · cases _e
    · cases _e
    · cases _e
    · cases _e
    · cases _e
    · cases _e
    · cases _e
    · cases _e
    · cases _e
    · cases _e
    · cases _e
    · cases _e
    · cases _e
    · exact ⟨pin_laid_unicode_utf8_first, by kernel_rfl⟩) fits2
theorem confMany_row_tie : Rows.confManyRow.laidByTextAt .later Tryz.pinned [.data, .data, .data, .data, .sentinel, .sentinel, .sentinel, .sentinel, .sentinel, .sentinel, .sentinel, .sentinel, .sentinel, .sentinel, .sentinel, .sentinel, .sentinel, .sentinel, .sentinel, .sentinel, .pinned] true :=
  OpenClaim.laidByTextAt_pinned rfl rfl tie2 rfl rfl rfl rfl (fun y hy _e => by
    simp only [Rows.confManyRow, List.zip_cons_cons, List.zip_nil_right, List.mem_cons, List.mem_nil_iff, or_false] at hy
    rcases hy with rfl | rfl | rfl | rfl | rfl | rfl | rfl | rfl | rfl | rfl | rfl | rfl | rfl | rfl | rfl | rfl | rfl | rfl | rfl | rfl | rfl
    · cases _e
    · cases _e
    · cases _e
    · cases _e
    · cases _e
    · cases _e
    · cases _e
    · cases _e
    · cases _e
    · cases _e
    · cases _e
    · cases _e
    · cases _e
    · cases _e
    · cases _e
    · cases _e
    · cases _e
    · cases _e
    · cases _e
    · cases _e
    · exact ⟨pin_laid_unicode_utf8_first, by kernel_rfl⟩) fits2
theorem fits3 : Tryz.pinned.checked.prog.listedFits [("math/bits.deBruijn32tab", Rows.laid_math_bits_deBruijn32tab), ("math/bits.deBruijn64tab", Rows.laid_math_bits_deBruijn64tab), ("internal/strconv.uint64pow10", Rows.laid_internal_strconv_uint64pow10), ("unicode/utf8.acceptRanges", Rows.laid_unicode_utf8_acceptRanges), ("strconv.ErrRange", Rows.laid_strconv_ErrRange), ("strconv.ErrSyntax", Rows.laid_strconv_ErrSyntax), ("rivulet/api.ErrRange", Rows.laid_rivulet_api_ErrRange), ("rivulet/api.ErrMany", Rows.laid_rivulet_api_ErrMany), ("rivulet/api.ErrWord", Rows.laid_rivulet_api_ErrWord), ("rivulet/api.ErrNumber", Rows.laid_rivulet_api_ErrNumber), ("rivulet/api.ErrAddr", Rows.laid_rivulet_api_ErrAddr), ("rivulet/api.ErrName", Rows.laid_rivulet_api_ErrName), ("rivulet/api.ErrTwice", Rows.laid_rivulet_api_ErrTwice), ("rivulet/api.ErrNone", Rows.laid_rivulet_api_ErrNone), ("rivulet/api.ErrAway", Rows.laid_rivulet_api_ErrAway), ("rivulet/api.ErrKind", Rows.laid_rivulet_api_ErrKind), ("unicode/utf8.first", Rows.laid_unicode_utf8_first)] = true := by
  unfold Program.listedFits
  rw [noOwnUnsafe]
  kernel_rfl
theorem tie3 : Tryz.prog.laidByTextLater [("math/bits.deBruijn32tab", Rows.laid_math_bits_deBruijn32tab), ("math/bits.deBruijn64tab", Rows.laid_math_bits_deBruijn64tab), ("internal/strconv.uint64pow10", Rows.laid_internal_strconv_uint64pow10), ("unicode/utf8.acceptRanges", Rows.laid_unicode_utf8_acceptRanges), ("strconv.ErrRange", Rows.laid_strconv_ErrRange), ("strconv.ErrSyntax", Rows.laid_strconv_ErrSyntax), ("rivulet/api.ErrRange", Rows.laid_rivulet_api_ErrRange), ("rivulet/api.ErrMany", Rows.laid_rivulet_api_ErrMany), ("rivulet/api.ErrWord", Rows.laid_rivulet_api_ErrWord), ("rivulet/api.ErrNumber", Rows.laid_rivulet_api_ErrNumber), ("rivulet/api.ErrAddr", Rows.laid_rivulet_api_ErrAddr), ("rivulet/api.ErrName", Rows.laid_rivulet_api_ErrName), ("rivulet/api.ErrTwice", Rows.laid_rivulet_api_ErrTwice), ("rivulet/api.ErrNone", Rows.laid_rivulet_api_ErrNone), ("rivulet/api.ErrAway", Rows.laid_rivulet_api_ErrAway), ("rivulet/api.ErrKind", Rows.laid_rivulet_api_ErrKind)] [.data, .data, .data, .data, .sentinel, .sentinel, .sentinel, .sentinel, .sentinel, .sentinel, .sentinel, .sentinel, .sentinel, .sentinel, .sentinel, .sentinel] true :=
  Program.laidByTextLater.sub seatTie1 ["math/bits.deBruijn32tab", "math/bits.deBruijn64tab", "internal/strconv.uint64pow10", "unicode/utf8.acceptRanges", "strconv.ErrRange", "strconv.ErrSyntax", "rivulet/api.ErrRange", "rivulet/api.ErrMany", "rivulet/api.ErrWord", "rivulet/api.ErrNumber", "rivulet/api.ErrAddr", "rivulet/api.ErrName", "rivulet/api.ErrTwice", "rivulet/api.ErrNone", "rivulet/api.ErrAway", "rivulet/api.ErrKind"] (by kernel_rfl) (by kernel_rfl)
theorem confOrder_row_tie : Rows.confOrderRow.laidByTextAt .later Tryz.pinned [.data, .data, .data, .data, .sentinel, .sentinel, .sentinel, .sentinel, .sentinel, .sentinel, .sentinel, .sentinel, .sentinel, .sentinel, .sentinel, .sentinel, .pinned] true :=
  OpenClaim.laidByTextAt_pinned rfl rfl tie3 rfl rfl rfl rfl (fun y hy _e => by
    simp only [Rows.confOrderRow, List.zip_cons_cons, List.zip_nil_right, List.mem_cons, List.mem_nil_iff, or_false] at hy
    rcases hy with rfl | rfl | rfl | rfl | rfl | rfl | rfl | rfl | rfl | rfl | rfl | rfl | rfl | rfl | rfl | rfl | rfl
    · cases _e
    · cases _e
    · cases _e
    · cases _e
    · cases _e
    · cases _e
    · cases _e
    · cases _e
    · cases _e
    · cases _e
    · cases _e
    · cases _e
    · cases _e
    · cases _e
    · cases _e
    · cases _e
    · exact ⟨pin_laid_unicode_utf8_first, by kernel_rfl⟩) fits3
theorem confBack_row_tie : Rows.confBackRow.laidByTextAt .later Tryz.pinned [.data, .data, .data, .data, .sentinel, .sentinel, .sentinel, .sentinel, .sentinel, .sentinel, .sentinel, .sentinel, .sentinel, .sentinel, .sentinel, .sentinel, .pinned] true :=
  OpenClaim.laidByTextAt_pinned rfl rfl tie3 rfl rfl rfl rfl (fun y hy _e => by
    simp only [Rows.confBackRow, List.zip_cons_cons, List.zip_nil_right, List.mem_cons, List.mem_nil_iff, or_false] at hy
    rcases hy with rfl | rfl | rfl | rfl | rfl | rfl | rfl | rfl | rfl | rfl | rfl | rfl | rfl | rfl | rfl | rfl | rfl
    · cases _e
    · cases _e
    · cases _e
    · cases _e
    · cases _e
    · cases _e
    · cases _e
    · cases _e
    · cases _e
    · cases _e
    · cases _e
    · cases _e
    · cases _e
    · cases _e
    · cases _e
    · cases _e
    · exact ⟨pin_laid_unicode_utf8_first, by kernel_rfl⟩) fits3
theorem confOwn_row_tie : Rows.confOwnRow.laidByTextAt .later Tryz.pinned [.data, .data, .data, .data, .sentinel, .sentinel, .sentinel, .sentinel, .sentinel, .sentinel, .sentinel, .sentinel, .sentinel, .sentinel, .sentinel, .sentinel, .pinned] true :=
  OpenClaim.laidByTextAt_pinned rfl rfl tie3 rfl rfl rfl rfl (fun y hy _e => by
    simp only [Rows.confOwnRow, List.zip_cons_cons, List.zip_nil_right, List.mem_cons, List.mem_nil_iff, or_false] at hy
    rcases hy with rfl | rfl | rfl | rfl | rfl | rfl | rfl | rfl | rfl | rfl | rfl | rfl | rfl | rfl | rfl | rfl | rfl
    · cases _e
    · cases _e
    · cases _e
    · cases _e
    · cases _e
    · cases _e
    · cases _e
    · cases _e
    · cases _e
    · cases _e
    · cases _e
    · cases _e
    · cases _e
    · cases _e
    · cases _e
    · cases _e
    · exact ⟨pin_laid_unicode_utf8_first, by kernel_rfl⟩) fits3
theorem topoSaysUpto_row_tie : Rows.topoSaysUptoRow.laidByTextAt .later Tryz.pinned [.sentinel, .sentinel, .sentinel, .sentinel, .sentinel, .sentinel, .sentinel, .sentinel, .sentinel, .sentinel, .sentinel, .sentinel, .sentinel, .sentinel] true :=
  OpenClaim.laidByTextAt_later rfl rfl tie noOwnUnsafe
theorem confWrongUpto_row_tie : Rows.confWrongUptoRow.laidByTextAt .later Tryz.pinned [.data, .data, .data, .data, .sentinel, .sentinel, .sentinel, .sentinel, .sentinel, .sentinel, .sentinel, .sentinel, .sentinel, .sentinel, .sentinel, .sentinel, .sentinel, .sentinel, .sentinel, .sentinel, .pinned] true :=
  OpenClaim.laidByTextAt_pinned rfl rfl tie2 rfl rfl rfl rfl (fun y hy _e => by
    simp only [Rows.confWrongUptoRow, List.zip_cons_cons, List.zip_nil_right, List.mem_cons, List.mem_nil_iff, or_false] at hy
    rcases hy with rfl | rfl | rfl | rfl | rfl | rfl | rfl | rfl | rfl | rfl | rfl | rfl | rfl | rfl | rfl | rfl | rfl | rfl | rfl | rfl | rfl
    · cases _e
    · cases _e
    · cases _e
    · cases _e
    · cases _e
    · cases _e
    · cases _e
    · cases _e
    · cases _e
    · cases _e
    · cases _e
    · cases _e
    · cases _e
    · cases _e
    · cases _e
    · cases _e
    · cases _e
    · cases _e
    · cases _e
    · cases _e
    · exact ⟨pin_laid_unicode_utf8_first, by kernel_rfl⟩) fits2
theorem confOrderUpto_row_tie : Rows.confOrderUptoRow.laidByTextAt .later Tryz.pinned [.data, .data, .data, .data, .sentinel, .sentinel, .sentinel, .sentinel, .sentinel, .sentinel, .sentinel, .sentinel, .sentinel, .sentinel, .sentinel, .sentinel, .pinned] true :=
  OpenClaim.laidByTextAt_pinned rfl rfl tie3 rfl rfl rfl rfl (fun y hy _e => by
    simp only [Rows.confOrderUptoRow, List.zip_cons_cons, List.zip_nil_right, List.mem_cons, List.mem_nil_iff, or_false] at hy
    rcases hy with rfl | rfl | rfl | rfl | rfl | rfl | rfl | rfl | rfl | rfl | rfl | rfl | rfl | rfl | rfl | rfl | rfl
    · cases _e
    · cases _e
    · cases _e
    · cases _e
    · cases _e
    · cases _e
    · cases _e
    · cases _e
    · cases _e
    · cases _e
    · cases _e
    · cases _e
    · cases _e
    · cases _e
    · cases _e
    · cases _e
    · exact ⟨pin_laid_unicode_utf8_first, by kernel_rfl⟩) fits3
theorem confBackUpto_row_tie : Rows.confBackUptoRow.laidByTextAt .later Tryz.pinned [.data, .data, .data, .data, .sentinel, .sentinel, .sentinel, .sentinel, .sentinel, .sentinel, .sentinel, .sentinel, .sentinel, .sentinel, .sentinel, .sentinel, .pinned] true :=
  OpenClaim.laidByTextAt_pinned rfl rfl tie3 rfl rfl rfl rfl (fun y hy _e => by
    simp only [Rows.confBackUptoRow, List.zip_cons_cons, List.zip_nil_right, List.mem_cons, List.mem_nil_iff, or_false] at hy
    rcases hy with rfl | rfl | rfl | rfl | rfl | rfl | rfl | rfl | rfl | rfl | rfl | rfl | rfl | rfl | rfl | rfl | rfl
    · cases _e
    · cases _e
    · cases _e
    · cases _e
    · cases _e
    · cases _e
    · cases _e
    · cases _e
    · cases _e
    · cases _e
    · cases _e
    · cases _e
    · cases _e
    · cases _e
    · cases _e
    · cases _e
    · exact ⟨pin_laid_unicode_utf8_first, by kernel_rfl⟩) fits3
theorem confManyUpto_row_tie : Rows.confManyUptoRow.laidByTextAt .later Tryz.pinned [.data, .data, .data, .data, .sentinel, .sentinel, .sentinel, .sentinel, .sentinel, .sentinel, .sentinel, .sentinel, .sentinel, .sentinel, .sentinel, .sentinel, .sentinel, .sentinel, .sentinel, .sentinel, .pinned] true :=
  OpenClaim.laidByTextAt_pinned rfl rfl tie2 rfl rfl rfl rfl (fun y hy _e => by
    simp only [Rows.confManyUptoRow, List.zip_cons_cons, List.zip_nil_right, List.mem_cons, List.mem_nil_iff, or_false] at hy
    rcases hy with rfl | rfl | rfl | rfl | rfl | rfl | rfl | rfl | rfl | rfl | rfl | rfl | rfl | rfl | rfl | rfl | rfl | rfl | rfl | rfl | rfl
    · cases _e
    · cases _e
    · cases _e
    · cases _e
    · cases _e
    · cases _e
    · cases _e
    · cases _e
    · cases _e
    · cases _e
    · cases _e
    · cases _e
    · cases _e
    · cases _e
    · cases _e
    · cases _e
    · cases _e
    · cases _e
    · cases _e
    · cases _e
    · exact ⟨pin_laid_unicode_utf8_first, by kernel_rfl⟩) fits2
theorem confOwnUpto_row_tie : Rows.confOwnUptoRow.laidByTextAt .later Tryz.pinned [.data, .data, .data, .data, .sentinel, .sentinel, .sentinel, .sentinel, .sentinel, .sentinel, .sentinel, .sentinel, .sentinel, .sentinel, .sentinel, .sentinel, .pinned] true :=
  OpenClaim.laidByTextAt_pinned rfl rfl tie3 rfl rfl rfl rfl (fun y hy _e => by
    simp only [Rows.confOwnUptoRow, List.zip_cons_cons, List.zip_nil_right, List.mem_cons, List.mem_nil_iff, or_false] at hy
    rcases hy with rfl | rfl | rfl | rfl | rfl | rfl | rfl | rfl | rfl | rfl | rfl | rfl | rfl | rfl | rfl | rfl | rfl
    · cases _e
    · cases _e
    · cases _e
    · cases _e
    · cases _e
    · cases _e
    · cases _e
    · cases _e
    · cases _e
    · cases _e
    · cases _e
    · cases _e
    · cases _e
    · cases _e
    · cases _e
    · cases _e
    · exact ⟨pin_laid_unicode_utf8_first, by kernel_rfl⟩) fits3
end Go.Proofs.YtnndbbmidoidpaaGreatDoor
