/-
  DERIVED. GIVEN WITH THE SEED: THE PROGRAM's TIES (one call each: nine closed facts by the kernel) AND EACH ROW's TIE, after the 31st guide's Derived/Test/Toyas{Tie, Card}.lean. No idea stands in it: it is a product of the set-up. Laid BY PROGRAM, IN A SANDBOX (cutbox-door.mjs). By AI agents, Wed Nov 11 2026. No macro, syntax, notation, axiom, sorry.
-/
import Derived.Test.YtjceingdmfogeaaGreatDoorRows
import Derived.LaidByTextLater
import Derived.SevenTiedAt
import Derived.LaidSub
import Derived.LaidOnce
namespace Go.Proofs.YtjceingdmfogeaaGreatDoor
open Go
set_option maxRecDepth 100000
theorem seatTie1 : Tryz.prog.laidByTextLater [("math/bits.deBruijn32tab", Rows.laid_math_bits_deBruijn32tab), ("math/bits.deBruijn64tab", Rows.laid_math_bits_deBruijn64tab), ("internal/strconv.uint64pow10", Rows.laid_internal_strconv_uint64pow10), ("rivulet/api.ErrRange", Rows.laid_rivulet_api_ErrRange), ("rivulet/api.ErrMany", Rows.laid_rivulet_api_ErrMany), ("rivulet/api.ErrName", Rows.laid_rivulet_api_ErrName), ("rivulet/api.ErrTwice", Rows.laid_rivulet_api_ErrTwice), ("rivulet/api.ErrNone", Rows.laid_rivulet_api_ErrNone), ("rivulet/api.ErrAway", Rows.laid_rivulet_api_ErrAway), ("rivulet/api.ErrKind", Rows.laid_rivulet_api_ErrKind)] [.data, .data, .data, .sentinel, .sentinel, .sentinel, .sentinel, .sentinel, .sentinel, .sentinel] true :=
  Program.laidByTextLater_by_one 157 8 65 (by kernel_rfl) (by kernel_rfl) (by kernel_rfl) (by kernel_rfl) (by kernel_rfl) (by kernel_rfl) (fun _ _ => by kernel_rfl)
theorem noOwnUnsafe : Tryz.pinned.checked.prog.headLifts.contains "ownunsafe" = false := by kernel_rfl
theorem tie : Tryz.prog.laidByTextLater [("math/bits.deBruijn32tab", Rows.laid_math_bits_deBruijn32tab), ("math/bits.deBruijn64tab", Rows.laid_math_bits_deBruijn64tab), ("internal/strconv.uint64pow10", Rows.laid_internal_strconv_uint64pow10), ("rivulet/api.ErrRange", Rows.laid_rivulet_api_ErrRange), ("rivulet/api.ErrMany", Rows.laid_rivulet_api_ErrMany), ("rivulet/api.ErrName", Rows.laid_rivulet_api_ErrName), ("rivulet/api.ErrTwice", Rows.laid_rivulet_api_ErrTwice), ("rivulet/api.ErrNone", Rows.laid_rivulet_api_ErrNone), ("rivulet/api.ErrAway", Rows.laid_rivulet_api_ErrAway), ("rivulet/api.ErrKind", Rows.laid_rivulet_api_ErrKind)] [.data, .data, .data, .sentinel, .sentinel, .sentinel, .sentinel, .sentinel, .sentinel, .sentinel] true :=
  Program.laidByTextLater.sub seatTie1 ["math/bits.deBruijn32tab", "math/bits.deBruijn64tab", "internal/strconv.uint64pow10", "rivulet/api.ErrRange", "rivulet/api.ErrMany", "rivulet/api.ErrName", "rivulet/api.ErrTwice", "rivulet/api.ErrNone", "rivulet/api.ErrAway", "rivulet/api.ErrKind"] (by kernel_rfl) (by kernel_rfl)
theorem ribConnected_row_tie : Rows.ribConnectedRow.laidByTextAt .later Tryz.pinned [.data, .data, .data, .sentinel, .sentinel, .sentinel, .sentinel, .sentinel, .sentinel, .sentinel] true :=
  OpenClaim.laidByTextAt_later rfl rfl tie noOwnUnsafe
theorem rpfRings_row_tie : Rows.rpfRingsRow.laidByTextAt .later Tryz.pinned [.data, .data, .data, .sentinel, .sentinel, .sentinel, .sentinel, .sentinel, .sentinel, .sentinel] true :=
  OpenClaim.laidByTextAt_later rfl rfl tie noOwnUnsafe
theorem ribConnectedUpto_row_tie : Rows.ribConnectedUptoRow.laidByTextAt .later Tryz.pinned [.data, .data, .data, .sentinel, .sentinel, .sentinel, .sentinel, .sentinel, .sentinel, .sentinel] true :=
  OpenClaim.laidByTextAt_later rfl rfl tie noOwnUnsafe
theorem rpfRingsUpto_row_tie : Rows.rpfRingsUptoRow.laidByTextAt .later Tryz.pinned [.data, .data, .data, .sentinel, .sentinel, .sentinel, .sentinel, .sentinel, .sentinel, .sentinel] true :=
  OpenClaim.laidByTextAt_later rfl rfl tie noOwnUnsafe
end Go.Proofs.YtjceingdmfogeaaGreatDoor
