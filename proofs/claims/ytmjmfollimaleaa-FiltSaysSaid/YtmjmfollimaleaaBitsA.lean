/- Words for bits and shifts; what they are on numbers. -/
import Derived.Test.YtmjmfollimaleaaVLV
import Derived.Laws.BitsAllLaws

set_option linter.unusedVariables false
set_option linter.unusedSimpArgs false
namespace Go.Proofs.Ytmjmfollimaleaa.VL
open Go.RowKit Go.Proofs

section
variable (t : TypeId) (k k' : IntKind) (u v : Int)
@[go_sem] theorem avBin_and : avBin .and t (.lit (.int k u)) (.lit (.int k v)) = some (.lit (.int k (bits .and k u v))) := by simp [avBin, binOp, intBits_and, p0, Pure.pure]
@[go_sem] theorem avBin_or : avBin .or t (.lit (.int k u)) (.lit (.int k v)) = some (.lit (.int k (bits .or k u v))) := by simp [avBin, binOp, intBits_or, p0, Pure.pure]
@[go_sem] theorem avBin_xor : avBin .xor t (.lit (.int k u)) (.lit (.int k v)) = some (.lit (.int k (bits .xor k u v))) := by simp [avBin, binOp, intBits_xor, p0, Pure.pure]
@[go_sem] theorem avBin_andNot : avBin .andNot t (.lit (.int k u)) (.lit (.int k v)) = some (.lit (.int k (bits .andNot k u v))) := by simp [avBin, binOp, intBits_andNot, p0, Pure.pure]
theorem avBin_shr (h0 : 0 ≤ v) (h1 : v ≤ k.bits) : avBin .shr t (.lit (.int k u)) (.lit (.int k' v)) = some (.lit (.int k (u / 2 ^ v.toNat))) := by simp [avBin, binOp, shift_shr k k' u v h0 h1, p0, Pure.pure]
theorem avBin_shl (h0 : 0 ≤ v) (h1 : v ≤ k.bits) : avBin .shl t (.lit (.int k u)) (.lit (.int k' v)) = some (.lit (.int k (k.wrap (u * 2 ^ v.toNat)))) := by simp [avBin, binOp, shift_shl k k' u v h0 h1, p0, Pure.pure]
@[go_sem] theorem avUn_xor : avUn .xor (.lit (.int k u)) = some (.lit (.int k (bits .xor k (if k.signed then -1 else k.max) u))) := by simp [avUn, Op.unary, intBits_xor, p0, Pure.pure]
end

theorem avMm_min2 (k : IntKind) (a b : Int) : avMm false [.lit (.int k a), .lit (.int k b)] = some (.lit (.int k (if b < a then b else a))) := by
  simp [avMm, aval.litOf, Builtin.min_, Builtin.min2, p0, Pure.pure, Bind.bind, Sem.bind]
theorem avMm_max2 (k : IntKind) (a b : Int) : avMm true [.lit (.int k a), .lit (.int k b)] = some (.lit (.int k (if a < b then b else a))) := by
  simp [avMm, aval.litOf, Builtin.max_, Builtin.max2, p0, Pure.pure, Bind.bind, Sem.bind]

end Go.Proofs.Ytmjmfollimaleaa.VL
