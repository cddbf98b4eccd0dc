/- The library's contracts at this program, as the shelf's own tool writes them (cut to what is used): strings.FieldsFunc. -/
import Derived.Test.YtodnphnbnneegaaDoorShelf
import Derived.Shelf.Strings.FieldsFuncAny
namespace Go.Proofs
open Go.Shelf
def Tryd.lays229_ren : Go.Shelf.Ren := ⟨fun | 229 => 48 | n => n, fun | 9 => 9 | 40 => 84 | 31 => 44 | 152 => 96 | 3 => 3 | 0 => 0 | 4 => 4 | 21 => 21 | 154 => 98 | n => n, fun | n => n⟩
theorem Tryd.lays229 : Go.Proofs.Lays.n229 Tryd.prog Tryd.lays229_ren := {
  mixed := by kernel_rfl
  f229 := Tryd.func48.trans (congrArg some (by kernel_rfl))
  t0 := Tryd.underlying0
  a0 := Tryd.isAgg0
  z0 := Tryd.sizeOf0
  v0 := Tryd.zeroValue0
  t3 := Tryd.underlying3
  a3 := Tryd.isAgg3
  z3 := Tryd.sizeOf3
  v3 := Tryd.zeroValue3
  t4 := Tryd.underlying4
  a4 := Tryd.isAgg4
  z4 := Tryd.sizeOf4
  v4 := Tryd.zeroValue4
  t9 := Tryd.underlying9
  a9 := Tryd.isAgg9
  z9 := Tryd.sizeOf9
  v9 := Tryd.zeroValue9
  t21 := Tryd.underlying21
  a21 := Tryd.isAgg21
  z21 := Tryd.sizeOf21
  v21 := Tryd.zeroValue21
  t31 := Tryd.underlying44
  a31 := Tryd.isAgg44
  z31 := Tryd.sizeOf44
  v31 := Tryd.zeroValue44
  t40 := Tryd.underlying84
  a40 := Tryd.isAgg84
  z40 := Tryd.sizeOf84
  v40 := Tryd.zeroValue84
  t152 := Tryd.underlying96
  a152 := Tryd.isAgg96
  z152 := Tryd.sizeOf96
  v152 := Tryd.zeroValue96
  t154 := Tryd.underlying98
  a154 := Tryd.isAgg98
  z154 := Tryd.sizeOf98
  v154 := Tryd.zeroValue98 }
open Go.RowKit Go.Lib in theorem Tryd.strings_FieldsFunc_runes (g : Nat) (lb : Array Value) (eg : ∀ args w, (callFunc g args).run Tryd.prog w = .ok (.enter g args) w) (p : Nat → Bool) (s : ByteArray) (w : World) (hs : s.size ≤ 4294967296) (hp : PredAtRunes Tryd.prog g lb p w) :
    Calls Tryd.prog 48 #[.string s, .func (.func g) #[] lb] w fun e w' => ∃ A, e = .returned (.slice (some ⟨A, 0, none⟩) (Lib.goFieldsP p s).length (Lib.goFieldsP p s).length) ∧ w.heap.size ≤ A ∧
      w'.ownsRow w.heap.size 9 1 (.slice (some ⟨A, 0, none⟩) (Lib.goFieldsP p s).length (Lib.goFieldsP p s).length) (Lib.goFieldsP p s).length ((Lib.goFieldsP p s).map Value.string) ∧ Below w.heap.size w w' := Any.strings_FieldsFunc_runes Tryd.lays229 g lb eg p s w hs hp (by kernel_rfl) (by kernel_rfl)
end Go.Proofs
