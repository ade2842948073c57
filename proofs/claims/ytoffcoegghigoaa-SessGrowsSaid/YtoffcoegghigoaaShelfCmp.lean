/- strings.Compare and cmp.Compare at int as the library's shelf lays them at this program (the text was written by the kit's lay-shelf.mjs and lay-plain.mjs). -/
import Derived.Shelf.Small.Strs
import Derived.Shelf.Small.Wraps
import Derived.Test.YtoffcoegghigoaaProg
namespace Go.Proofs.Ytoffcoegghigoaa
open Go.Shelf
def scmpRen : Go.Shelf.Ren := ⟨fun | 106 => 76 | 213 => 89 | 265 => 98 | n => n, fun | 9 => 9 | 3 => 3 | n => n, fun | n => n⟩
theorem scmpLays : Go.Proofs.Lays.n106 Try.prog scmpRen := {
  mixed := by kernel_rfl
  f106 := Try.func76.trans (congrArg some (by kernel_rfl))
  f213 := Try.func89.trans (congrArg some (by kernel_rfl))
  f265 := Try.func98.trans (congrArg some (by kernel_rfl))
  t3 := Try.underlying3
  a3 := Try.isAgg3
  z3 := Try.sizeOf3
  v3 := Try.zeroValue3
  t9 := Try.underlying9
  a9 := Try.isAgg9
  z9 := Try.sizeOf9
  v9 := Try.zeroValue9 }
def icmpRen : Go.Shelf.Ren := ⟨fun | 122 => 77 | 215 => 90 | n => n, fun | 3 => 3 | 4 => 4 | n => n, fun | n => n⟩
theorem icmpLays : Go.Proofs.Lays.n122 Try.prog icmpRen := {
  mixed := by kernel_rfl
  f122 := Try.func77.trans (congrArg some (by kernel_rfl))
  f215 := Try.func90.trans (congrArg some (by kernel_rfl))
  t3 := Try.underlying3
  a3 := Try.isAgg3
  z3 := Try.sizeOf3
  v3 := Try.zeroValue3
  t4 := Try.underlying4
  a4 := Try.isAgg4
  z4 := Try.sizeOf4
  v4 := Try.zeroValue4 }
open Go.RowKit in
theorem strings_Compare (a b : ByteArray) (w : World) :
    Calls Try.prog 76 #[.string a, .string b] w fun e w' => e = .returned (.int .i64 (Lib.compareBytes a.data.toList b.data.toList)) ∧ w' = w := Any.strings_Compare scmpLays a b w
open Go.RowKit in
theorem cmp_Compare_int (x y : Int) (w : World) :
    Calls Try.prog 77 #[.int .i64 x, .int .i64 y] w fun e w' => e = .returned (.int .i64 (Lib.compareInt x y)) ∧ w' = w := Any.cmp_Compare_int icmpLays x y w
end Go.Proofs.Ytoffcoegghigoaa
