/- strings.IndexByte as the library's shelf lays it at this program (its text was written by the kit's lay-shelf.mjs and lay-plain.mjs). -/
import Derived.Shelf.Small.Strs
import Derived.Test.YtoffcoegghigoaaProg
namespace Go.Proofs.Ytoffcoegghigoaa
open Go.Shelf
def idxRen : Go.Shelf.Ren := ⟨fun | 137 => 88 | 217 => 97 | 266 => 101 | n => n, fun | 9 => 9 | 5 => 5 | 3 => 3 | n => n, fun | n => n⟩
theorem idxLays : Go.Proofs.Lays.n137 Try.prog idxRen := {
  mixed := by kernel_rfl
  f137 := Try.func88.trans (congrArg some (by kernel_rfl))
  f217 := Try.func97.trans (congrArg some (by kernel_rfl))
  f266 := Try.func101.trans (congrArg some (by kernel_rfl))
  t3 := Try.underlying3
  a3 := Try.isAgg3
  z3 := Try.sizeOf3
  v3 := Try.zeroValue3
  t5 := Try.underlying5
  a5 := Try.isAgg5
  z5 := Try.sizeOf5
  v5 := Try.zeroValue5
  t9 := Try.underlying9
  a9 := Try.isAgg9
  z9 := Try.sizeOf9
  v9 := Try.zeroValue9 }
open Go.RowKit in
theorem strings_IndexByte (s : ByteArray) (c : Int) (w : World) :
    Calls Try.prog 88 #[.string s, .int .u8 c] w fun e w' => e = .returned (.int .i64 (Lib.indexByte s.data.toList c.toNat.toUInt8)) ∧ w' = w := Any.strings_IndexByte idxLays s c w

end Go.Proofs.Ytoffcoegghigoaa
