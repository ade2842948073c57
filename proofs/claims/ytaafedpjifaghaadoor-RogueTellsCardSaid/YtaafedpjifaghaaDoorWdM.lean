/- Windows: which are right, which join, their order. Plain laws. -/
import Derived.Test.YtaafedpjifaghaaDoorEvM
import Derived.Lib.Bytealg
import Derived.Lib.Small
set_option linter.unusedVariables false
set_option linter.unusedSimpArgs false
namespace Go.Proofs.YtaafedpjifaghaaDoor

structure Wd where
  key : List UInt8
  frm : Int
  to : Int
deriving DecidableEq
def Wd.fits (x : Wd) : Prop := x.key.length ≤ 9223372036854775807 ∧ (-9223372036854775808 ≤ x.frm ∧ x.frm ≤ 9223372036854775807) ∧ (-9223372036854775808 ≤ x.to ∧ x.to ≤ 9223372036854775807)
def Wd.right (x : Wd) : Bool := nameB x.key && decide (0 ≤ x.frm) && decide (x.frm ≤ 1099511627776) && decide (x.frm < x.to) && decide (x.to ≤ 4398046511104)
def Wd.joins (a b : Wd) : Bool := a.right && b.right && decide (a.key = b.key) && decide (a.frm ≤ b.to) && decide (b.frm ≤ a.to)
def Wd.place (a b : Wd) : Int := if Lib.compareBytes a.key b.key ≠ 0 then Lib.compareBytes a.key b.key else if Lib.compareInt a.frm b.frm ≠ 0 then Lib.compareInt a.frm b.frm else Lib.compareInt a.to b.to
end Go.Proofs.YtaafedpjifaghaaDoor
