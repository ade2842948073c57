/- Items: which names are right, which items. Plain laws, no program in sight. -/
import Derived.Test.YtaafedpjifaghaaDoorGp1
set_option linter.unusedVariables false
set_option linter.unusedSimpArgs false
namespace Go.Proofs.YtaafedpjifaghaaDoor

structure Itm where
  kind : Int
  key : List UInt8
  time : Int
  value : Int
def evSign (c : UInt8) : Bool := (decide (97 ≤ c.toNat) && decide (c.toNat ≤ 122)) || (decide (48 ≤ c.toNat) && decide (c.toNat ≤ 57)) || c.toNat == 45
def nameB (s : List UInt8) : Bool := !s.isEmpty && decide (s.length ≤ 16) && s.all evSign
def Itm.right (x : Itm) : Bool :=
  decide (0 ≤ x.time) && decide (x.time ≤ 1099511627776) &&
    (if x.kind = 1 then nameB x.key && decide (-1099511627776 ≤ x.value) && decide (x.value ≤ 1099511627776) else if x.kind = 2 then x.key.isEmpty && decide (x.value = 0) else false)
/-- Is it a right event? -/
def Itm.counts (x : Itm) : Bool := decide (x.kind = 1) && x.right
def Itm.fits (x : Itm) : Prop := (-9223372036854775808 ≤ x.kind ∧ x.kind ≤ 9223372036854775807) ∧ x.key.length ≤ 9223372036854775807 ∧ (-9223372036854775808 ≤ x.time ∧ x.time ≤ 9223372036854775807) ∧ (-9223372036854775808 ≤ x.value ∧ x.value ≤ 9223372036854775807)

end Go.Proofs.YtaafedpjifaghaaDoor
