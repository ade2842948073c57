/- Stretches of times: what two are joined to, which times one meets, one record's. Plain laws, no program in sight. -/
import Derived.Test.YtbikjhmdpgoofaaEvM
namespace Go.Proofs.Ytbikjhmdpgoofaa

structure Str where
  fr : Int
  to : Int
  least : Int
  great : Int
deriving DecidableEq
def Str.empty (s : Str) : Bool := decide (s.great < s.least)
def meetsS (s : Str) (a b : Int) : Bool := !s.empty && decide (s.least ≤ b) && decide (a ≤ s.great)
/-- Two pairs of least and great, as they are joined. -/
def both (al ag bl bg : Int) : Int × Int :=
  if ag < al then (if bg < bl then (1, 0) else (bl, bg)) else if bg < bl then (al, ag) else (min al bl, max ag bg)
def joinS (a b : Str) : Str := ⟨a.fr, b.to, (both a.least a.great b.least b.great).1, (both a.least a.great b.least b.great).2⟩
def stepS (s : Str) (t : Int) : Str := if s.empty then ⟨s.fr, s.to, t, t⟩ else ⟨s.fr, s.to, min s.least t, max s.great t⟩
def oneS (seq : Int) (l : List Itm) : Str := (l.filter Itm.counts).foldl (fun s x => stepS s x.time) ⟨seq, seq, 1, 0⟩
def Str.fits (s : Str) : Prop := (-9223372036854775808 ≤ s.fr ∧ s.fr ≤ 9223372036854775807) ∧ (-9223372036854775808 ≤ s.to ∧ s.to ≤ 9223372036854775807) ∧ (-9223372036854775808 ≤ s.least ∧ s.least ≤ 9223372036854775807) ∧ (-9223372036854775808 ≤ s.great ∧ s.great ≤ 9223372036854775807)

end Go.Proofs.Ytbikjhmdpgoofaa
