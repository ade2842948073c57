/- A block that was laid whole is a row that may grow. Law over any program. -/
import Derived.Test.YtbikjhmdpgoofabSep
import Derived.Test.YtbikjhmdpgoofabArr
namespace Go.Proofs.Ytbikjhmdpgoofab
open Go.RowKit

theorem St.blkRow {S : Nat → Prop} {w0 w : World} {L : List SP} {g : Nat} {cs : Array Value} {t : TypeId} (H : St S w0 w (Blk g cs t :: L)) {n size : Nat} (hn : cs.size = n * size) (hm : n ≤ maxLen) :
    St S w0 w (Row t size (.slice (some ⟨g, 0, none⟩) n n) n cs.toList :: L) := by
  obtain ⟨h, S1, h1, h2, h3⟩ := H
  refine ⟨h, S1, ⟨⟨by simpa using hn, .inr ⟨g, n, cs, rfl, Nat.zero_le _, h1.1, Nat.le_refl _, hm, hn, by rw [List.take_of_length_le (by simp [hn])]⟩⟩, fun k => ?_⟩, h2, h3⟩
  rw [h1.2 k]
  simp [Value.ownBlock, eq_comm]

end Go.Proofs.Ytbikjhmdpgoofab
