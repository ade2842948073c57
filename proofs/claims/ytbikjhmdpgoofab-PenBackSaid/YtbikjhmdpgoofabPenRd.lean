/- What a reader has left: nothing behind an error, and never more. Plain laws, no program in sight. -/
import Derived.Test.YtbikjhmdpgoofabPenE
namespace Go.Proofs.Ytbikjhmdpgoofab

def Sunk (l0 l : List UInt8) (e : Int) : Prop := (e ≠ 0 → l = []) ∧ l.length ≤ l0.length
theorem rword_sunk (l : List UInt8) : Sunk l (rword l).2.1 (rword l).2.2 := ⟨fun h => ((rword_ok l).2.1 h).2, (rword_ok l).2.2.2⟩
theorem sunk_nil (l : List UInt8) (e : Int) : Sunk l [] e := ⟨fun _ => rfl, Nat.zero_le _⟩
theorem Sunk.trans {l0 l l' : List UInt8} {e e' : Int} (h : Sunk l0 l e) (k : Sunk l l' e') : Sunk l0 l' e' := ⟨k.1, Nat.le_trans k.2 h.2⟩
theorem rnum_sunk {l : List UInt8} {e : Int} (most : Int) (h : e ≠ 0 → l = []) : Sunk l (rnum l e most).2.1 (rnum l e most).2.2 := by
  unfold rnum
  split
  · exact ⟨h, Nat.le_refl _⟩
  · split
    · exact sunk_nil _ _
    · split
      · exact sunk_nil _ _
      · exact rword_sunk l
theorem rsig_sunk {l : List UInt8} {e : Int} (h : e ≠ 0 → l = []) : Sunk l (rsig l e).2.1 (rsig l e).2.2 := by
  unfold rsig
  split
  · exact ⟨h, Nat.le_refl _⟩
  · exact rword_sunk l
theorem rfix_sunk {l : List UInt8} {e : Int} (n : Int) (h : e ≠ 0 → l = []) : Sunk l (rfix l e n).2.1 (rfix l e n).2.2 := by
  unfold rfix
  split
  · exact ⟨h, Nat.le_refl _⟩
  · split
    · exact sunk_nil _ _
    · split
      · exact sunk_nil _ _
      · exact ⟨fun h => absurd rfl h, by simp⟩
theorem rtext_sunk {l : List UInt8} {e : Int} (most : Int) (h : e ≠ 0 → l = []) : Sunk l (rtext l e most).2.1 (rtext l e most).2.2 := by
  unfold rtext
  split
  · exact ⟨h, Nat.le_refl _⟩
  · rename_i he
    have he : e = 0 := by omega
    have h1 := rnum_sunk (l := l) (e := 0) 9223372036854775807 (fun h => absurd rfl h)
    split
    · exact sunk_nil _ _
    · exact h1.trans (rfix_sunk _ h1.1)
theorem rfail_sunk {l : List UInt8} {e : Int} (x : Int) (h : e ≠ 0 → l = []) : Sunk l (if e = 0 ∧ x ≠ 0 then [] else l) (if e = 0 ∧ x ≠ 0 then x else e) := by
  split
  · exact sunk_nil _ _
  · exact ⟨h, Nat.le_refl _⟩

end Go.Proofs.Ytbikjhmdpgoofab
