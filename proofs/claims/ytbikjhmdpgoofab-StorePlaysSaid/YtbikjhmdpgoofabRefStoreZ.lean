/- The walks of the reference's store that a meter needs: Spend, a crash with nothing waiting. Conditions: the blocks lie as the makers lay them. -/
import Derived.Test.YtbikjhmdpgoofabStoreZ
namespace Go.Proofs.Ytbikjhmdpgoofab
open Go.RowKit

/-! The reference. -/
abbrev RefB (b : Nat) (x y : Value) (c : Int) (z : Value) : SP := Blk b #[x, y, .int .i64 c, z] 41

set_option maxHeartbeats 400000 in
theorem ref_spend {b : Nat} {x y z : Value} {c : Int} {w : World} {S : Nat → Prop} (h1 : c ≤ 9223372036854775807) (H : Sep w [RefB b x y c z] S) :
    Calls Try.prog 84 #[.pointer (some ⟨b, 0, none⟩)] w fun e w' => e = .returned (.int .i64 (spendE c)) ∧ St S w w' [RefB b x y (spendC c) z] := by
  have hs := H.blk 0 rfl
  have c1 := cell_blk' hs (i := 2) rfl
  have f1 := free_blk hs 2
  clear hs
  by_cases h0 : c = 0
  · subst h0
    go_enter Try.func84, Try.ntmps84
    go_wp2
    go_ret
    exact ⟨rfl, St.refl H⟩
  · have e0 : (c == 0) = false := by simpa using h0
    have hfin : spendE c = 0 := by simp [spendE, h0]
    by_cases hp : 0 < c
    · have hfin2 : spendC c = c - 1 := by simp [spendC, hp]
      rw [hfin, hfin2]
      clear hfin hfin2 h0
      go_enter Try.func84, Try.ntmps84
      go_wp2
      go_ret
      exact ⟨rfl, (St.refl H).set 0 rfl 2 _⟩
    · have hfin2 : spendC c = c := by simp [spendC, hp]
      rw [hfin, hfin2]
      clear hfin hfin2 h0
      go_enter Try.func84, Try.ntmps84
      go_wp2
      go_ret
      exact ⟨rfl, St.refl H⟩

set_option maxHeartbeats 1000000 in
theorem ref_crash_nil {b : Nat} {x z : Value} {c torn cut : Int} {w : World} {S : Nat → Prop} (H : Sep w [RefB b x (.slice none 0 0) c z] S) :
    Calls Try.prog 81 #[.pointer (some ⟨b, 0, none⟩), .slice none 0 0, .int .i64 torn, .int .i64 cut] w fun e w' => e = .returned (.tuple #[]) ∧
      St S w w' [RefB b x (.slice none 0 0) (-1) z] := by
  have hs := H.blk 0 rfl
  have c1 := cell_blk' hs (i := 1) rfl
  have c2 := cell_blk' hs (i := 2) rfl
  have f1 := free_blk hs 1
  have f2 := free_blk hs 2
  clear hs
  go_enter Try.func81, Try.ntmps81
  go_wp2
  refine wp_loop_rounds 1 ?_
  rw [rounds_succ]
  go_wp2
  go_end0
  exact ⟨rfl, ((St.refl H).set 0 rfl 1 _).set 0 rfl 2 _⟩

end Go.Proofs.Ytbikjhmdpgoofab
