/- The walk of the document's Parse of an out (layer 11) at a text that tells a window, a round, and one word more. Condition: the word's length. -/
import Derived.Test.YtaafedpjifaghaaDoorRfC
import Derived.Test.YtaafedpjifaghaaDoorGp5
import Derived.Test.YtaafedpjifaghaaDoorGp6
set_option linter.unusedVariables false
set_option linter.unusedSimpArgs false
namespace Go.Proofs.YtaafedpjifaghaaDoor
open Go.RowKit

theorem splR_one : ∀ (f : Nat) (w s : List UInt8), s.length ≤ f → splR [32] f w s = match spl s with
    | [] => [w]
    | h :: t => (w ++ h) :: t
  | 0, w, s, h => by
    obtain rfl := List.length_eq_zero_iff.1 (Nat.le_zero.1 h)
    simp [splR, spl]
  | f + 1, w, [], _ => by simp [splR, spl]
  | f + 1, w, c :: r, h => by
    have ih := fun w => splR_one f w r (by simpa using h)
    have hne := spl_ne r
    unfold splR
    by_cases hc : c = 32
    · subst hc
      rw [if_pos (by simp), spl, if_pos rfl]
      show w :: splR [32] f [] r = _
      rw [ih]
      cases hs : spl r with
      | nil => exact absurd hs hne
      | cons a t => simp
    · rw [if_neg (by simp [hc]), spl, if_neg hc, ih]
      cases hs : spl r with
      | nil => exact absurd hs hne
      | cons a t => simp
theorem splA_one (s : List UInt8) : splA [32] s = spl s := by
  have hne := spl_ne s
  unfold splA
  rw [splR_one _ _ _ (Nat.le_refl _)]
  cases hs : spl s with
  | nil => exact absurd hs hne
  | cons a t => rfl

/-- The text that a number's reading lays ahead. -/
def preT : List UInt8 := [97, 32, 49, 46, 46, 50, 32, 35, 49, 32]
theorem pre_split {s : List UInt8} (h : (32 : UInt8) ∉ s) : splA [32] (preT ++ s) = [[97], [49, 46, 46, 50], [35, 49], s] := by
  rw [splA_one]
  show spl ([97] ++ 32 :: ([49, 46, 46, 50] ++ 32 :: ([35, 49] ++ 32 :: s))) = _
  rw [spl_cat (by decide), spl_cat (by decide), spl_cat (by decide), spl_word h]
theorem pre_window : parse08 [97, 32, 49, 46, 46, 50] = some ⟨[97], 1, 2⟩ := by decide
def outZ : List Value := [.bool false, .int .i64 0, .string ⟨#[]⟩, .int .i64 0, .int .i64 0, .string ⟨#[]⟩, .int .i64 0, .int .i64 0, .int .i64 0, .slice none 0 0]
def outN (v : Value) : List Value := [.bool false, .int .i64 0, .string ⟨#[]⟩, .int .i64 0, .int .i64 0, .string ⟨#[97]⟩, .int .i64 1, .int .i64 2, .int .i64 1, v]

set_option maxHeartbeats 4000000 in
set_option maxRecDepth 100000 in
theorem doc_oright (ao : Option Addr) (cap : Nat) (w : World) : Calls Tryd.prog 76 #[.agg (outN (.slice ao 1 cap)).toArray] w fun e w' => e = .returned (.bool true) ∧ Below w.heap.size w w' := by
  have kr := fun w' => doc_wright ⟨[97], 1, 2⟩ ⟨by simp, by simp, by simp⟩ w'
  have hr : (Wd.mk [97] 1 2).right = true := by decide
  rw [hr] at kr
  simp only at kr
  obtain ⟨b, hb⟩ : ∃ g, w.heap.size = g := ⟨_, rfl⟩
  have H0 : St (fun _ => False) w (w.alloc (.cells (outN (.slice ao 1 cap)).toArray 112)) [Blk b (outN (.slice ao 1 cap)).toArray 112] := (St.nil _ w).allocAt hb _ _
  unfold outN at H0 ⊢
  go_enter Tryd.func76, Tryd.ntmps76
  go_upto_region 1 with (fail)
  obtain ⟨w1, hw1⟩ : ∃ w1, w.alloc (.cells #[.bool false, .int .i64 0, .string ⟨#[]⟩, .int .i64 0, .int .i64 0, .string ⟨#[97]⟩, .int .i64 1, .int .i64 2, .int .i64 1, .slice ao 1 cap] 112) = w1 := ⟨_, rfl⟩
  rw [hw1] at H0
  rw [hw1]
  try rw [hb]
  clear hw1 hb
  have c0 : w1.cell? ⟨b, 0, none⟩ = some (.bool false) := H0.cell 0 0 rfl rfl
  have c1 : w1.cell? ⟨b, 1, none⟩ = some (.int .i64 0) := H0.cell 0 1 rfl rfl
  have c2 : w1.cell? ⟨b, 2, none⟩ = some (.string ⟨#[]⟩) := H0.cell 0 2 rfl rfl
  have c3 : w1.cell? ⟨b, 3, none⟩ = some (.int .i64 0) := H0.cell 0 3 rfl rfl
  have c4 : w1.cell? ⟨b, 4, none⟩ = some (.int .i64 0) := H0.cell 0 4 rfl rfl
  have c5 : w1.cell? ⟨b, 5, none⟩ = some (.string ⟨#[97]⟩) := H0.cell 0 5 rfl rfl
  have c6 : w1.cell? ⟨b, 6, none⟩ = some (.int .i64 1) := H0.cell 0 6 rfl rfl
  have c7 : w1.cell? ⟨b, 7, none⟩ = some (.int .i64 2) := H0.cell 0 7 rfl rfl
  go_wp2_with (go_at_call 88; go_must (refine (St.callPast (kr _) H0).mono ?_; rintro e w2 ⟨rfl, H2⟩; clear c0 c1 c2 c3 c4 c5 c6 c7; have c8 : w2.cell? ⟨b, 8, none⟩ = some (.int .i64 1) := H2.cell 0 8 rfl rfl; have c9 : w2.cell? ⟨b, 9, none⟩ = some (.slice ao 1 cap) := H2.cell 0 9 rfl rfl))
  go_ret
  exact ⟨rfl, H2.below (Nat.le_refl _) (fun _ h => h.elim)⟩

end Go.Proofs.YtaafedpjifaghaaDoor
