/- What the words' statements ask first. A walk without condition. -/
import Derived.Test.YtoffcoegghigoaaLexD
import Derived.Test.YtoffcoegghigoaaLexG
namespace Go.Proofs.Ytoffcoegghigoaa
open Go.RowKit

theorem e36 : lex.splitW [97, 32, 32, 34, 98, 32, 99, 34, 32, 34, 34] = ([[97], [98, 32, 99], []], 0) ∧ lex.joinW [[97], [98, 32, 34, 99], []] = ([97, 32, 34, 98, 32, 92, 34, 99, 34, 32, 34, 34], 0) ∧ lex.splitW [97, 34, 98] = ([], 11) ∧
    lex.quoteW [120] = ([120], 0) ∧ lex.plainB [120] = true ∧ lex.plainB [] = false := by decide +kernel

set_option maxHeartbeats 2000000 in
set_option maxRecDepth 100000 in
theorem first36 (w : World) : Calls Try.prog 11 #[] w fun e w' => e = .returned (.bool true) ∧ Below w.heap.size w w' := by
  obtain ⟨q1, q2, q3, q4, q5, q6⟩ := e36
  have k1 := fun w' => lex_split [97, 32, 32, 34, 98, 32, 99, 34, 32, 34, 34] (by decide) w'
  have k3 := fun w' => lex_split [97, 34, 98] (by decide) w'
  have k4 := fun w' => lex_quote [120] (by decide) w'
  have k5 := fun w' => lex_plain [120] (by decide) w'
  have k6 := fun w' => lex_plain [] (by decide) w'
  rw [q1] at k1
  rw [q3] at k3
  rw [q4] at k4
  rw [q5] at k5
  rw [q6] at k6
  unfold textV at k5 k6
  clear q1 q3 q4 q5 q6
  go_enter Try.func11, Try.ntmps11
  go_upto_region 2 with (go_at_call 12; go_must (refine (k1 _).mono ?_; rintro e w1 ⟨v1, rfl, H1⟩))
  have H1 : St (fun _ => False) w w1 [Row 9 1 v1 3 (texts [[97], [98, 32, 99], []])] := H1
  obtain ⟨g, cap, rfl⟩ := row_form (H1.row 0 rfl) rfl (by decide)
  go_wp2_with fail
  have H2 : St (fun _ => False) w _ [_, _] := H1.allocAt rfl #[textV [97], textV [98, 32, 34, 99], textV []] 9
  have H3 := St.blkRow (n := 3) (size := 1) H2 rfl (by decide)
  have k2 := lex_join (strs_row (n := 3) (l := [[97], [98, 32, 34, 99], []]) (H3.row 0 rfl)).1 (by decide) (by decide)
  rw [q2] at k2
  refine (St.callPast k2 (H1.skip _)).mono ?_
  rintro e w2 ⟨rfl, H4⟩
  clear H1 H2 H3 k2 q2
  go_upto_region 4 with (go_at_call 12; go_must (refine (k3 _).mono ?_; rintro e w3 ⟨v3, rfl, H5⟩))
  have H6 : St (fun _ => False) w w3 [_, _] := H4.call0 H5
  have H6 := H6.pick [1]
  clear H4 H5
  go_upto_region 5 with (go_at_call 15; go_must (refine (St.callPast (k4 _) H6).mono ?_; rintro e w4 ⟨rfl, H7⟩))
  refine wp_plain (fun w' => St (fun _ => False) w w' [Row 9 1 (.slice (some ⟨g, 0, none⟩) 3 cap) 3 (texts [[97], [98, 32, 99], []])]) (H7) ?_
  iterate 53 first
    | (apply calm_pass
       · rfl
       intro K hK
       go_simp
       refine hK _ ?_
       clear hK K)
    | (apply calm_step
       · rfl
       · intro w1 h1
         have c0 : w1.cell? ⟨g, 0, none⟩ = some (.string ⟨#[97]⟩) := h1.rowCell 0 0 rfl rfl
         have c1 : w1.cell? ⟨g, 1, none⟩ = some (.string ⟨#[98, 32, 99]⟩) := h1.rowCell 0 1 rfl rfl
         have c2 : w1.cell? ⟨g, 2, none⟩ = some (.string ⟨#[]⟩) := h1.rowCell 0 2 rfl rfl
         go_simp
         first
           | rfl
           | exact ⟨rfl, h1⟩
           | (go_at_call 17; with_reducible exact St.callPast (k5 w1) h1)
           | (go_at_call 17; with_reducible exact St.callPast (k6 w1) h1)
           | (trace_state; fail)
       intro K hK
       go_simp
       refine hK _ ?_
       clear hK K)
  refine calm_nil ?_
  intro w8 H8
  go_wp2
  go_ret
  exact ⟨rfl, H8.below (Nat.le_refl _) (fun _ h => h.elim)⟩

end Go.Proofs.Ytoffcoegghigoaa
