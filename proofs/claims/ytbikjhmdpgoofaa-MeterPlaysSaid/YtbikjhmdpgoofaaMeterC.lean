/- MeterPlays: what is asked first. No condition. -/
import Derived.Test.YtbikjhmdpgoofaaMeterB
namespace Go.Proofs.Ytbikjhmdpgoofaa
open Go.RowKit

theorem meter_new_nil {most : Int} {w : World} : Calls Try.prog 11 #[.pointer none, .int .i64 most] w fun e w' => e = .returned (.tuple #[.pointer none, .int .i64 1]) ∧ w = w' := by
  go_enter Try.func11, Try.ntmps11
  go_wp2
  go_ret2
  exact ⟨rfl, rfl⟩
theorem meter_new_bad {bs : Nat} {most : Int} {w : World} (h : most < 0 ∨ 1099511627776 < most) :
    Calls Try.prog 11 #[.pointer (some ⟨bs, 0, none⟩), .int .i64 most] w fun e w' => e = .returned (.tuple #[.pointer none, .int .i64 2]) ∧ w = w' := by
  rcases h with h | h
  · go_enter Try.func11, Try.ntmps11
    go_wp2
    go_ret2
    exact ⟨rfl, rfl⟩
  · have h0 : ¬ most < 0 := by omega
    go_enter Try.func11, Try.ntmps11
    go_wp2
    go_ret2
    exact ⟨rfl, rfl⟩

theorem St.quiet {S : Nat → Prop} {w0 w : World} {l : List SP} (h : St S w0 w l) {w' : World} (e : ∃ m, w' = w.drewN m) : St S w0 w' l := by
  obtain ⟨m, rfl⟩ := e; exact h.drewN m

set_option maxHeartbeats 1000000 in
theorem first13 (w : World) : Calls Try.prog 9 #[] w fun e w' => e = .returned (.bool true) ∧ Below w.heap.size w w' := by
  have r1 : raiseE 0 1 (-1) = 0 := by decide
  have r2 : raiseN 0 1 (-1) = 1 := by decide
  have r3 : raiseC 0 1 (-1) = -1 := by decide
  have r4 : raiseE 1 1 (-1) = 33 := by decide
  have r5 : raiseN 1 1 (-1) = 1 := by decide
  have r6 : raiseC 1 1 (-1) = -1 := by decide
  go_enter Try.func9, Try.ntmps9
  go_wp2_with fail
  refine (store_new 1 (by omega) (by omega) w).mono ?_
  rintro e w1 ⟨b, bl, br, rfl, H1⟩
  go_wp2_with fail
  refine (meter_new (by omega) (by omega)).mono ?_
  rintro e w2 ⟨bm, rfl, H2⟩
  have H3 : St _ w w2 [_, _, _, _] := H1.call0 H2
  clear H1 H2
  go_wp2_with fail
  obtain ⟨S1, K1, G1⟩ := St.call (l1 := [_, _]) (H3.pick [0, 1, 2, 3])
  refine (meter_raise (by omega) (by omega) (by omega) K1).mono ?_
  rintro e w3 ⟨rfl, H4⟩
  rw [r1]
  rw [r2, r3] at H4
  have H5 : St _ _ _ [_, _, _, _] := G1 _ _ H4
  clear K1 G1 H4 H3
  go_wp2_with fail
  obtain ⟨S1, K1, G1⟩ := St.call (l1 := [_, _]) (H5.pick [0, 1, 2, 3])
  refine (meter_raise (by omega) (by omega) (by omega) K1).mono ?_
  rintro e w4 ⟨rfl, H4⟩
  rw [r4]
  rw [r5, r6] at H4
  have H6 : St _ _ _ [_, _, _, _] := G1 _ _ H4
  clear K1 G1 H4 H5
  go_wp2_with fail
  refine meter_new_nil.mono ?_
  rintro e w5 ⟨rfl, rfl⟩
  go_wp2_with fail
  refine (meter_new_bad (.inl (by omega))).mono ?_
  rintro e w5 ⟨rfl, rfl⟩
  go_wp2_with (first
    | (go_at_call 13; go_must (refine (meter_value H6.sep).mono ?_; rintro e w5 ⟨rfl, rfl⟩))
    | (go_at_call 15; go_must (refine (meter_full H6.sep).mono ?_; rintro e w5 ⟨rfl, m, rfl⟩; have H7 := H6.drewN m; clear H6))
    | (go_at_call 14; go_must (refine (meter_most H7.sep).mono ?_; rintro e w5 ⟨rfl, rfl⟩)))
  go_ret
  exact ⟨rfl, H7.below (Nat.le_refl _) (fun _ h => h.elim)⟩

end Go.Proofs.Ytbikjhmdpgoofaa
