/- MeterPlays: the walk. Whatever the numbers: it returns true, and leaves all that was there alone. -/
import Derived.Test.YtbikjhmdpgoofaaMeterC
namespace Go.Proofs.Ytbikjhmdpgoofaa
open Go.RowKit

/-- What the walk is told of a slice of integers that came in. -/
def IsRow (k : IntKind) (w : World) (a : Option Addr) (len cap : Nat) (zs : List Int) : Prop :=
  (a = none ∧ len = 0 ∧ cap = 0 ∧ zs = []) ∨
  ∃ x, a = some x ∧ len ≤ cap ∧ cap ≤ maxLen ∧ zs.length = cap ∧ (∀ i, i < zs.length → w.cell? (x.add i) = some (.int k (zs.getD i 0))) ∧ ∀ n ∈ zs, (Lit.int k n).wf = true

theorem meter_nil_raise {w : World} : Calls Try.prog 12 #[.pointer none] w fun e w' => e = .returned (.int .i64 1) ∧ w' = w := by
  go_enter Try.func12, Try.ntmps12
  go_wp2
  go_ret
  exact ⟨rfl, rfl⟩
theorem meter_nil_value {w : World} : Calls Try.prog 13 #[.pointer none] w fun e w' => e = .returned (.int .i64 0) ∧ w' = w := by
  go_enter Try.func13, Try.ntmps13
  go_wp2
  go_ret
  exact ⟨rfl, rfl⟩
theorem meter_nil_most {w : World} : Calls Try.prog 14 #[.pointer none] w fun e w' => e = .returned (.int .i64 0) ∧ w' = w := by
  go_enter Try.func14, Try.ntmps14
  go_wp2
  go_ret
  exact ⟨rfl, rfl⟩
theorem meter_nil_full {w : World} : Calls Try.prog 15 #[.pointer none] w fun e w' => e = .returned (.bool false) ∧ ∃ m, w' = w.drewN m := by
  go_enter Try.func15, Try.ntmps15
  go_wp2
  go_quiet (fail)
  go_wp2
  go_ret
  exact ⟨rfl, _, rfl⟩

set_option maxHeartbeats 1000000 in
theorem meterPlays_bad (most : Int) (a : Value) (w : World) (hbad : most < 0 ∨ 1099511627776 < most) :
    Calls Try.prog 3 #[.int .i64 most, a] w fun e w' => e = .returned (.bool true) ∧ Below w.heap.size w w' := by
  go_enter Try.func3, Try.ntmps3
  go_wp2_with fail
  refine (first13 w).mono ?_
  rintro e w1 ⟨rfl, hb⟩
  go_wp2_with fail
  refine (store_new 1 (by omega) (by omega) _).mono ?_
  rintro e w2 ⟨b, bl, br, rfl, H1⟩
  have hb2 := Below.of_kept hb hb.size H1.kept (fun _ h => h.elim)
  go_wp2_with fail
  refine (meter_new_bad hbad).mono ?_
  rintro e w3 ⟨rfl, rfl⟩
  rcases hbad with h | h
  · go_wp2_with (first
      | (go_at_call 12; go_must (refine meter_nil_raise.mono ?_; rintro e w5 ⟨rfl, rfl⟩))
      | (go_at_call 13; go_must (refine meter_nil_value.mono ?_; rintro e w5 ⟨rfl, rfl⟩))
      | (go_at_call 14; go_must (refine meter_nil_most.mono ?_; rintro e w5 ⟨rfl, rfl⟩))
      | (go_at_call 15; go_must (refine meter_nil_full.mono ?_; rintro e w5 ⟨rfl, m, rfl⟩)))
    go_ret
    exact ⟨rfl, below_drewN hb2 _⟩
  · have h0 : ¬ most < 0 := by omega
    go_wp2_with (first
      | (go_at_call 12; go_must (refine meter_nil_raise.mono ?_; rintro e w5 ⟨rfl, rfl⟩))
      | (go_at_call 13; go_must (refine meter_nil_value.mono ?_; rintro e w5 ⟨rfl, rfl⟩))
      | (go_at_call 14; go_must (refine meter_nil_most.mono ?_; rintro e w5 ⟨rfl, rfl⟩))
      | (go_at_call 15; go_must (refine meter_nil_full.mono ?_; rintro e w5 ⟨rfl, m, rfl⟩)))
    go_ret
    exact ⟨rfl, below_drewN hb2 _⟩

theorem raise_facts {n most c : Int} (_h0 : 0 ≤ n) (hm : n ≤ most) (hc : c ≤ 9223372036854775807) :
    n ≤ raiseN n most c ∧ raiseN n most c ≤ n + 1 ∧ raiseN n most c ≤ most ∧ raiseC n most c ≤ 9223372036854775807 := by
  unfold raiseN raiseC spendC
  repeat' split
  all_goals omega
theorem tmod_facts (z : Int) : -4 ≤ (z.tdiv 4).tmod 5 ∧ (z.tdiv 4).tmod 5 ≤ 4 := by
  generalize z.tdiv 4 = y
  have h1 := Int.tmod_lt_of_pos y (show (0 : Int) < 5 by omega)
  have h2 := Int.lt_tmod_of_pos y (show (0 : Int) < 5 by omega)
  omega

set_option maxHeartbeats 4000000 in
set_option maxRecDepth 100000 in
theorem meterPlays_good (most : Int) (ab ao : Nat) (len cap : Nat) (zs : List Int) (w : World) (h0 : 0 ≤ most) (h1 : most ≤ 1099511627776) (hl : len ≤ 9223372036854775807) (hab : ab < w.heap.size)
    (hc : ∀ i, i < len → w.cell? ⟨ab, ao + i, none⟩ = some (.int .i64 (zs.getD i 0))) (hz : ∀ i, i < len → -9223372036854775808 ≤ zs.getD i 0 ∧ zs.getD i 0 ≤ 9223372036854775807) :
    Calls Try.prog 3 #[.int .i64 most, .slice (some ⟨ab, ao, none⟩) len cap] w fun e w' => e = .returned (.bool true) ∧ Below w.heap.size w w' := by
  have hn0 : decide (most < 0) = false := by simp; omega
  have hn1 : decide (1099511627776 < most) = false := by simp; omega
  go_enter Try.func3, Try.ntmps3
  go_wp2_with fail
  refine (first13 w).mono ?_
  rintro e w1 ⟨rfl, hb⟩
  have H0 := (St.nil (fun _ => False) w).past hb
  go_wp2_with fail
  refine (store_new 1 (by omega) (by omega) _).mono ?_
  rintro e w2 ⟨b, bl, br, rfl, H1⟩
  have H1 : St _ w w2 [_, _, _] := H0.call0 H1
  go_wp2_with fail
  refine (meter_new h0 h1).mono ?_
  rintro e w3 ⟨bm, rfl, H2⟩
  have H3 : St _ w w3 [_, _, _, _] := H1.call0 H2
  clear H1 H2
  go_wp2_with fail
  refine (ref_new 1 (by omega) _).mono ?_
  rintro e w4 ⟨bx, vl, vc, rfl, H4⟩
  have H5 : St _ w w4 [_, _, _, _, _, _, _] := H3.call0 H4
  clear H3 H4 H0 hb
  go_wp2
  have H6 : St _ w _ [_, _, _, _] := (H5.alloc #[.pointer (some ⟨bx, 0, none⟩), .int .i64 0, .int .i64 most] 36).pick [4, 5, 0, 1]
  clear H5
  go_loopw [10, 11, 12, 62] (fun _ _ _ i wr => ∃ (k : Nat) (n c : Int), k ≤ len ∧ i = .int .i64 k ∧ 0 ≤ n ∧ n ≤ most ∧ c ≤ 9223372036854775807 ∧ St (fun _ => False) w wr [MeterB bm b n most,
     StoreB b (.slice (some ⟨bl, 0, none⟩) 1 1) (.slice none 0 0) (.slice (some ⟨br, 0, none⟩) 1 1) c, RefMeterB w4.heap.size bx n most, RefB bx vl (.slice none 0 0) c vc])
     (fun _ _ _ i _ => len - (intOf i).toNat)
  case atStart => exact ⟨0, 0, -1, by omega, rfl, by omega, by omega, by omega, H6⟩
  case round =>
    clear H6
    obtain ⟨k, n, c, hk, rfl, hn0', hnm, hcm, H⟩ := hrel
    by_cases hlt : k < len
    · have hx := (((H.below (B := w.heap.size) (Nat.le_refl _) (fun _ h => h.elim)).cell (p := ⟨ab, ao + k, none⟩) hab).trans (hc k hlt))
      have hzk := hz k hlt
      obtain ⟨z, hzz⟩ : ∃ z, zs.getD k 0 = z := ⟨_, rfl⟩
      rw [hzz] at hx hzk
      clear hzz
      by_cases h60 : 60 ≤ k
      · go_wp2
        go_ret
        exact ⟨rfl, H.below (Nat.le_refl _) (fun _ h => h.elim)⟩
      · go_wp2_with fail
        refine (meter_value H.sep).mono ?_
        rintro e w5 ⟨rfl, rfl⟩
        go_wp2_with fail
        · obtain ⟨S1, K1, G1⟩ := St.call (l1 := [_, _]) H
          refine (meter_raise hn0' h1 hcm K1).mono ?_
          rintro e w6 ⟨rfl, H7⟩
          have H8 : St _ w w6 [_, _, _, _] := (G1 _ _ H7).pick [2, 3, 0, 1]
          clear H7 K1 G1 H
          go_wp2_with fail
          obtain ⟨S1, K1, G1⟩ := St.call (l1 := [_, _]) H8
          refine (ref_raise hn0' h1 hnm hcm K1).mono ?_
          rintro e w7 ⟨rfl, H7⟩
          have H9 : St _ w w7 [_, _, _, _] := (G1 _ _ H7).pick [2, 3, 0, 1]
          obtain ⟨q1, q2, q3, q4⟩ := raise_facts hn0' hnm hcm
          generalize raiseN n most c = n2 at *
          generalize raiseC n most c = c2 at *
          clear H7 K1 G1 H8
          go_wp2_with fail

          have c9 := H9.cell 2 1 rfl rfl
          have b3 : decide (n2 < n) = false := by simp; omega
          have b4 : decide (n + 1 < n2) = false := by simp; omega
          by_cases hq : most ≤ n2
          · have b1 : decide (most ≤ n2) = true := by simpa using hq
            have b2 : (n2 == most) = true := by simp; omega
            go_quiet (first
              | (go_at_call 13; exact Calls.quiet_of_same (meter_value (H9.drewN _).sep))
              | (go_at_call 15; exact Calls.quiet_of (meter_full (H9.drewN _).sep))
              | (go_at_call 14; exact Calls.quiet_of_same (meter_most (H9.drewN _).sep)))
            have H10 := H9.drewN nq
            clear b1 b2 b3 b4
            go_wp2
            go_roundw
            case rel => exact ⟨k + 1, n2, _, by omega, by go_num, by omega, by omega, by omega, H10⟩
            case measure => simp [intOf]; omega
          · have b1 : decide (most ≤ n2) = false := by simpa using hq
            have b2 : (n2 == most) = false := by simp; omega
            go_quiet (first
              | (go_at_call 13; exact Calls.quiet_of_same (meter_value (H9.drewN _).sep))
              | (go_at_call 15; exact Calls.quiet_of (meter_full (H9.drewN _).sep))
              | (go_at_call 14; exact Calls.quiet_of_same (meter_most (H9.drewN _).sep)))
            have H10 := H9.drewN nq
            clear b1 b2 b3 b4
            go_wp2
            go_roundw
            case rel => exact ⟨k + 1, n2, _, by omega, by go_num, by omega, by omega, by omega, H10⟩
            case measure => simp [intOf]; omega
        · obtain ⟨S1, K1, G1⟩ := St.call (l1 := [_, _]) H
          refine (meter_raise hn0' h1 hcm K1).mono ?_
          rintro e w6 ⟨rfl, H7⟩
          have H8 : St _ w w6 [_, _, _, _] := (G1 _ _ H7).pick [2, 3, 0, 1]
          clear H7 K1 G1 H
          go_wp2_with fail
          obtain ⟨S1, K1, G1⟩ := St.call (l1 := [_, _]) H8
          refine (ref_raise hn0' h1 hnm hcm K1).mono ?_
          rintro e w7 ⟨rfl, H7⟩
          have H9 : St _ w w7 [_, _, _, _] := (G1 _ _ H7).pick [2, 3, 0, 1]
          obtain ⟨q1, q2, q3, q4⟩ := raise_facts hn0' hnm hcm
          generalize raiseN n most c = n2 at *
          generalize raiseC n most c = c2 at *
          clear H7 K1 G1 H8
          go_wp2_with fail

          have c9 := H9.cell 2 1 rfl rfl
          have b3 : decide (n2 < n) = false := by simp; omega
          have b4 : decide (n + 1 < n2) = false := by simp; omega
          by_cases hq : most ≤ n2
          · have b1 : decide (most ≤ n2) = true := by simpa using hq
            have b2 : (n2 == most) = true := by simp; omega
            go_quiet (first
              | (go_at_call 13; exact Calls.quiet_of_same (meter_value (H9.drewN _).sep))
              | (go_at_call 15; exact Calls.quiet_of (meter_full (H9.drewN _).sep))
              | (go_at_call 14; exact Calls.quiet_of_same (meter_most (H9.drewN _).sep)))
            have H10 := H9.drewN nq
            clear b1 b2 b3 b4
            go_wp2
            go_roundw
            case rel => exact ⟨k + 1, n2, _, by omega, by go_num, by omega, by omega, by omega, H10⟩
            case measure => simp [intOf]; omega
          · have b1 : decide (most ≤ n2) = false := by simpa using hq
            have b2 : (n2 == most) = false := by simp; omega
            go_quiet (first
              | (go_at_call 13; exact Calls.quiet_of_same (meter_value (H9.drewN _).sep))
              | (go_at_call 15; exact Calls.quiet_of (meter_full (H9.drewN _).sep))
              | (go_at_call 14; exact Calls.quiet_of_same (meter_most (H9.drewN _).sep)))
            have H10 := H9.drewN nq
            clear b1 b2 b3 b4
            go_wp2
            go_roundw
            case rel => exact ⟨k + 1, n2, _, by omega, by go_num, by omega, by omega, by omega, H10⟩
            case measure => simp [intOf]; omega
        · have hy := tmod_facts z
          obtain ⟨S1, K1, G1⟩ := St.call (l1 := [_]) (H.pick [1, 0, 2, 3])
          refine (store_limit (by omega) K1).mono ?_
          rintro e w6 ⟨rfl, H7⟩
          have H8 : St _ w w6 [_, _, _, _] := (G1 _ _ H7).pick [1, 0, 2, 3]
          clear H7 K1 G1 H
          have c7 := H8.cell 2 0 rfl rfl
          have c8 := H8.cell 3 2 rfl rfl
          have f8 := H8.free 3 2 rfl
          by_cases hy2 : -1 ≤ (z.tdiv 4).tmod 5
          · go_wp2_with fail
            have H9 : St _ w _ [_, _, _, _] := H8.set 3 rfl 2 (.int .i64 ((z.tdiv 4).tmod 5))
            rw [show max ((z.tdiv 4).tmod 5) (-1) = (z.tdiv 4).tmod 5 from by omega] at H9
            clear H8 c7 c8 f8
            obtain ⟨n2, hn2⟩ : ∃ n2, n2 = n := ⟨_, rfl⟩
            subst hn2
            have c9 := H9.cell 2 1 rfl rfl
            have b3 : decide (n2 < n2) = false := by simp
            have b4 : decide (n2 + 1 < n2) = false := by simp; omega
            by_cases hq : most ≤ n2
            · have b1 : decide (most ≤ n2) = true := by simpa using hq
              have b2 : (n2 == most) = true := by simp; omega
              go_quiet (first
                | (go_at_call 13; exact Calls.quiet_of_same (meter_value (H9.drewN _).sep))
                | (go_at_call 15; exact Calls.quiet_of (meter_full (H9.drewN _).sep))
                | (go_at_call 14; exact Calls.quiet_of_same (meter_most (H9.drewN _).sep)))
              have H10 := H9.drewN nq
              clear b1 b2 b3 b4
              go_wp2
              go_roundw
              case rel => exact ⟨k + 1, n2, _, by omega, by go_num, by omega, by omega, by omega, H10⟩
              case measure => simp [intOf]; omega
            · have b1 : decide (most ≤ n2) = false := by simpa using hq
              have b2 : (n2 == most) = false := by simp; omega
              go_quiet (first
                | (go_at_call 13; exact Calls.quiet_of_same (meter_value (H9.drewN _).sep))
                | (go_at_call 15; exact Calls.quiet_of (meter_full (H9.drewN _).sep))
                | (go_at_call 14; exact Calls.quiet_of_same (meter_most (H9.drewN _).sep)))
              have H10 := H9.drewN nq
              clear b1 b2 b3 b4
              go_wp2
              go_roundw
              case rel => exact ⟨k + 1, n2, _, by omega, by go_num, by omega, by omega, by omega, H10⟩
              case measure => simp [intOf]; omega
          · go_wp2_with fail
            have H9 : St _ w _ [_, _, _, _] := H8.set 3 rfl 2 (.int .i64 (-1))
            rw [show max ((z.tdiv 4).tmod 5) (-1) = -1 from by omega] at H9
            clear H8 c7 c8 f8
            obtain ⟨n2, hn2⟩ : ∃ n2, n2 = n := ⟨_, rfl⟩
            subst hn2
            have c9 := H9.cell 2 1 rfl rfl
            have b3 : decide (n2 < n2) = false := by simp
            have b4 : decide (n2 + 1 < n2) = false := by simp; omega
            by_cases hq : most ≤ n2
            · have b1 : decide (most ≤ n2) = true := by simpa using hq
              have b2 : (n2 == most) = true := by simp; omega
              go_quiet (first
                | (go_at_call 13; exact Calls.quiet_of_same (meter_value (H9.drewN _).sep))
                | (go_at_call 15; exact Calls.quiet_of (meter_full (H9.drewN _).sep))
                | (go_at_call 14; exact Calls.quiet_of_same (meter_most (H9.drewN _).sep)))
              have H10 := H9.drewN nq
              clear b1 b2 b3 b4
              go_wp2
              go_roundw
              case rel => exact ⟨k + 1, n2, _, by omega, by go_num, by omega, by omega, by omega, H10⟩
              case measure => simp [intOf]; omega
            · have b1 : decide (most ≤ n2) = false := by simpa using hq
              have b2 : (n2 == most) = false := by simp; omega
              go_quiet (first
                | (go_at_call 13; exact Calls.quiet_of_same (meter_value (H9.drewN _).sep))
                | (go_at_call 15; exact Calls.quiet_of (meter_full (H9.drewN _).sep))
                | (go_at_call 14; exact Calls.quiet_of_same (meter_most (H9.drewN _).sep)))
              have H10 := H9.drewN nq
              clear b1 b2 b3 b4
              go_wp2
              go_roundw
              case rel => exact ⟨k + 1, n2, _, by omega, by go_num, by omega, by omega, by omega, H10⟩
              case measure => simp [intOf]; omega
        · obtain ⟨S1, K1, G1⟩ := St.call (l1 := [_]) (H.pick [1, 0, 2, 3])
          refine (store_crash_nil K1).mono ?_
          rintro e w6 ⟨rfl, H7⟩
          have H8 : St _ w w6 [_, _, _, _] := (G1 _ _ H7).pick [3, 0, 1, 2]
          clear H7 K1 G1 H
          have c7 := H8.cell 3 0 rfl rfl
          go_wp2_with fail
          obtain ⟨S1, K1, G1⟩ := St.call (l1 := [_]) H8
          refine (ref_crash_nil K1).mono ?_
          rintro e w7 ⟨rfl, H7⟩
          have H9 : St _ w w7 [_, _, _, _] := (G1 _ _ H7).pick [2, 1, 3, 0]
          clear H7 K1 G1 H8 c7
          go_wp2_with fail
          obtain ⟨n2, hn2⟩ : ∃ n2, n2 = n := ⟨_, rfl⟩
          subst hn2

          have c9 := H9.cell 2 1 rfl rfl
          have b3 : decide (n2 < n2) = false := by simp
          have b4 : decide (n2 + 1 < n2) = false := by simp; omega
          by_cases hq : most ≤ n2
          · have b1 : decide (most ≤ n2) = true := by simpa using hq
            have b2 : (n2 == most) = true := by simp; omega
            go_quiet (first
              | (go_at_call 13; exact Calls.quiet_of_same (meter_value (H9.drewN _).sep))
              | (go_at_call 15; exact Calls.quiet_of (meter_full (H9.drewN _).sep))
              | (go_at_call 14; exact Calls.quiet_of_same (meter_most (H9.drewN _).sep)))
            have H10 := H9.drewN nq
            clear b1 b2 b3 b4
            go_wp2
            go_roundw
            case rel => exact ⟨k + 1, n2, _, by omega, by go_num, by omega, by omega, by omega, H10⟩
            case measure => simp [intOf]; omega
          · have b1 : decide (most ≤ n2) = false := by simpa using hq
            have b2 : (n2 == most) = false := by simp; omega
            go_quiet (first
              | (go_at_call 13; exact Calls.quiet_of_same (meter_value (H9.drewN _).sep))
              | (go_at_call 15; exact Calls.quiet_of (meter_full (H9.drewN _).sep))
              | (go_at_call 14; exact Calls.quiet_of_same (meter_most (H9.drewN _).sep)))
            have H10 := H9.drewN nq
            clear b1 b2 b3 b4
            go_wp2
            go_roundw
            case rel => exact ⟨k + 1, n2, _, by omega, by go_num, by omega, by omega, by omega, H10⟩
            case measure => simp [intOf]; omega
    · go_wp2
      go_ret
      exact ⟨rfl, H.below (Nat.le_refl _) (fun _ h => h.elim)⟩

set_option maxHeartbeats 4000000 in
set_option maxRecDepth 100000 in
theorem meterPlays_empty (most : Int) (ad : Option Addr) (cap : Nat) (w : World) (h0 : 0 ≤ most) (h1 : most ≤ 1099511627776) :
    Calls Try.prog 3 #[.int .i64 most, .slice ad 0 cap] w fun e w' => e = .returned (.bool true) ∧ Below w.heap.size w w' := by
  have hn0 : decide (most < 0) = false := by simp; omega
  have hn1 : decide (1099511627776 < most) = false := by simp; omega
  go_enter Try.func3, Try.ntmps3
  go_wp2_with fail
  refine (first13 w).mono ?_
  rintro e w1 ⟨rfl, hb⟩
  have H0 := (St.nil (fun _ => False) w).past hb
  go_wp2_with fail
  refine (store_new 1 (by omega) (by omega) _).mono ?_
  rintro e w2 ⟨b, bl, br, rfl, H1⟩
  have H1 : St _ w w2 [_, _, _] := H0.call0 H1
  go_wp2_with fail
  refine (meter_new h0 h1).mono ?_
  rintro e w3 ⟨bm, rfl, H2⟩
  have H3 : St _ w w3 [_, _, _, _] := H1.call0 H2
  clear H1 H2
  go_wp2_with fail
  refine (ref_new 1 (by omega) _).mono ?_
  rintro e w4 ⟨bx, vl, vc, rfl, H4⟩
  have H5 : St _ w w4 [_, _, _, _, _, _, _] := H3.call0 H4
  clear H3 H4 H0 hb
  go_wp2
  refine wp_loop_rounds 1 ?_
  rw [rounds_succ]
  go_wp2
  go_ret
  exact ⟨rfl, (H5.skip _).below (Nat.le_refl _) (fun _ h => h.elim)⟩

theorem meterPlays_walk (a0 : Int) (a1 : Option Addr) (len1 cap1 : Nat) (z1 : List Int) (w : World) (_w0 : (Lit.int .i64 a0).wf = true) (w1 : IsRow .i64 w a1 len1 cap1 z1) :
    Calls Try.prog 3 #[.int .i64 a0, .slice a1 len1 cap1] w fun e w' => e = .returned (.bool true) ∧ Below w.heap.size w w' := by
  by_cases hbad : a0 < 0 ∨ 1099511627776 < a0
  · exact meterPlays_bad _ _ _ hbad
  · rcases w1 with ⟨rfl, rfl, rfl, rfl⟩ | ⟨x, rfl, hl, hm, hz, hcell, hwz⟩
    · exact meterPlays_empty _ _ _ _ (by omega) (by omega)
    · by_cases h0 : len1 = 0
      · subst h0
        exact meterPlays_empty _ _ _ _ (by omega) (by omega)
      · obtain ⟨b, off, spot⟩ := x
        have hc := hcell 0 (by omega)
        have hspot : spot = none := by simpa [Addr.add] using World.cell?_spot hc
        subst hspot
        have hadd : ∀ i, (⟨b, off, none⟩ : Addr).add i = ⟨b, off + i, none⟩ := fun i => by unfold Addr.add; split <;> simp_all
        refine meterPlays_good a0 b off len1 cap1 z1 w (by omega) (by omega) (by unfold maxLen at hm; omega) (World.block_lt_of_cell? _ _ hc) (fun i hi => ?_) (fun i hi => ?_)
        · rw [← hadd]; exact hcell i (by omega)
        · have := hwz (z1.getD i 0) (by simp only [List.getD, List.getElem?_eq_getElem (show i < z1.length by omega), Option.getD_some]; exact List.getElem_mem _)
          simp only [Lit.wf, Bool.and_eq_true, decide_eq_true_eq] at this
          have e1 : IntKind.i64.min = -9223372036854775808 := rfl
          have e2 : IntKind.i64.max = 9223372036854775807 := rfl
          omega

end Go.Proofs.Ytbikjhmdpgoofaa
