/- The walks of the reference's ring: Right, well, Block, Start. Conditions: the numbers are int64s where a sum needs it. -/
import Derived.Test.YtbikjhmdpgoofabRingM
import Derived.Test.YtbikjhmdpgoofabRet
namespace Go.Proofs.Ytbikjhmdpgoofab
open Go.RowKit

set_option maxHeartbeats 1000000 in
theorem ref_right (f l n : Int) (w : World) : Calls Try.prog 64 #[ringV f l, .int .i64 n] w fun e w' => e = .returned (.bool (rightI f l n)) ∧ Below w.heap.size w w' := by
  have H := (St.nil (fun _ => False) w).allocAt rfl #[.int .i64 f, .int .i64 l] 23
  unfold ringV
  by_cases h : soundI f l = true
  · have hs := sound_true h
    have e1 : rightI f l n = decide (f + l ≤ n) := by simp [rightI, h]
    rw [e1]
    have x1 : IntKind.i64.wrap (f + l) = f + l := by rw [IntKind.wrap_i64]; omega
    clear h e1
    go_enter Try.func64, Try.ntmps64
    go_wp2
    go_ret
    exact ⟨rfl, H.below (Nat.le_refl _) (fun _ h => h.elim)⟩
  · have hs : soundI f l = false := by simpa using h
    have e1 : rightI f l n = false := by simp [rightI, hs]
    rw [e1]
    have hs2 : ¬ (0 ≤ f ∧ f ≤ 4096 ∧ 1 ≤ l ∧ l ≤ 4096) := by intro hc; apply h; simp [soundI, hc]
    have hs3 := Lib.hid hs2
    clear h hs e1 hs2
    go_enter Try.func64, Try.ntmps64
    go_wp2
    all_goals
      go_ret
      exact ⟨ret_bool (by have := hs3.out; first | rfl | (simp; omega)), H.below (Nat.le_refl _) (fun _ h => h.elim)⟩

set_option maxHeartbeats 1000000 in
theorem ref_well (f l v : Int) (w : World) : Calls Try.prog 87 #[ringV f l, .int .i64 v] w fun e w' => e = .returned (.bool (soundI f l && placeI v)) ∧ Below w.heap.size w w' := by
  have H := (St.nil (fun _ => False) w).allocAt rfl #[.int .i64 f, .int .i64 l] 23
  unfold ringV
  go_enter Try.func87, Try.ntmps87
  go_wp2
  all_goals
    go_ret
    exact ⟨ret_boolI (by simp [soundI, placeI]; omega), H.below (Nat.le_refl _) (fun _ h => h.elim)⟩

set_option maxHeartbeats 1000000 in
theorem ref_block (f l v : Int) (w : World) : Calls Try.prog 67 #[ringV f l, .int .i64 v] w fun e w' => e = .returned (.int .i64 (blockI f l v)) ∧ Below w.heap.size w w' := by
  have H := (St.nil (fun _ => False) w).allocAt rfl #[.int .i64 f, .int .i64 l] 23
  obtain ⟨s, hs⟩ : ∃ s, (soundI f l && placeI v) = s := ⟨_, rfl⟩
  unfold ringV
  cases s
  · have e1 : blockI f l v = -1 := by unfold blockI; rw [if_neg (by simp [hs])]
    rw [e1]
    clear e1
    go_enter Try.func67, Try.ntmps67
    go_wp2_with fail
    refine (ref_well f l v _).mono ?_
    rintro e w1 ⟨rfl, hb⟩
    have H1 := H.past hb
    rw [hs]
    go_wp2
    go_ret
    exact ⟨rfl, H1.below (Nat.le_refl _) (fun _ h => h.elim)⟩
  · have e1 : blockI f l v = f + v % l := by unfold blockI; rw [if_pos (by simpa using hs)]
    rw [e1]
    have hs2 : soundI f l = true ∧ placeI v = true := by simpa using hs
    have g1 := sound_true hs2.1
    have g2 := place_true hs2.2
    clear e1 hs2
    go_enter Try.func67, Try.ntmps67
    go_wp2_with fail
    refine (ref_well f l v _).mono ?_
    rintro e w1 ⟨rfl, hb⟩
    have H1 := H.past hb
    have c0 := H1.cell 0 0 rfl rfl
    have c1 := H1.cell 0 1 rfl rfl
    rw [hs]
    clear hs
    have hm : v.tmod l = v % l := Int.tmod_eq_emod_of_nonneg (by omega)
    have hm1 : 0 ≤ v % l := Int.emod_nonneg _ (by omega)
    have hm2 : v % l < l := Int.emod_lt_of_pos _ (by omega)
    have hl0 : l ≠ 0 := by omega
    go_wp2_with fail
    go_quiet (fail)
    have H2 := H1.drewN nq
    go_wp2
    go_ret
    exact ⟨rfl, H2.below (Nat.le_refl _) (fun _ h => h.elim)⟩

theorem quot_run {v n l : Int} (h1 : 1 ≤ n) (h2 : n ≤ l) : (v + n - 1) / l = if l < v % l + n then v / l + 1 else v / l := by
  have e := Int.emod_add_mul_ediv v l
  have hm1 : 0 ≤ v % l := Int.emod_nonneg _ (by omega)
  have hm2 : v % l < l := Int.emod_lt_of_pos _ (by omega)
  have e2 : v + n - 1 = (v % l + n - 1) + l * (v / l) := by omega
  rw [e2, Int.add_mul_ediv_left _ _ (by omega)]
  split
  · have : (v % l + n - 1) / l = 1 := by
      rw [show v % l + n - 1 = (v % l + n - 1 - l) + l * 1 by omega, Int.add_mul_ediv_left _ _ (by omega), Int.ediv_eq_zero_of_lt (by omega) (by omega)]
      rfl
    omega
  · rw [Int.ediv_eq_zero_of_lt (by omega) (by omega)]
    omega

set_option maxHeartbeats 1000000 in
theorem ref_start (f l v n : Int) (w : World) : Calls Try.prog 65 #[ringV f l, .int .i64 v, .int .i64 n] w fun e w' => e = .returned (.int .i64 (startI f l v n)) ∧ Below w.heap.size w w' := by
  have H := (St.nil (fun _ => False) w).allocAt rfl #[.int .i64 f, .int .i64 l] 23
  obtain ⟨s, hs⟩ : ∃ s, (soundI f l && placeI v) = s := ⟨_, rfl⟩
  unfold ringV
  cases s
  · have e1 : startI f l v n = -1 := by unfold startI; rw [hs]; rfl
    rw [e1]
    clear e1
    go_enter Try.func65, Try.ntmps65
    go_wp2_with fail
    refine (ref_well f l v _).mono ?_
    rintro e w1 ⟨rfl, hb⟩
    have H1 := H.past hb
    rw [hs]
    go_wp2
    go_ret
    exact ⟨rfl, H1.below (Nat.le_refl _) (fun _ h => h.elim)⟩
  · have hs2 : soundI f l = true ∧ placeI v = true := by simpa using hs
    have g1 := sound_true hs2.1
    have g2 := place_true hs2.2
    have e1 : startI f l v n = if decide (1 ≤ n) && decide (n ≤ l) then (if l < v % l + n then v - v % l + l else v) else -1 := by unfold startI; rw [hs, Bool.true_and]
    by_cases hn : 1 ≤ n ∧ n ≤ l
    · have e2 : startI f l v n = if l < v % l + n then v - v % l + l else v := by rw [e1]; simp [hn]
      have hq := quot_run (v := v) hn.1 hn.2
      have hd := Int.emod_add_mul_ediv v l
      have hm1 : 0 ≤ v % l := Int.emod_nonneg _ (by omega)
      have hm2 : v % l < l := Int.emod_lt_of_pos _ (by omega)
      have hd0 : 0 ≤ v / l := Int.ediv_nonneg (by omega) (by omega)
      have hd1 : v / l ≤ v := Int.ediv_le_self _ (by omega)
      have t1 : v.tdiv l = v / l := Int.tdiv_eq_ediv_of_nonneg (by omega)
      have t2 : (v + n - 1).tdiv l = (v + n - 1) / l := Int.tdiv_eq_ediv_of_nonneg (by omega)
      have x1 : IntKind.i64.wrap (v + n) = v + n := by rw [IntKind.wrap_i64]; omega
      have x2 : IntKind.i64.wrap (v + n - 1) = v + n - 1 := by rw [IntKind.wrap_i64]; omega
      have x3 : IntKind.i64.wrap (v / l) = v / l := by rw [IntKind.wrap_i64]; omega
      have hl0 : l ≠ 0 := by omega
      have n1 : decide (n < 1) = false := by simp; omega
      have n2 : decide (l < n) = false := by simp; omega
      have hl1 : (l == -1) = false := by simp; omega
      obtain ⟨q, hqq⟩ : ∃ q, v / l = q := ⟨_, rfl⟩
      rw [hqq] at hq hd hd0 hd1 t1 x3
      by_cases hg : l < v % l + n
      · rw [if_pos hg] at hq e2
        rw [hq] at t2
        have hmul : (q + 1) * l = v - v % l + l := by rw [Int.add_mul, Int.mul_comm q l]; omega
        have x4 : IntKind.i64.wrap (q + 1) = q + 1 := by rw [IntKind.wrap_i64]; omega
        have x5 : IntKind.i64.wrap (v - v % l + l) = v - v % l + l := by rw [IntKind.wrap_i64]; omega
        have z : (q == q + 1) = false := by simp; omega
        rw [e2]
        clear e1 e2 hq hqq hd
        go_enter Try.func65, Try.ntmps65
        go_wp2_with fail
        refine (ref_well f l v _).mono ?_
        rintro e w1 ⟨rfl, hb⟩
        have H1 := H.past hb
        have c0 := H1.cell 0 0 rfl rfl
        have c1 := H1.cell 0 1 rfl rfl
        rw [hs]
        clear hs
        go_wp2_with fail
        go_quiet (fail)
        have H2 := H1.drewN nq
        have c0 := H2.cell 0 0 rfl rfl
        have c1 := H2.cell 0 1 rfl rfl
        go_wp2
        go_ret
        exact ⟨rfl, H2.below (Nat.le_refl _) (fun _ h => h.elim)⟩
      · rw [if_neg hg] at hq e2
        rw [hq] at t2
        rw [e2]
        clear e1 e2 hq hqq hd
        go_enter Try.func65, Try.ntmps65
        go_wp2_with fail
        refine (ref_well f l v _).mono ?_
        rintro e w1 ⟨rfl, hb⟩
        have H1 := H.past hb
        have c0 := H1.cell 0 0 rfl rfl
        have c1 := H1.cell 0 1 rfl rfl
        rw [hs]
        clear hs
        go_wp2_with fail
        go_quiet (fail)
        have H2 := H1.drewN nq
        go_wp2
        go_ret
        exact ⟨rfl, H2.below (Nat.le_refl _) (fun _ h => h.elim)⟩
    · have e2 : startI f l v n = -1 := by
        rw [e1, if_neg]
        simp only [Bool.and_eq_true, decide_eq_true_eq]
        exact hn
      rw [e2]
      clear e1 e2
      by_cases h1 : n < 1
      · have n1 : decide (n < 1) = true := by simpa using h1
        go_enter Try.func65, Try.ntmps65
        go_wp2_with fail
        refine (ref_well f l v _).mono ?_
        rintro e w1 ⟨rfl, hb⟩
        have H1 := H.past hb
        have c1 := H1.cell 0 1 rfl rfl
        rw [hs]
        clear hs
        go_wp2
        go_ret
        exact ⟨rfl, H1.below (Nat.le_refl _) (fun _ h => h.elim)⟩
      · have n1 : decide (n < 1) = false := by simpa using h1
        have n2 : decide (l < n) = true := by simp; omega
        go_enter Try.func65, Try.ntmps65
        go_wp2_with fail
        refine (ref_well f l v _).mono ?_
        rintro e w1 ⟨rfl, hb⟩
        have H1 := H.past hb
        have c1 := H1.cell 0 1 rfl rfl
        rw [hs]
        clear hs
        go_wp2
        go_ret
        exact ⟨rfl, H1.below (Nat.le_refl _) (fun _ h => h.elim)⟩

end Go.Proofs.Ytbikjhmdpgoofab
