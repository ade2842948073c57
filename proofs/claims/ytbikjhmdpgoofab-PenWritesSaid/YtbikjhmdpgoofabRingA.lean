/- The walks of the ring: sound, Right, place, Block, Start, Room. No condition, but that the numbers are int64s. -/
import Derived.Test.YtbikjhmdpgoofabSep
import Derived.Test.YtbikjhmdpgoofabStoreM
namespace Go.Proofs.Ytbikjhmdpgoofab
open Go.RowKit

def soundI (f l : Int) : Bool := decide (0 ≤ f) && decide (f ≤ 4096) && decide (1 ≤ l) && decide (l ≤ 4096)
def placeI (v : Int) : Bool := decide (0 ≤ v) && decide (v ≤ 1125899906842624)
def ringV (f l : Int) : Value := .agg #[.int .i64 f, .int .i64 l]
def blockI (f l v : Int) : Int := if soundI f l && placeI v then f + v % l else -1
def startI (f l v n : Int) : Int := if soundI f l && placeI v && decide (1 ≤ n) && decide (n ≤ l) then (if l < v % l + n then v - v % l + l else v) else -1
def roomI (f l low v n : Int) : Bool := decide (0 ≤ startI f l v n) && decide (0 ≤ low) && decide (low ≤ v) && decide (startI f l v n + n ≤ low + l)
def rightI (f l n : Int) : Bool := soundI f l && decide (f + l ≤ n)

theorem ring_place (v : Int) (w : World) : Calls Try.prog 61 #[.int .i64 v] w fun e w' => e = .returned (.bool (placeI v)) ∧ w' = w := by
  by_cases h0 : 0 ≤ v
  · have e0 : decide (0 ≤ v) = true := by simpa using h0
    have e1 : placeI v = decide (v ≤ 1125899906842624) := by simp [placeI, h0]
    rw [e1]
    clear e1
    go_enter Try.func61, Try.ntmps61
    go_wp2
    go_ret
    exact ⟨rfl, rfl⟩
  · have e0 : decide (0 ≤ v) = false := by simpa using h0
    have e1 : placeI v = false := by simp [placeI, h0]
    rw [e1]
    clear e1
    go_enter Try.func61, Try.ntmps61
    go_wp2
    go_ret
    exact ⟨rfl, rfl⟩

theorem ring_sound (f l : Int) (w : World) : Calls Try.prog 60 #[ringV f l] w fun e w' => e = .returned (.bool (soundI f l)) ∧ Below w.heap.size w w' := by
  have H := (St.nil (fun _ => False) w).allocAt rfl #[.int .i64 f, .int .i64 l] 23
  unfold ringV
  go_enter Try.func60, Try.ntmps60
  go_wp2
  all_goals
    go_ret
    exact ⟨by congr 2; simp [soundI]; omega, H.below (Nat.le_refl _) (fun _ h => h.elim)⟩

theorem sound_true {f l : Int} (h : soundI f l = true) : 0 ≤ f ∧ f ≤ 4096 ∧ 1 ≤ l ∧ l ≤ 4096 := by simpa [soundI, and_assoc] using h
theorem place_true {v : Int} (h : placeI v = true) : 0 ≤ v ∧ v ≤ 1125899906842624 := by simpa [placeI] using h

theorem ring_right (f l n : Int) (w : World) : Calls Try.prog 59 #[ringV f l, .int .i64 n] w fun e w' => e = .returned (.bool (rightI f l n)) ∧ Below w.heap.size w w' := by
  have H := (St.nil (fun _ => False) w).allocAt rfl #[.int .i64 f, .int .i64 l] 23
  obtain ⟨s, hs⟩ : ∃ s, soundI f l = s := ⟨_, rfl⟩
  unfold ringV
  cases s
  · go_enter Try.func59, Try.ntmps59
    go_wp2_with fail
    refine (ring_sound f l _).mono ?_
    rintro e w1 ⟨rfl, hb⟩
    have H1 := H.past hb
    rw [hs]
    go_wp2
    go_ret
    exact ⟨by simp [rightI, hs], H1.below (Nat.le_refl _) (fun _ h => h.elim)⟩
  · have hs2 := sound_true hs
    go_enter Try.func59, Try.ntmps59
    go_wp2_with fail
    refine (ring_sound f l _).mono ?_
    rintro e w1 ⟨rfl, hb⟩
    have H1 := H.past hb
    have c0 := H1.cell 0 0 rfl rfl
    have c1 := H1.cell 0 1 rfl rfl
    rw [hs]
    have hs3 := Lib.hid hs
    clear hs
    go_wp2
    go_ret
    exact ⟨by simp [rightI, hs3.out], H1.below (Nat.le_refl _) (fun _ h => h.elim)⟩

set_option maxHeartbeats 1000000 in
theorem ring_block (f l v : Int) (w : World) : Calls Try.prog 11 #[ringV f l, .int .i64 v] w fun e w' => e = .returned (.int .i64 (blockI f l v)) ∧ Below w.heap.size w w' := by
  have H := (St.nil (fun _ => False) w).allocAt rfl #[.int .i64 f, .int .i64 l] 23
  obtain ⟨s, hs⟩ : ∃ s, soundI f l = s := ⟨_, rfl⟩
  obtain ⟨p, hp⟩ : ∃ p, placeI v = p := ⟨_, rfl⟩
  unfold ringV
  cases s
  · go_enter Try.func11, Try.ntmps11
    go_wp2_with fail
    refine (ring_sound f l _).mono ?_
    rintro e w1 ⟨rfl, hb⟩
    have H1 := H.past hb
    rw [hs]
    go_wp2
    go_ret
    exact ⟨by simp [blockI, hs], H1.below (Nat.le_refl _) (fun _ h => h.elim)⟩
  · have hs2 := sound_true hs
    go_enter Try.func11, Try.ntmps11
    go_wp2_with fail
    refine (ring_sound f l _).mono ?_
    rintro e w1 ⟨rfl, hb⟩
    have H1 := H.past hb
    have c0 := H1.cell 0 0 rfl rfl
    have c1 := H1.cell 0 1 rfl rfl
    rw [hs]
    have hs3 := Lib.hid hs
    clear hs
    cases p
    · go_wp2_with (go_at_call 61; refine (ring_place v _).mono ?_; rintro e w2 ⟨rfl, rfl⟩; rw [hp])
      go_ret
      exact ⟨by simp [blockI, hp], H1.below (Nat.le_refl _) (fun _ h => h.elim)⟩
    · have hp2 := place_true hp
      have hm : v.tmod l = v % l := Int.tmod_eq_emod_of_nonneg (by omega)
      have hm1 : 0 ≤ v % l := Int.emod_nonneg _ (by omega)
      have hm2 : v % l < l := Int.emod_lt_of_pos _ (by omega)
      have hl0 : l ≠ 0 := by omega
      go_wp2_with (go_at_call 61; refine (ring_place v _).mono ?_; rintro e w2 ⟨rfl, rfl⟩; rw [hp])
      go_quiet (fail)
      have H2 := H1.drewN nq
      go_wp2
      go_ret
      exact ⟨by simp [blockI, hp, hs3.out], H2.below (Nat.le_refl _) (fun _ h => h.elim)⟩

set_option maxHeartbeats 1000000 in
theorem ring_start (f l v n : Int) (w : World) : Calls Try.prog 10 #[ringV f l, .int .i64 v, .int .i64 n] w fun e w' => e = .returned (.int .i64 (startI f l v n)) ∧ Below w.heap.size w w' := by
  have H := (St.nil (fun _ => False) w).allocAt rfl #[.int .i64 f, .int .i64 l] 23
  obtain ⟨s, hs⟩ : ∃ s, soundI f l = s := ⟨_, rfl⟩
  obtain ⟨p, hp⟩ : ∃ p, placeI v = p := ⟨_, rfl⟩
  unfold ringV
  cases s
  · go_enter Try.func10, Try.ntmps10
    go_wp2_with fail
    refine (ring_sound f l _).mono ?_
    rintro e w1 ⟨rfl, hb⟩
    have H1 := H.past hb
    rw [hs]
    go_wp2
    go_ret
    exact ⟨by simp [startI, hs], H1.below (Nat.le_refl _) (fun _ h => h.elim)⟩
  · have hs2 := sound_true hs
    go_enter Try.func10, Try.ntmps10
    go_wp2_with fail
    refine (ring_sound f l _).mono ?_
    rintro e w1 ⟨rfl, hb⟩
    have H1 := H.past hb
    have c0 := H1.cell 0 0 rfl rfl
    have c1 := H1.cell 0 1 rfl rfl
    rw [hs]
    have hs3 := Lib.hid hs
    clear hs
    cases p
    · go_wp2_with (go_at_call 61; refine (ring_place v _).mono ?_; rintro e w2 ⟨rfl, rfl⟩; rw [hp])
      go_ret
      exact ⟨by simp [startI, hp], H1.below (Nat.le_refl _) (fun _ h => h.elim)⟩
    · have hp2 := place_true hp
      by_cases hn : 1 ≤ n ∧ n ≤ l
      · have hm : v.tmod l = v % l := Int.tmod_eq_emod_of_nonneg (by omega)
        have hm1 : 0 ≤ v % l := Int.emod_nonneg _ (by omega)
        have hm2 : v % l < l := Int.emod_lt_of_pos _ (by omega)
        have hl0 : l ≠ 0 := by omega
        have n1 : decide (n < 1) = false := by simp; omega
        have n2 : decide (l < n) = false := by simp; omega
        have hst : startI f l v n = if l < v % l + n then v - v % l + l else v := by simp [startI, hp, hs3.out, hn]
        by_cases hg : l < v % l + n
        · have n3 : decide (l < v % l + n) = true := by simpa using hg
          rw [if_pos hg] at hst
          have hst2 := Lib.hid hst
          clear hst
          go_wp2_with (go_at_call 61; refine (ring_place v _).mono ?_; rintro e w2 ⟨rfl, rfl⟩; rw [hp])
          go_quiet (fail)
          have H2 := H1.drewN nq
          have c2 := H2.cell 0 0 rfl rfl
          have c3 := H2.cell 0 1 rfl rfl
          go_wp2_with fail
          go_quiet (fail)
          have H3 := H2.drewN nq
          go_wp2
          go_ret
          exact ⟨by rw [hst2.out]; rfl, H3.below (Nat.le_refl _) (fun _ h => h.elim)⟩
        · have n3 : decide (l < v % l + n) = false := by simpa using hg
          rw [if_neg hg] at hst
          have hst2 := Lib.hid hst
          clear hst
          go_wp2_with (go_at_call 61; refine (ring_place v _).mono ?_; rintro e w2 ⟨rfl, rfl⟩; rw [hp])
          go_quiet (fail)
          have H2 := H1.drewN nq
          have c2 := H2.cell 0 0 rfl rfl
          have c3 := H2.cell 0 1 rfl rfl
          go_wp2
          go_ret
          exact ⟨by rw [hst2.out]; rfl, H2.below (Nat.le_refl _) (fun _ h => h.elim)⟩
      · have hst : startI f l v n = -1 := by
          unfold startI
          rw [if_neg]
          simp only [Bool.and_eq_true, decide_eq_true_eq]
          omega
        have hst2 := Lib.hid hst
        clear hst
        by_cases h1 : n < 1
        · have n1 : decide (n < 1) = true := by simpa using h1
          go_wp2_with (go_at_call 61; refine (ring_place v _).mono ?_; rintro e w2 ⟨rfl, rfl⟩; rw [hp])
          go_ret
          exact ⟨by rw [hst2.out]; rfl, H1.below (Nat.le_refl _) (fun _ h => h.elim)⟩
        · have n1 : decide (n < 1) = false := by simpa using h1
          have n2 : decide (l < n) = true := by simp; omega
          go_wp2_with (go_at_call 61; refine (ring_place v _).mono ?_; rintro e w2 ⟨rfl, rfl⟩; rw [hp])
          go_ret
          exact ⟨by rw [hst2.out]; rfl, H1.below (Nat.le_refl _) (fun _ h => h.elim)⟩

theorem start_range {f l v n : Int} (h : 0 ≤ startI f l v n) : 0 ≤ v ∧ v ≤ 1125899906842624 ∧ 1 ≤ l ∧ l ≤ 4096 ∧ 1 ≤ n ∧ n ≤ l ∧ v ≤ startI f l v n ∧ startI f l v n ≤ v + l := by
  unfold startI at *
  split at h
  · rename_i hc
    simp only [Bool.and_eq_true, decide_eq_true_eq] at hc
    obtain ⟨⟨⟨h1, h2⟩, h3⟩, h4⟩ := hc
    have g1 := sound_true h1
    have g2 := place_true h2
    have hm1 : 0 ≤ v % l := Int.emod_nonneg _ (by omega)
    have hm2 : v % l < l := Int.emod_lt_of_pos _ (by omega)
    rw [if_pos (by simp [*])]
    split <;> omega
  · omega

set_option maxHeartbeats 1000000 in
theorem ring_room (f l low v n : Int) (w : World) : Calls Try.prog 58 #[ringV f l, .int .i64 low, .int .i64 v, .int .i64 n] w fun e w' => e = .returned (.bool (roomI f l low v n)) ∧ Below w.heap.size w w' := by
  have H := (St.nil (fun _ => False) w).allocAt rfl #[.int .i64 f, .int .i64 l] 23
  obtain ⟨a, ha⟩ : ∃ a, startI f l v n = a := ⟨_, rfl⟩
  have hr : roomI f l low v n = (decide (0 ≤ a) && decide (0 ≤ low) && decide (low ≤ v) && decide (a + n ≤ low + l)) := by simp [roomI, ha]
  rw [hr]
  unfold ringV
  by_cases h0 : 0 ≤ a
  · have hg := start_range (ha ▸ h0)
    rw [ha] at hg
    have e0 : decide (0 ≤ a) = true := by simpa using h0
    go_enter Try.func58, Try.ntmps58
    go_wp2_with fail
    refine (ring_start f l v n _).mono ?_
    rintro e w1 ⟨rfl, hb⟩
    have H1 := H.past hb
    have c1 := H1.cell 0 1 rfl rfl
    rw [ha]
    clear ha hr
    go_wp2
    all_goals
      go_ret
      exact ⟨by congr 2 <;> simp <;> omega, H1.below (Nat.le_refl _) (fun _ h => h.elim)⟩
  · have e0 : decide (0 ≤ a) = false := by simpa using h0
    go_enter Try.func58, Try.ntmps58
    go_wp2_with fail
    refine (ring_start f l v n _).mono ?_
    rintro e w1 ⟨rfl, hb⟩
    have H1 := H.past hb
    rw [ha]
    clear ha hr
    go_wp2
    go_ret
    exact ⟨by simp [e0], H1.below (Nat.le_refl _) (fun _ h => h.elim)⟩

end Go.Proofs.Ytbikjhmdpgoofab
