/- Places of one lap lie on unlike blocks; Start is the first place at which a run doesn't go over the end. Plain laws, no program in sight. -/
import Derived.Test.YtbikjhmdpgoofabRingA
namespace Go.Proofs.Ytbikjhmdpgoofab

/-- Only blocks of places from lo on, below hi, are used. -/
def Used (u : List Bool) (f l lo hi : Int) : Prop := u.length = 4096 ∧ ∀ b : Nat, u.getD b false = true → ∃ k : Int, lo ≤ k ∧ k < hi ∧ (b : Int) = f + k % l
theorem used_none (f l lo : Int) : Used (List.replicate 4096 false) f l lo lo := by
  refine ⟨List.length_replicate, fun b h => ?_⟩
  rw [List.getD, List.getElem?_replicate] at h
  split at h <;> cases h
theorem Used.mono {u : List Bool} {f l lo hi hi' : Int} (h : Used u f l lo hi) (hle : hi ≤ hi') : Used u f l lo hi' :=
  ⟨h.1, fun b hb => by obtain ⟨k, h1, h2, h3⟩ := h.2 b hb; exact ⟨k, h1, by omega, h3⟩⟩
theorem Used.put {u : List Bool} {f l lo a : Int} (h : Used u f l lo a) {b : Nat} (hb : (b : Int) = f + a % l) (hlo : lo ≤ a) : Used (u.set b true) f l lo (a + 1) := by
  refine ⟨by simp [h.1], fun c hc => ?_⟩
  by_cases hq : b = c
  · subst hq; exact ⟨a, hlo, by omega, hb⟩
  · have e : (u.set b true).getD c false = u.getD c false := by simp only [List.getD]; rw [List.getElem?_set_ne hq]
    rw [e] at hc
    obtain ⟨k, h1, h2, h3⟩ := h.2 c hc
    exact ⟨k, h1, by omega, h3⟩
theorem Used.free {u : List Bool} {f l lo a : Int} (h : Used u f l lo a) {b : Nat} (hb : (b : Int) = f + a % l) (ha : a < lo + l) : u.getD b false = false := by
  cases hc : u.getD b false
  · rfl
  · obtain ⟨k, h1, h2, h3⟩ := h.2 b hc
    have e : a % l = k % l := by omega
    have e2 := Int.emod_eq_emod_iff_emod_sub_eq_zero.1 e
    rw [Int.emod_eq_of_lt (by omega) (by omega)] at e2
    omega

theorem run_mod {a l i : Int} (h : a % l + i < l) (hl : 0 < l) (hi : 0 ≤ i) : (a + i) % l = a % l + i := by
  have h1 := Int.emod_add_mul_ediv a l
  have h2 := Int.emod_nonneg a (show l ≠ 0 by omega)
  have : a + i = (a % l + i) + l * (a / l) := by omega
  rw [this, Int.add_mul_emod_self_left, Int.emod_eq_of_lt (by omega) h]
theorem start_fits {f l v n : Int} (h : 0 ≤ startI f l v n) : startI f l v n % l + n ≤ l ∧ startI f l v n < v + n ∧ soundI f l = true ∧ (∀ i : Int, v ≤ i → i < startI f l v n → l < i % l + n) := by
  have hr := start_range h
  unfold startI at *
  split at h
  · rename_i hc
    have hc2 := hc
    simp only [Bool.and_eq_true, decide_eq_true_eq] at hc
    obtain ⟨⟨⟨h1, h2⟩, h3⟩, h4⟩ := hc
    have g1 := sound_true h1
    have hm1 : 0 ≤ v % l := Int.emod_nonneg _ (by omega)
    have hm2 : v % l < l := Int.emod_lt_of_pos _ (by omega)
    rw [if_pos hc2] at hr ⊢
    split
    · rename_i hg
      have e : v - v % l + l = l * (v / l + 1) := by have := Int.emod_add_mul_ediv v l; rw [Int.mul_add]; omega
      refine ⟨by rw [e, Int.mul_emod_right]; omega, by omega, h1, fun i hi hi2 => ?_⟩
      have := run_mod (a := v) (l := l) (i := i - v) (by omega) (by omega) (by omega)
      rw [show v + (i - v) = i by omega] at this
      omega
    · exact ⟨by omega, by omega, h1, fun i hi hi2 => by omega⟩
  · omega
theorem start_no {f l v n : Int} (h : ¬ 0 ≤ startI f l v n) : startI f l v n = -1 := by
  unfold startI at *
  split at h
  · rename_i hc
    exfalso
    simp only [Bool.and_eq_true, decide_eq_true_eq] at hc
    obtain ⟨⟨⟨h1, h2⟩, h3⟩, h4⟩ := hc
    have g1 := sound_true h1
    have g2 := place_true h2
    have hm1 : 0 ≤ v % l := Int.emod_nonneg _ (by omega)
    have hm2 : v % l < l := Int.emod_lt_of_pos _ (by omega)
    split at h <;> omega
  · rename_i hc; rw [if_neg hc]
theorem block_in {f l v : Int} (h1 : soundI f l = true) (h2 : 0 ≤ v) (h3 : v ≤ 1125899906842624) : blockI f l v = f + v % l ∧ 0 ≤ v % l ∧ v % l < l := by
  have g1 := sound_true h1
  refine ⟨?_, Int.emod_nonneg _ (by omega), Int.emod_lt_of_pos _ (by omega)⟩
  unfold blockI
  rw [if_pos (by simp [h1, placeI, h2, h3])]
end Go.Proofs.Ytbikjhmdpgoofab
