/- How many an index looks at: those above which all meet the times. Plain laws, no program in sight. -/
import Derived.Test.YtbikjhmdpgoofaaIdxL
namespace Go.Proofs.Ytbikjhmdpgoofaa

def meetsAt (lv : List (List Str)) (a b : Int) (k i : Nat) : Bool := match (lv.getD k [])[i]? with | some s => meetsS s a b | none => false
/-- Do the n levels above a place meet the times? -/
def seenS (lv : List (List Str)) (w : Nat) (a b : Int) (k i : Nat) : Nat → Bool
  | 0 => true
  | n + 1 => seenS lv w a b k i n && meetsAt lv a b (k + 1 + n) (i / w ^ (n + 1))
/-- The same, seen from the next level. -/
theorem seen_up (lv : List (List Str)) {w : Nat} (a b : Int) (k i : Nat) : ∀ n, seenS lv w a b k i (n + 1) = (meetsAt lv a b (k + 1) (i / w) && seenS lv w a b (k + 1) (i / w) n)
  | 0 => by simp [seenS]
  | n + 1 => by
    rw [seenS, seen_up lv a b k i n, seenS, Bool.and_assoc]
    congr 3
    · omega
    · rw [Nat.div_div_eq_div_mul, Nat.pow_succ, Nat.mul_comm]
/-- So many of a level are looked at. -/
def looksS (lv : List (List Str)) (w : Nat) (a b : Int) (k n : Nat) : Nat := sumN (fun i => if seenS lv w a b k i (lv.length - 1 - k) then 1 else 0) n
theorem sumN_congr {f g : Nat → Nat} : ∀ n, (∀ i, i < n → f i = g i) → sumN f n = sumN g n
  | 0, _ => rfl
  | n + 1, h => by rw [sumN, sumN, sumN_congr n (fun i hi => h i (by omega)), h n (by omega)]
theorem sumN_zero : ∀ n, sumN (fun _ => 0) n = 0
  | 0 => rfl
  | n + 1 => by rw [sumN, sumN_zero n]
theorem sumN_clip (f : Nat → Nat) {n : Nat} : ∀ M, n ≤ M → sumN (fun i => if i < n then f i else 0) M = sumN f n
  | 0, h => by
    obtain rfl : n = 0 := by omega
    rfl
  | M + 1, h => by
    rw [sumN]
    by_cases hn : n = M + 1
    · subst hn
      rw [if_pos (by omega), sumN]
      congr 1
      exact sumN_congr M fun i hi => by rw [if_pos (by omega)]
    · rw [if_neg (by omega), sumN_clip f M (by omega)]
      omega
theorem above_len {w : Nat} (hw : 0 < w) (L : List Str) (i : Nat) : i < (aboveS w L).length ↔ i * w < L.length := by
  constructor
  · intro h
    rcases Nat.lt_or_ge (i * w) L.length with g | g
    · exact g
    · exfalso
      have := above_get hw L i
      rw [chunk_nil _ _ _ g, List.getElem?_eq_getElem h] at this
      cases this
  · intro h
    rcases Nat.lt_or_ge i (aboveS w L).length with g | g
    · exact g
    · exfalso
      have h1 := above_get hw L i
      rw [List.getElem?_eq_none g] at h1
      have : (chunk w L i).length = 0 := by
        cases hc : chunk w L i with
        | nil => rfl
        | cons x r => rw [hc] at h1; cases h1
      unfold chunk at this
      rw [List.length_take, List.length_drop] at this
      omega
/-- What all nodes of a level that are seen look at. -/
theorem look_count {w : Nat} (hw : 0 < w) {L : List Str} {lv : List (List Str)} (a b : Int) : ∀ k, Tall w L lv k → k < lv.length → ∀ M, (lv.getD k []).length ≤ M →
    sumN (fun i => if seenS lv w a b k i (lv.length - 1 - k) then (lookS lv w a b k i).2 else 0) M = sumN (fun j => looksS lv w a b j (lv.getD j []).length) (k + 1)
  | 0, h, hk, M, hM => by
    rw [sumN, sumN, Nat.zero_add]
    unfold looksS
    rw [← sumN_clip _ M hM]
    refine sumN_congr M fun i hi => ?_
    rw [lookS]
    cases hc : (lv.getD 0 [])[i]? with
    | none =>
      have := List.getElem?_eq_none_iff.1 hc
      rw [if_neg (show ¬ i < (lv.getD 0 []).length by omega)]
      simp
    | some x =>
      rw [if_pos (List.getElem?_eq_some_iff.1 hc).1]
      simp only
      split
      · split <;> rfl
      · rfl
  | k + 1, h, hk, M, hM => by
    have hl : (lv.getD k []).length ≤ w * M := by
      have h1 := above_len hw (lv.getD k []) M
      rw [← h.2 k (by omega)] at h1
      rw [Nat.mul_comm]
      rcases Nat.lt_or_ge (M * w) (lv.getD k []).length with g | g
      · have := h1.2 g; omega
      · exact g
    have ih := look_count hw a b k ⟨h.1, fun j hj => h.2 j (by omega)⟩ (by omega) (w * M) hl
    rw [show k + 1 + 1 = (k + 1) + 1 from rfl, sumN, ← ih, ← sumN_flat]
    have e : ∀ i, (if seenS lv w a b (k + 1) i (lv.length - 1 - (k + 1)) then (lookS lv w a b (k + 1) i).2 else 0) =
        sumN (fun m => if seenS lv w a b k (w * i + m) (lv.length - 1 - k) then (lookS lv w a b k (w * i + m)).2 else 0) w + (if i < (lv.getD (k + 1) []).length then (if seenS lv w a b (k + 1) i (lv.length - 1 - (k + 1)) then 1 else 0) else 0) := by
      intro i
      have hs : ∀ m, m < w → seenS lv w a b k (w * i + m) (lv.length - 1 - k) = (meetsAt lv a b (k + 1) i && seenS lv w a b (k + 1) i (lv.length - 1 - (k + 1))) := by
        intro m hm
        rw [show lv.length - 1 - k = (lv.length - 1 - (k + 1)) + 1 by omega, seen_up]
        have : (w * i + m) / w = i := by rw [Nat.mul_add_div hw, Nat.div_eq_of_lt hm, Nat.add_zero]
        rw [this]
      rw [sumN_congr (g := fun m => if (meetsAt lv a b (k + 1) i && seenS lv w a b (k + 1) i (lv.length - 1 - (k + 1))) then (lookS lv w a b k (w * i + m)).2 else 0) w (fun m hm => by simp only [hs m hm])]
      obtain ⟨sn, hsn⟩ : ∃ sn, seenS lv w a b (k + 1) i (lv.length - 1 - (k + 1)) = sn := ⟨_, rfl⟩
      rw [hsn, lookS]
      unfold meetsAt
      cases hc : (lv.getD (k + 1) [])[i]? with
      | none =>
        have := List.getElem?_eq_none_iff.1 hc
        rw [if_neg (show ¬ i < (lv.getD (k + 1) []).length by omega)]
        simp [sumN_zero]
      | some x =>
        rw [if_pos (List.getElem?_eq_some_iff.1 hc).1]
        simp only
        cases sn with
        | false => simp [sumN_zero]
        | true =>
          by_cases hm : meetsS x a b = true
          · simp only [hm, Bool.and_true, if_true]
            rw [kids_sum]
            omega
          · simp [hm, sumN_zero]
    rw [sumN_congr M (fun i _ => e i), sumN_plus]
    congr 1
    unfold looksS
    exact sumN_clip _ M hM
/-- What Seek looks at. -/
theorem seek_count {w : Nat} (hw : 2 ≤ w) {L : List Str} (hL : L ≠ []) (a b : Int) {f : Nat} (hf : L.length ≤ f + 1) :
    (lookS (climb w f L) w a b ((climb w f L).length - 1) 0).2 = sumN (fun j => looksS (climb w f L) w a b j ((climb w f L).getD j []).length) (climb w f L).length := by
  have ht := climb_tall w f L
  have h1 := climb_top hw f L hL hf
  have hne := climb_ne w f L
  have h := look_count (show 0 < w by omega) a b _ ht (by omega) 1 (by omega)
  rw [Nat.sub_add_cancel hne, Nat.sub_self] at h
  rw [← h]
  simp [sumN, seenS]
/-- A place's place above lies there. -/
theorem up_in {w : Nat} (hw : 0 < w) {L : List Str} {lv : List (List Str)} {k : Nat} (h : Tall w L lv (lv.length - 1)) {i : Nat} (hi : i < (lv.getD k []).length) : ∀ n, k + n < lv.length → i / w ^ n < (lv.getD (k + n) []).length
  | 0, _ => by simpa using hi
  | n + 1, hn => by
    have ih := up_in hw h hi n (by omega)
    rw [← Nat.add_assoc, h.2 (k + n) (by omega), above_len hw, Nat.pow_succ, ← Nat.div_div_eq_div_mul]
    have := Nat.div_mul_le_self (i / w ^ n) w
    omega

end Go.Proofs.Ytbikjhmdpgoofaa
