/- What an index finds: all stretches that meet the times, and no more looked at than there are. Plain laws, no program in sight. -/
import Derived.Test.YtbikjhmdpgoofaaIdxE
namespace Go.Proofs.Ytbikjhmdpgoofaa

def chunk (w : Nat) (l : List Str) (i : Nat) : List Str := (l.drop (i * w)).take w
def joinAll : List Str → Option Str
  | [] => none
  | x :: r => some (r.foldl joinS x)
theorem joinAll_snoc {A : List Str} {y : Str} (h : joinAll A = some y) (x : Str) : joinAll (A ++ [x]) = some (joinS y x) := by
  cases A with
  | nil => cases h
  | cons a r =>
    simp only [joinAll, Option.some.injEq] at h
    subst h
    simp [joinAll]
theorem chunk_snoc (w : Nat) (A : List Str) (x : Str) (i : Nat) : chunk w (A ++ [x]) i = if i * w ≤ A.length ∧ A.length < i * w + w then chunk w A i ++ [x] else chunk w A i := by
  unfold chunk
  rw [List.drop_append, List.take_append]
  by_cases h1 : i * w ≤ A.length
  · rw [show i * w - A.length = 0 by omega, List.drop_zero, List.length_drop]
    by_cases h2 : A.length < i * w + w
    · rw [if_pos ⟨h1, h2⟩, List.take_of_length_le (l := [x]) (by simp; omega)]
    · rw [if_neg (fun h => h2 h.2), show w - (A.length - i * w) = 0 by omega, List.take_zero, List.append_nil]
  · rw [if_neg (fun h => h1 h.1), List.drop_of_length_le (l := [x]) (by simp; omega), List.take_nil, List.append_nil]
theorem chunk_nil (w : Nat) (A : List Str) (i : Nat) (h : A.length ≤ i * w) : chunk w A i = [] := by
  unfold chunk
  rw [List.drop_of_length_le h, List.take_nil]
/-- What lies above: each chunk joined. -/
theorem upTake_get {w : Nat} (hw : 0 < w) (l : List Str) : ∀ n, n ≤ l.length → ∀ i, (upTake w l n)[i]? = joinAll (chunk w (l.take n) i)
  | 0, _, i => by simp [upTake, chunk, joinAll]
  | n + 1, h, i => by
    have ih := upTake_get hw l n (by omega)
    obtain ⟨hm1, hm2⟩ := upTake_mul hw l n (by omega)
    obtain ⟨x, hx⟩ : ∃ x, l[n]? = some x := ⟨_, List.getElem?_eq_getElem (by omega)⟩
    have htk : l.take (n + 1) = l.take n ++ [x] := by rw [List.take_add_one, hx]; rfl
    have hln : (l.take n).length = n := by rw [List.length_take]; omega
    rw [upTake, hx, htk, chunk_snoc, hln]
    simp only [upStep]
    obtain ⟨O, hO⟩ : ∃ O, upTake w l n = O := ⟨_, rfl⟩
    rw [hO] at ih hm1 hm2 ⊢
    by_cases hm : n % w = 0
    · rw [if_pos hm]
      obtain ⟨q, rfl⟩ : ∃ q, n = w * q := ⟨n / w, by have := Nat.div_add_mod n w; omega⟩
      have hq : O.length = q := by
        have e1 : O.length < q + 1 := by
          have : w * O.length < w * (q + 1) := by rw [Nat.mul_comm w O.length, Nat.mul_succ]; omega
          exact Nat.lt_of_mul_lt_mul_left this
        have e2 : q ≤ O.length := by
          have : w * q ≤ w * O.length := by rw [Nat.mul_comm w O.length]; exact hm2
          exact Nat.le_of_mul_le_mul_left this hw
        omega
      rcases Nat.lt_trichotomy i q with hi | hi | hi
      · have : (i + 1) * w ≤ w * q := by rw [Nat.mul_comm]; exact Nat.mul_le_mul_left _ hi
        rw [Nat.succ_mul] at this
        rw [if_neg (by omega), List.getElem?_append_left (by omega), ih]
      · subst hi
        rw [if_pos (by rw [Nat.mul_comm]; omega), chunk_nil _ _ _ (by rw [hln, Nat.mul_comm]; omega)]
        rw [List.getElem?_append_right (by omega), hq]
        simp [joinAll]
      · have : w * (q + 1) ≤ i * w := by rw [Nat.mul_comm]; exact Nat.mul_le_mul_right _ hi
        rw [Nat.mul_succ] at this
        rw [if_neg (by omega), chunk_nil _ _ _ (by rw [hln]; omega)]
        rw [List.getElem?_eq_none (by simp; omega)]
        rfl
    · rw [if_neg hm]
      obtain ⟨q, r, hr, hn, hr0⟩ : ∃ q r, r < w ∧ n = q * w + r ∧ 0 < r := ⟨n / w, n % w, Nat.mod_lt _ hw, by have := Nat.div_add_mod n w; rw [Nat.mul_comm] at this; omega, by omega⟩
      have hq : O.length = q + 1 := by
        have e1 : O.length < q + 2 := by
          have : O.length * w < (q + 2) * w := by rw [Nat.add_mul]; omega
          exact Nat.lt_of_mul_lt_mul_right this
        have e2 : q < O.length := by
          have : q * w < O.length * w := by omega
          exact Nat.lt_of_mul_lt_mul_right this
        omega
      have hne : O ≠ [] := by rintro rfl; simp at hq
      obtain ⟨O0, y, rfl⟩ := snoc_of hne
      have hq0 : O0.length = q := by simpa using hq
      rw [List.getLast?_concat, List.dropLast_concat]
      simp only
      rcases Nat.lt_trichotomy i q with hi | hi | hi
      · have : (i + 1) * w ≤ q * w := Nat.mul_le_mul_right _ hi
        rw [Nat.succ_mul] at this
        rw [if_neg (by omega), ← ih i, List.getElem?_append_left (by omega), List.getElem?_append_left (by omega)]
      · subst hi
        have h1 := ih i
        rw [List.getElem?_append_right (by omega), hq0, Nat.sub_self] at h1
        rw [if_pos (by omega), joinAll_snoc h1.symm x, List.getElem?_append_right (by omega), hq0, Nat.sub_self]
        rfl
      · have : (q + 1) * w ≤ i * w := Nat.mul_le_mul_right _ hi
        rw [Nat.succ_mul] at this
        rw [if_neg (by omega), chunk_nil _ _ _ (by rw [hln]; omega), List.getElem?_eq_none (by simp; omega)]
        rfl
theorem above_get {w : Nat} (hw : 0 < w) (l : List Str) (i : Nat) : (aboveS w l)[i]? = joinAll (chunk w l i) := by
  have := upTake_get hw l l.length (Nat.le_refl _) i
  rwa [List.take_length] at this
theorem meets_join {x y : Str} {a b : Int} (h : meetsS x a b = true ∨ meetsS y a b = true) : meetsS (joinS x y) a b = true := by
  obtain ⟨f1, t1, l1, g1⟩ := x
  obtain ⟨f2, t2, l2, g2⟩ := y
  simp only [meetsS, Str.empty, joinS, both, Bool.and_eq_true, Bool.not_eq_true', decide_eq_false_iff_not, decide_eq_true_eq] at h ⊢
  rcases h with ⟨⟨h0, h1⟩, h2⟩ | ⟨⟨h0, h1⟩, h2⟩
  · rw [if_neg h0]
    by_cases h3 : g2 < l2
    · rw [if_pos h3]; exact ⟨⟨h0, h1⟩, h2⟩
    · rw [if_neg h3]; simp only; omega
  · by_cases h3 : g1 < l1
    · rw [if_pos h3, if_neg h0]; exact ⟨⟨h0, h1⟩, h2⟩
    · rw [if_neg h3, if_neg h0]; simp only; omega
theorem meets_fold {a b : Int} : ∀ (l : List Str) (y : Str), (meetsS y a b = true ∨ ∃ x ∈ l, meetsS x a b = true) → meetsS (l.foldl joinS y) a b = true
  | [], y, h => by
    rcases h with h | ⟨x, hx, _⟩
    · exact h
    · cases hx
  | z :: l, y, h => by
    refine meets_fold l _ ?_
    rcases h with h | ⟨x, hx, h⟩
    · exact .inl (meets_join (.inl h))
    · rcases List.mem_cons.1 hx with rfl | hx
      · exact .inl (meets_join (.inr h))
      · exact .inr ⟨x, hx, h⟩
theorem meets_all {a b : Int} {l : List Str} {s x : Str} (hs : joinAll l = some s) (hx : x ∈ l) (h : meetsS x a b = true) : meetsS s a b = true := by
  cases l with
  | nil => cases hx
  | cons y r =>
    simp only [joinAll, Option.some.injEq] at hs
    subst hs
    rcases List.mem_cons.1 hx with rfl | hx
    · exact meets_fold _ _ (.inl h)
    · exact meets_fold _ _ (.inr ⟨x, hx, h⟩)

/-- The leaves below a node. -/
def below (w : Nat) (L : List Str) (k at' : Nat) : List Str := (L.drop (at' * w ^ k)).take (w ^ k)
theorem below_part (w : Nat) (L : List Str) (k at' n : Nat) : (L.drop (at' * w ^ (k + 1))).take ((n + 1) * w ^ k) = (L.drop (at' * w ^ (k + 1))).take (n * w ^ k) ++ below w L k (w * at' + n) := by
  unfold below
  rw [Nat.succ_mul, List.take_add, List.drop_drop]
  congr 3
  rw [Nat.pow_succ, Nat.add_mul, Nat.mul_comm w at', Nat.mul_assoc, Nat.mul_comm w (w ^ k)]
theorem below_mem {w : Nat} {L : List Str} {k at' : Nat} {x : Str} : ∀ n, x ∈ (L.drop (at' * w ^ (k + 1))).take (n * w ^ k) → ∃ i, i < n ∧ x ∈ below w L k (w * at' + i)
  | 0, h => by simp at h
  | n + 1, h => by
    rw [below_part] at h
    rcases List.mem_append.1 h with h | h
    · obtain ⟨i, hi, hx⟩ := below_mem n h
      exact ⟨i, by omega, hx⟩
    · exact ⟨n, by omega, h⟩
/-- Levels, each above the one before. -/
def Tall (w : Nat) (L : List Str) (lv : List (List Str)) (k : Nat) : Prop := lv.getD 0 [] = L ∧ ∀ j, j < k → lv.getD (j + 1) [] = aboveS w (lv.getD j [])
theorem node_none {w : Nat} (hw : 0 < w) {l : List Str} {at' : Nat} (h : (aboveS w l)[at']? = none) (i : Nat) : l[w * at' + i]? = none := by
  rw [above_get hw] at h
  have hc : chunk w l at' = [] := by
    cases hc : chunk w l at' with
    | nil => rfl
    | cons x r => rw [hc] at h; cases h
  have hl : l.length ≤ at' * w := by
    rcases Nat.lt_or_ge (at' * w) l.length with g | g
    · exfalso
      have : (chunk w l at').length = 0 := by rw [hc]; rfl
      unfold chunk at this
      rw [List.length_take, List.length_drop] at this
      omega
    · exact g
  exact List.getElem?_eq_none (by rw [Nat.mul_comm]; omega)
theorem node_covers {w : Nat} (hw : 0 < w) {L : List Str} {lv : List (List Str)} {a b : Int} : ∀ k, Tall w L lv k → ∀ at', ((lv.getD k [])[at']? = none → below w L k at' = []) ∧ ∀ s, (lv.getD k [])[at']? = some s → ∀ x ∈ below w L k at', meetsS x a b = true → meetsS s a b = true
  | 0, h, at' => by
    rw [h.1]
    have e : below w L 0 at' = (L[at']?).toList := by
      unfold below
      rw [Nat.pow_zero, Nat.mul_one, List.take_one, List.head?_drop]
    rw [e]
    refine ⟨fun hn => by rw [hn]; rfl, fun s hs x hx hm => ?_⟩
    rw [hs] at hx
    simp only [Option.toList_some, List.mem_singleton] at hx
    subst hx
    exact hm
  | k + 1, h, at' => by
    have ih := node_covers (a := a) (b := b) hw k ⟨h.1, fun j hj => h.2 j (by omega)⟩
    rw [h.2 k (by omega)]
    have hfull : below w L (k + 1) at' = (L.drop (at' * w ^ (k + 1))).take (w * w ^ k) := by unfold below; rw [Nat.pow_succ, Nat.mul_comm (w ^ k) w]
    rw [hfull]
    refine ⟨fun hn => ?_, fun s hs x hx hm => ?_⟩
    · refine List.eq_nil_iff_forall_not_mem.2 fun x hx => ?_
      obtain ⟨i, hi, hx⟩ := below_mem w hx
      rw [(ih (w * at' + i)).1 (node_none hw hn i)] at hx
      cases hx
    · obtain ⟨i, hi, hx⟩ := below_mem w hx
      cases hc : (lv.getD k [])[w * at' + i]? with
      | none => rw [(ih _).1 hc] at hx; cases hx
      | some y =>
        have hy := (ih _).2 y hc x hx hm
        rw [above_get hw] at hs
        refine meets_all hs ?_ hy
        unfold chunk
        refine List.mem_of_getElem? (i := i) ?_
        rw [List.getElem?_take_of_lt hi, List.getElem?_drop, Nat.mul_comm at' w]
        exact hc
theorem kids_out {f : Nat → List Str × Nat} {p : Str → Bool} {w : Nat} {L : List Str} {k at' : Nat} (h : ∀ i, (f i).1 = (below w L k (w * at' + i)).filter p) : ∀ n, (kidsS f n).1 = ((L.drop (at' * w ^ (k + 1))).take (n * w ^ k)).filter p
  | 0 => by simp [kidsS]
  | n + 1 => by rw [below_part, List.filter_append, ← h n, ← kids_out h n]; rfl
theorem filter_none {p : Str → Bool} {l : List Str} (h : ∀ x ∈ l, p x = true → False) : l.filter p = [] := by
  refine List.filter_eq_nil_iff.2 fun x hx hp => h x hx hp
/-- What look finds below a node: its leaves that meet the times. -/
theorem look_out {w : Nat} (hw : 0 < w) {L : List Str} {lv : List (List Str)} {a b : Int} : ∀ k, Tall w L lv k → ∀ at', (lookS lv w a b k at').1 = (below w L k at').filter fun x => meetsS x a b
  | 0, h, at' => by
    have e : below w L 0 at' = (L[at']?).toList := by
      unfold below
      rw [Nat.pow_zero, Nat.mul_one, List.take_one, List.head?_drop]
    rw [e, lookS, h.1]
    cases hc : L[at']? with
    | none => rfl
    | some x =>
      simp only [Option.toList_some, List.filter_cons, List.filter_nil]
      split <;> rfl
  | k + 1, h, at' => by
    have ih := look_out (a := a) (b := b) hw k ⟨h.1, fun j hj => h.2 j (by omega)⟩
    have hfull : below w L (k + 1) at' = (L.drop (at' * w ^ (k + 1))).take (w * w ^ k) := by unfold below; rw [Nat.pow_succ, Nat.mul_comm (w ^ k) w]
    have hn := node_covers (a := a) (b := b) hw (k + 1) h at'
    rw [lookS]
    cases hc : (lv.getD (k + 1) [])[at']? with
    | none => rw [hn.1 hc]; rfl
    | some x =>
      simp only
      by_cases hm : meetsS x a b = true
      · rw [if_pos hm, hfull]
        exact kids_out (fun i => ih (w * at' + i)) w
      · rw [if_neg hm]
        refine (filter_none fun y hy hp => hm (hn.2 x hc y hy hp)).symm

def sumN (f : Nat → Nat) : Nat → Nat
  | 0 => 0
  | n + 1 => sumN f n + f n
theorem sumN_add (f : Nat → Nat) (n : Nat) : ∀ m, sumN f (n + m) = sumN f n + sumN (fun i => f (n + i)) m
  | 0 => rfl
  | m + 1 => by rw [← Nat.add_assoc, sumN, sumN_add f n m, sumN]; omega
theorem sumN_flat (g : Nat → Nat) (w : Nat) : ∀ M, sumN (fun at' => sumN (fun i => g (w * at' + i)) w) M = sumN g (w * M)
  | 0 => rfl
  | M + 1 => by rw [sumN, sumN_flat g w M, Nat.mul_succ, sumN_add]
theorem sumN_le {f g : Nat → Nat} (h : ∀ i, f i ≤ g i) : ∀ n, sumN f n ≤ sumN g n
  | 0 => Nat.le_refl _
  | n + 1 => by have := sumN_le h n; have := h n; simp only [sumN]; omega
theorem sumN_plus (f g : Nat → Nat) : ∀ n, sumN (fun i => f i + g i) n = sumN f n + sumN g n
  | 0 => rfl
  | n + 1 => by simp only [sumN, sumN_plus f g n]; omega
theorem sumN_in (n : Nat) : ∀ M, sumN (fun i => if i < n then 1 else 0) M ≤ n ∧ sumN (fun i => if i < n then 1 else 0) M ≤ M
  | 0 => by simp [sumN]
  | M + 1 => by
    have := sumN_in n M
    simp only [sumN]
    split <;> omega
theorem kids_sum (f : Nat → List Str × Nat) : ∀ n, (kidsS f n).2 = sumN (fun i => (f i).2) n
  | 0 => rfl
  | n + 1 => by simp only [kidsS, sumN, kids_sum f n]
theorem look_most (lv : List (List Str)) (w : Nat) (a b : Int) : ∀ k M, sumN (fun at' => (lookS lv w a b k at').2) M ≤ sumN (fun j => (lv.getD j []).length) (k + 1)
  | 0, M => by
    refine Nat.le_trans (sumN_le (g := fun i => if i < (lv.getD 0 []).length then 1 else 0) (fun i => ?_) M) ?_
    · rw [lookS]
      cases hc : (lv.getD 0 [])[i]? with
      | none => simp
      | some x =>
        rw [if_pos (List.getElem?_eq_some_iff.1 hc).1]
        simp only
        split <;> simp
    · have := (sumN_in (lv.getD 0 []).length M).1
      simp only [sumN]; omega
  | k + 1, M => by
    have ih := look_most lv w a b k (w * M)
    refine Nat.le_trans (sumN_le (g := fun i => (if i < (lv.getD (k + 1) []).length then 1 else 0) + sumN (fun m => (lookS lv w a b k (w * i + m)).2) w) (fun i => ?_) M) ?_
    · rw [lookS]
      cases hc : (lv.getD (k + 1) [])[i]? with
      | none => simp
      | some x =>
        rw [if_pos (List.getElem?_eq_some_iff.1 hc).1]
        simp only
        split
        · rw [kids_sum]
          exact Nat.le_refl _
        · simp
    · rw [sumN_plus, sumN_flat (fun m => (lookS lv w a b k m).2)]
      have := (sumN_in (lv.getD (k + 1) []).length M).1
      rw [show k + 1 + 1 = (k + 1) + 1 from rfl, sumN]
      omega
/-- The levels over a list. -/
theorem climb_head (w f : Nat) (l : List Str) : (climb w f l).getD 0 [] = l := by
  cases f with
  | zero => rfl
  | succ f =>
    rw [climb]
    split <;> rfl
theorem climb_ne (w f : Nat) (l : List Str) : 0 < (climb w f l).length := by
  cases f with
  | zero => simp [climb]
  | succ f =>
    rw [climb]
    split <;> simp
theorem climb_tall (w : Nat) : ∀ (f : Nat) (l : List Str), Tall w l (climb w f l) ((climb w f l).length - 1)
  | 0, l => ⟨rfl, fun j hj => by simp [climb] at hj⟩
  | f + 1, l => by
    refine ⟨climb_head _ _ _, fun j hj => ?_⟩
    rw [climb] at hj ⊢
    by_cases h : l.length ≤ 1
    · rw [if_pos h] at hj
      simp at hj
    · rw [if_neg h] at hj ⊢
      have ih := climb_tall w f (aboveS w l)
      cases j with
      | zero => exact climb_head w f (aboveS w l)
      | succ j => exact ih.2 j (by simp only [List.length_cons] at hj; omega)
theorem climb_top {w : Nat} (hw : 2 ≤ w) : ∀ (f : Nat) (l : List Str), l ≠ [] → l.length ≤ f + 1 → ((climb w f l).getD ((climb w f l).length - 1) []).length = 1
  | 0, l, h, hf => by
    have : 0 < l.length := List.length_pos_iff.2 h
    show l.length = 1
    omega
  | f + 1, l, h, hf => by
    have h0 : 0 < l.length := List.length_pos_iff.2 h
    rw [climb]
    by_cases h1 : l.length ≤ 1
    · rw [if_pos h1]
      show l.length = 1
      omega
    · rw [if_neg h1]
      have hl := aboveS_less hw (l := l) (by omega)
      have hne : aboveS w l ≠ [] := upTake_one w l l.length h0 (Nat.le_refl _)
      have ih := climb_top hw f (aboveS w l) hne (by omega)
      have hp := climb_ne w f (aboveS w l)
      rw [List.length_cons, Nat.add_sub_cancel]
      obtain ⟨n, hn⟩ : ∃ n, (climb w f (aboveS w l)).length = n + 1 := ⟨_, (Nat.sub_add_cancel hp).symm⟩
      rw [hn] at ih ⊢
      exact ih
theorem climb_len (w : Nat) : ∀ (f : Nat) (l : List Str), (climb w f l).length ≤ f + 1 ∧ ∀ s ∈ climb w f l, s.length ≤ l.length
  | 0, l => by simp [climb]
  | f + 1, l => by
    rw [climb]
    split
    · simp
    · have ih := climb_len w f (aboveS w l)
      have ha : (aboveS w l).length ≤ l.length := upTake_len w l l.length
      refine ⟨by simp only [List.length_cons]; omega, fun s hs => ?_⟩
      rcases List.mem_cons.1 hs with rfl | hs
      · exact Nat.le_refl _
      · exact Nat.le_trans (ih.2 s hs) ha
theorem climb_pow {w : Nat} (hw : 2 ≤ w) : ∀ (f : Nat) (l : List Str), (climb w f l).length = 1 ∨ (1 < l.length ∧ w ^ ((climb w f l).length - 1) ≤ w * (l.length - 1))
  | 0, l => .inl rfl
  | f + 1, l => by
    rw [climb]
    by_cases h1 : l.length ≤ 1
    · rw [if_pos h1]; exact .inl rfl
    · rw [if_neg h1, List.length_cons, Nat.add_sub_cancel]
      refine .inr ⟨by omega, ?_⟩
      have hm := (upTake_mul (show 0 < w by omega) l l.length (Nat.le_refl _)).1
      have ha : (aboveS w l).length * w < l.length + w := hm
      rcases climb_pow hw f (aboveS w l) with h | ⟨h2, h3⟩
      · rw [h, Nat.pow_one]
        exact Nat.le_mul_of_pos_right w (by omega)
      · obtain ⟨n, hn⟩ : ∃ n, (climb w f (aboveS w l)).length = n + 1 := ⟨_, (Nat.sub_add_cancel (climb_ne w f _)).symm⟩
        rw [hn] at h3 ⊢
        rw [Nat.add_sub_cancel] at h3
        rw [Nat.pow_succ, Nat.mul_comm]
        refine Nat.mul_le_mul_left w (Nat.le_trans h3 ?_)
        obtain ⟨m, hm2⟩ : ∃ m, (aboveS w l).length = m + 1 := ⟨_, (Nat.sub_add_cancel (show 1 ≤ (aboveS w l).length by omega)).symm⟩
        rw [hm2] at ha ⊢
        rw [Nat.succ_mul] at ha
        rw [Nat.add_sub_cancel, Nat.mul_comm]
        omega
/-- What Seek finds and looks at. -/
theorem seek_finds {w : Nat} (hw : 2 ≤ w) {L : List Str} (hL : L ≠ []) (a b : Int) {f : Nat} (hf : L.length ≤ f + 1) :
    (lookS (climb w f L) w a b ((climb w f L).length - 1) 0).1 = L.filter fun x => meetsS x a b := by
  have ht := climb_tall w f L
  rw [look_out (show 0 < w by omega) _ ht 0]
  congr 1
  unfold below
  rw [Nat.zero_mul, List.drop_zero]
  refine List.take_of_length_le ?_
  -- the only node above them all covers them all
  obtain ⟨K, hK⟩ : ∃ K, (climb w f L).length - 1 = K := ⟨_, rfl⟩
  have h1 := climb_top hw f L hL hf
  rw [hK] at ht h1 ⊢
  have key : ∀ k, Tall w L (climb w f L) k → L.length ≤ ((climb w f L).getD k []).length * w ^ k := by
    intro k
    induction k with
    | zero => intro h; rw [h.1]; simp
    | succ k ih =>
      intro h
      have h2 := ih ⟨h.1, fun j hj => h.2 j (by omega)⟩
      rw [h.2 k (by omega)]
      have hm := (upTake_mul (show 0 < w by omega) ((climb w f L).getD k []) _ (Nat.le_refl _)).2
      refine Nat.le_trans h2 ?_
      rw [Nat.pow_succ, Nat.mul_comm (w ^ k) w, ← Nat.mul_assoc]
      exact Nat.mul_le_mul_right _ hm
  have := key K ht
  rw [h1] at this
  omega
theorem seek_looks {w : Nat} {L : List Str} (a b : Int) {f : Nat} :
    (lookS (climb w f L) w a b ((climb w f L).length - 1) 0).2 ≤ sumN (fun j => ((climb w f L).getD j []).length) (climb w f L).length := by
  have h := look_most (climb w f L) w a b ((climb w f L).length - 1) 1
  rw [Nat.sub_add_cancel (climb_ne w f L)] at h
  refine Nat.le_trans ?_ h
  show _ ≤ 0 + _
  rw [Nat.zero_add]
  exact Nat.le_refl _

end Go.Proofs.Ytbikjhmdpgoofaa
