/- Of and Seek at any width and any records; what is found has all items of such times (a law). -/
import Derived.Test.YtbikjhmdpgoofaaIdxL
import Derived.Test.YtbikjhmdpgoofaaIdxK
namespace Go.Proofs.Ytbikjhmdpgoofaa
open Go.RowKit

/-- Of at any width and any list. -/
theorem idx_of {l : List Rcd} {v : Value} (width : Int) (w : World) (hv : RcsRO w v l) (hll : l.length ≤ 1000000) :
    Calls Try.prog 29 #[.int .i64 width, v] w fun e w' => ∃ v' vals rows, e = .returned v' ∧ Cover vals rows (ofS width l) ∧ St (fun _ => False) w w' [SP.all rows, Row 67 1 v' vals.length vals] := by
  unfold ofS
  by_cases hg : (2 ≤ width ∧ width ≤ 64) ∧ l ≠ []
  · rw [if_pos hg]
    obtain ⟨n, rfl⟩ : ∃ n : Nat, width = n := ⟨width.toNat, by omega⟩
    exact idx_of_good n w hv hg.2 hll (by omega)
  · rw [if_neg hg]
    have H0 : St (fun _ => False) w w [SP.all [], Row 67 1 (.slice none 0 0) 0 []] := St.all_iff.2 ((St.nil (fun _ => False) w).row_nil 67 1)
    have kw := fun w' => idx_wide width w'
    obtain ⟨gw, hgw⟩ : ∃ gw, (decide (2 ≤ width) && decide (width ≤ 64)) = gw := ⟨_, rfl⟩
    rw [hgw] at kw
    obtain ⟨ao, cap, rfl, _⟩ := hv
    go_enter Try.func29, Try.ntmps29
    cases gw with
    | false =>
      go_wp2_with (go_at_call 57; go_must (refine (kw _).mono ?_; rintro e w0 ⟨rfl, hw0⟩; have hw0 := hw0.symm; subst hw0))
      go_ret
      exact ⟨_, [], [], rfl, ⟨rfl, fun k v s h => by simp at h⟩, H0⟩
    | true =>
      simp only [Bool.and_eq_true, decide_eq_true_eq] at hgw
      have hl : l = [] := Decidable.byContradiction fun h => hg ⟨hgw, h⟩
      subst hl
      go_wp2_with (go_at_call 57; go_must (refine (kw _).mono ?_; rintro e w0 ⟨rfl, hw0⟩; have hw0 := hw0.symm; subst hw0))
      go_ret
      exact ⟨_, [], [], rfl, ⟨rfl, fun k v s h => by simp at h⟩, H0⟩
def seekS (width : Int) (lv : List (List Str)) (a b : Int) : List Str × Nat :=
  if (2 ≤ width ∧ width ≤ 64) ∧ lv ≠ [] then lookS lv width.toNat a b (lv.length - 1) 0 else ([], 0)
theorem idx_seek_any {width : Int} {lvv : Value} {a b : Int} {lv : List (List Str)} {w : World} (hlv : ∀ s ∈ lv, s.length ≤ 1000000) (hll : lv.length ≤ 1000000) (hp : (2 ≤ width ∧ width ≤ 64) → 2 * width.toNat ^ (lv.length - 1) ≤ 1000000000000) (hro : LvRO (fun _ => False) w lvv lv) :
    Calls Try.prog 32 #[.int .i64 width, lvv, .int .i64 a, .int .i64 b] w fun e w' => ∃ v', e = .returned (.tuple #[v', .int .i64 ((seekS width lv a b).2 : Nat)]) ∧
      St (fun _ => False) w w' [Row 76 4 v' (seekS width lv a b).1.length (strs (seekS width lv a b).1)] := by
  unfold seekS
  by_cases hg : (2 ≤ width ∧ width ≤ 64) ∧ lv ≠ []
  · rw [if_pos hg]
    obtain ⟨n, rfl⟩ : ∃ n : Nat, width = n := ⟨width.toNat, by omega⟩
    exact idx_seek (width := n) (by omega) hlv hll hg.2 (hp hg.1) hro
  · rw [if_neg hg]
    have H0 : St (fun _ => False) w w [Row 76 4 (.slice none 0 0) 0 (strs [])] := (St.nil (fun _ => False) w).row_nil 76 4
    have kw := fun w' => idx_wide width w'
    obtain ⟨gw, hgw⟩ : ∃ gw, (decide (2 ≤ width) && decide (width ≤ 64)) = gw := ⟨_, rfl⟩
    rw [hgw] at kw
    obtain ⟨ao, cap, rfl, _⟩ := hro
    go_enter Try.func32, Try.ntmps32
    cases gw with
    | false =>
      go_wp2_with (go_at_call 57; go_must (refine (kw _).mono ?_; rintro e w0 ⟨rfl, hw0⟩; have hw0 := hw0.symm; subst hw0))
      go_ret2
      exact ⟨_, rfl, H0⟩
    | true =>
      simp only [Bool.and_eq_true, decide_eq_true_eq] at hgw
      have hl : lv = [] := Decidable.byContradiction fun h => hg ⟨hgw, h⟩
      subst hl
      go_wp2_with (go_at_call 57; go_must (refine (kw _).mono ?_; rintro e w0 ⟨rfl, hw0⟩; have hw0 := hw0.symm; subst hw0))
      go_ret2
      exact ⟨_, rfl, H0⟩

/-- What a record's stretch tells of its items. -/
theorem step_meets {s : Str} {t a b : Int} (h : meetsS s a b = true ∨ (a ≤ t ∧ t ≤ b)) : meetsS (stepS s t) a b = true := by
  obtain ⟨f1, t1, l1, g1⟩ := s
  simp only [meetsS, stepS, Str.empty, Bool.and_eq_true, Bool.not_eq_true', decide_eq_false_iff_not, decide_eq_true_eq] at h ⊢
  rcases h with ⟨⟨h0, h1⟩, h2⟩ | ⟨h1, h2⟩
  · rw [if_neg h0]; simp only; omega
  · by_cases h3 : g1 < l1
    · rw [if_pos h3]; simp only; omega
    · rw [if_neg h3]; simp only; omega
theorem fold_meets {a b : Int} : ∀ (l : List Itm) (s : Str), (meetsS s a b = true ∨ ∃ x ∈ l, a ≤ x.time ∧ x.time ≤ b) → meetsS (l.foldl (fun s x => stepS s x.time) s) a b = true
  | [], s, h => by
    rcases h with h | ⟨x, hx, _⟩
    · exact h
    · cases hx
  | z :: l, s, h => by
    refine fold_meets l _ ?_
    rcases h with h | ⟨x, hx, h⟩
    · exact .inl (step_meets (.inl h))
    · rcases List.mem_cons.1 hx with rfl | hx
      · exact .inl (step_meets (.inr h))
      · exact .inr ⟨x, hx, h⟩
theorem one_meets {seq a b : Int} {l : List Itm} {x : Itm} (hx : x ∈ l) (h : timeB a b x = true) : meetsS (oneS seq l) a b = true := by
  simp only [timeB, Bool.and_eq_true, decide_eq_true_eq] at h
  exact fold_meets _ _ (.inr ⟨x, List.mem_filter.2 ⟨hx, h.1.1⟩, h.1.2, h.2⟩)
theorem step_ends (l : List Itm) : ∀ s : Str, (l.foldl (fun s x => stepS s x.time) s).fr = s.fr ∧ (l.foldl (fun s x => stepS s x.time) s).to = s.to := by
  induction l with
  | nil => exact fun s => ⟨rfl, rfl⟩
  | cons x l ih =>
    intro s
    obtain ⟨h1, h2⟩ := ih (stepS s x.time)
    simp only [List.foldl_cons]
    rw [h1, h2]
    unfold stepS
    split <;> exact ⟨rfl, rfl⟩
theorem one_ends (seq : Int) (l : List Itm) : (oneS seq l).fr = seq ∧ (oneS seq l).to = seq := step_ends _ _
/-- The records that meet the times have all items of such times. -/
theorem items_some (l : List Rcd) (a b : Int) : itemsS (l.filter fun r => meetsS (oneS r.seq r.items) a b) a b = itemsS l a b := by
  induction l with
  | nil => rfl
  | cons r l ih =>
    have hc : ∀ m : List Rcd, itemsS (r :: m) a b = r.items.filter (timeB a b) ++ itemsS m a b := fun m => by simp [itemsS]
    rw [List.filter_cons, hc]
    by_cases h : meetsS (oneS r.seq r.items) a b = true
    · rw [if_pos h, hc, ih]
    · rw [if_neg h, ih]
      have : r.items.filter (timeB a b) = [] := List.filter_eq_nil_iff.2 fun x hx hp => h (one_meets hx hp)
      rw [this, List.nil_append]
/-- What is found: the stretches of the records that meet the times. -/
theorem finds_law {l : List Rcd} {width : Int} (hw : 2 ≤ width ∧ width ≤ 64) (a b : Int) :
    (seekS width (ofS width l) a b).1 = (l.filter fun r => meetsS (oneS r.seq r.items) a b).map (fun r => oneS r.seq r.items) ∧
    (seekS width (ofS width l) a b).2 ≤ sumN (fun j => ((ofS width l).getD j []).length) (ofS width l).length := by
  unfold seekS ofS
  by_cases hl : l = []
  · subst hl
    simp
  · have e1 : ((2 ≤ width ∧ width ≤ 64) ∧ l ≠ []) = True := by simp [hw, hl]
    simp only [e1, if_true]
    obtain ⟨n, rfl⟩ : ∃ n : Nat, width = n := ⟨width.toNat, by omega⟩
    simp only [Int.toNat_natCast]
    have hn : 2 ≤ n := by omega
    obtain ⟨L, hL⟩ : ∃ L, (l.map fun r => oneS r.seq r.items) = L := ⟨_, rfl⟩
    have hLl : L.length = l.length := by rw [← hL]; simp
    have hLne : L ≠ [] := by
      rintro rfl
      rw [List.length_nil] at hLl
      exact hl (List.eq_nil_of_length_eq_zero hLl.symm)
    have hcn : climb n l.length L ≠ [] := by
      have := climb_ne n l.length L
      exact List.length_pos_iff.1 this
    rw [hL, if_pos ⟨hw, hcn⟩]
    refine ⟨?_, seek_looks a b⟩
    rw [seek_finds hn hLne a b (by omega), ← hL, List.filter_map]
    rfl

end Go.Proofs.Ytbikjhmdpgoofaa
