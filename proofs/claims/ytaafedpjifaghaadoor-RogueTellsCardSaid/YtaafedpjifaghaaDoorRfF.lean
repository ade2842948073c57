/- The walk of the document's number of a move (layer 24). Conditions: the word has no space, its length. -/
import Derived.Test.YtaafedpjifaghaaDoorRfE
import Derived.Test.YtaafedpjifaghaaDoorRtB
set_option linter.unusedVariables false
set_option linter.unusedSimpArgs false
namespace Go.Proofs.YtaafedpjifaghaaDoor
open Go.RowKit

set_option maxHeartbeats 4000000 in
set_option maxRecDepth 100000 in
theorem ref24_number {s : List UInt8} (h32 : (32 : UInt8) ∉ s) (hl : s.length ≤ 1000000) (w : World) :
    Calls Tryd.prog 45 #[.string ⟨s.toArray⟩] w fun e w' => e = .returned (.tuple #[.int .i64 ((num24 s).getD 0), .bool (num24 s).isSome]) ∧ Below w.heap.size w w' := by
  have hcat : (⟨#[97, 32, 49, 46, 46, 50, 32, 35, 49, 32]⟩ : ByteArray) ++ ⟨s.toArray⟩ = ⟨(preT ++ s).toArray⟩ := txs_cat preT s
  have ko := fun w' => doc_oparse h32 hl w'
  have hd : num24 s = if (num11 s).2 = true ∧ 0 ≤ (num11 s).1 then some (num11 s).1 else none := rfl
  obtain ⟨⟨n, ok⟩, hn⟩ : ∃ x, num11 s = x := ⟨_, rfl⟩
  rw [hn] at ko hd
  simp only at ko hd
  clear hn
  go_enter Tryd.func45, Tryd.ntmps45
  cases ok with
  | false =>
    have hdh := Lib.hid (show num24 s = none by rw [hd]; simp)
    clear hd
    unfold outOf outZ oneNum at ko
    simp only at ko
    have ko2 := fun w' => show Calls Tryd.prog 61 #[.string ⟨(preT ++ s).toArray⟩] w' fun e w2 => e = .returned (.tuple #[.agg #[.bool false, .int .i64 0, .string ⟨#[]⟩, .int .i64 0, .int .i64 0, .string ⟨#[]⟩, .int .i64 0, .int .i64 0, .int .i64 0, .slice none 0 0], .bool false]) ∧ Below w'.heap.size w' w2 from (ko w').mono fun e w2 ⟨v, he, H⟩ => ⟨he, H.below (Nat.le_refl _) (fun _ h => h.elim)⟩
    clear ko
    go_upto_region 2 with (go_at_call 61; go_must (refine (St.callPast (ko2 _) (St.nil (fun _ => False) w)).mono ?_; rintro e w2 ⟨rfl, H1⟩; obtain ⟨b, hb⟩ : ∃ g, w2.heap.size = g := ⟨_, rfl⟩; have H2 := H1.allocAt hb #[.bool false, .int .i64 0, .string ⟨#[]⟩, .int .i64 0, .int .i64 0, .string ⟨#[]⟩, .int .i64 0, .int .i64 0, .int .i64 0, .slice none 0 0] 112))
    go_wp2
    go_ret2
    rw [hdh.out]
    exact ⟨by first | rfl | trivial, H2.below (Nat.le_refl _) (fun _ h => h.elim)⟩
  | true =>
    unfold outOf oneNum at ko
    simp only at ko
    unfold outN at ko
    go_upto_region 2 with (go_at_call 61; go_must (refine (ko _).mono ?_; rintro e w2 ⟨v, rfl, H1⟩; obtain ⟨g, cap, rfl⟩ := row_form (H1.row 0 rfl) rfl (by omega : 0 < 1); obtain ⟨b, hb⟩ : ∃ g, w2.heap.size = g := ⟨_, rfl⟩; have H2 : St (fun _ => False) w _ [Blk b (outN (.slice (some ⟨g, 0, none⟩) 1 cap)).toArray 112, Row 3 1 (.slice (some ⟨g, 0, none⟩) 1 cap) 1 [.int .i64 n]] := H1.allocAt hb _ 112))
    obtain ⟨w3, hw3⟩ : ∃ w3, w2.alloc (.cells #[.bool false, .int .i64 0, .string ⟨#[]⟩, .int .i64 0, .int .i64 0, .string ⟨#[97]⟩, .int .i64 1, .int .i64 2, .int .i64 1, .slice (some ⟨g, 0, none⟩) 1 cap] 112) = w3 := ⟨_, rfl⟩
    have hw3' : w2.alloc (.cells (outN (.slice (some ⟨g, 0, none⟩) 1 cap)).toArray 112) = w3 := hw3
    rw [hw3'] at H2
    rw [hw3]
    try rw [hb]
    clear hw3 hw3' hb H1 ko
    have c9 : w3.cell? ⟨b, 9, none⟩ = some (.slice (some ⟨g, 0, none⟩) 1 cap) := H2.cell 0 9 rfl rfl
    have d0 : w3.cell? ⟨g, 0, none⟩ = some (.int .i64 n) := H2.rowCell 1 0 rfl rfl
    by_cases h0 : n < 0
    · have z0 : decide (n < 0) = true := by simpa using h0
      have hdh := Lib.hid (show num24 s = none by rw [hd]; simp; omega)
      clear hd
      go_wp2
      go_ret2
      rw [hdh.out]
      exact ⟨by first | rfl | trivial, H2.below (Nat.le_refl _) (fun _ h => h.elim)⟩
    · have z0 : decide (n < 0) = false := by simpa using h0
      have hdh := Lib.hid (show num24 s = some n by rw [hd]; simp; omega)
      clear hd
      go_wp2
      go_ret2
      rw [hdh.out]
      exact ⟨by first | rfl | trivial, H2.below (Nat.le_refl _) (fun _ h => h.elim)⟩

end Go.Proofs.YtaafedpjifaghaaDoor
