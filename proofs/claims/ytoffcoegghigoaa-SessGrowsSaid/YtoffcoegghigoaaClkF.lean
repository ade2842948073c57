/- clock's Disorder. Condition: so many items. -/
import Derived.Test.YtoffcoegghigoaaClkE
namespace Go.Proofs.Ytoffcoegghigoaa
open Go.RowKit

def disS (p : Int × Int) (x : Itm) : Int × Int := (max p.1 x.time, max p.2 (p.1 - x.time))
def disF (l : List Itm) : Int × Int := l.foldl disS (0, 0)
theorem disF_snoc (l : List Itm) (x : Itm) : disF (l ++ [x]) = disS (disF l) x := by simp [disF]
theorem counts_time {x : Itm} (h : x.counts = true) : x.kind = 1 ∧ 0 ≤ x.time ∧ x.time ≤ 1099511627776 := by
  have h2 : (decide (x.kind = 1) && x.right) = true := h
  rw [Bool.and_eq_true, decide_eq_true_eq] at h2
  obtain ⟨h1, h3⟩ := h2
  unfold Itm.right at h3
  simp only [Bool.and_eq_true, decide_eq_true_eq] at h3
  exact ⟨h1, h3.1⟩
theorem disF_le {l : List Itm} (h : ∀ x ∈ l, x.counts = true) : (0 ≤ (disF l).1 ∧ (disF l).1 ≤ 1099511627776) ∧ (0 ≤ (disF l).2 ∧ (disF l).2 ≤ 1099511627776) := by
  have key : ∀ (l : List Itm), (∀ x ∈ l, x.counts = true) → ∀ p : Int × Int, (0 ≤ p.1 ∧ p.1 ≤ 1099511627776) ∧ (0 ≤ p.2 ∧ p.2 ≤ 1099511627776) → (0 ≤ (l.foldl disS p).1 ∧ (l.foldl disS p).1 ≤ 1099511627776) ∧ (0 ≤ (l.foldl disS p).2 ∧ (l.foldl disS p).2 ≤ 1099511627776) := by
    intro l
    induction l with
    | nil => exact fun _ p h => h
    | cons x l ih =>
      intro hl p hp
      obtain ⟨_, h1, h2⟩ := counts_time (hl x (by simp))
      refine ih (fun y hy => hl y (by simp [hy])) _ ?_
      simp only [disS]
      omega
  exact key l h (0, 0) (by decide)

set_option maxHeartbeats 4000000 in
set_option maxRecDepth 100000 in
theorem clk_disorder {v : Value} {l : List Itm} {w : World} (hv : ItmsRO w v l) (hl : l.length ≤ 3518437208880) :
    Calls Try.prog 45 #[v] w fun e w' => e = .returned (.int .i64 (disF (l.filter Itm.counts)).2) ∧ Below w.heap.size w w' := by
  have ke := clk_events hv hl
  have hEl : (l.filter Itm.counts).length ≤ 3518437208880 := Nat.le_trans (List.length_filter_le _ _) hl
  have hEc : ∀ x ∈ l.filter Itm.counts, x.counts = true := fun x hx => (List.mem_filter.1 hx).2
  obtain ⟨E, hE⟩ : ∃ E, l.filter Itm.counts = E := ⟨_, rfl⟩
  rw [hE] at hEl ke hEc ⊢
  clear hE
  go_enter Try.func45, Try.ntmps45
  go_upto_block 1 with (go_at_call 64; go_must (refine ke.mono ?_; rintro e w2 ⟨ve, rfl, H4⟩; obtain ⟨ea, ec, rfl, hec, hea⟩ := slice_form' (H4.row 0 rfl)))
  clear ke
  go_loopw [3, 4, 6, 10] (fun tv dv _ j wr => ∃ (k : Nat) (top worst : Int), k ≤ E.length ∧ j = .int .i64 k ∧ tv = .int .i64 top ∧ dv = .int .i64 worst ∧ Hid (disF (E.take k) = (top, worst)) ∧ St (fun _ => False) w wr [Row 85 4 (.slice ea E.length ec) E.length (itms E)]) (fun _ _ _ j _ => E.length - (intOf j).toNat)
  case atStart => exact ⟨0, 0, 0, by omega, rfl, rfl, rfl, Lib.hid rfl, H4⟩
  case round =>
    clear H4
    obtain ⟨k, top, worst, hk, rfl, rfl, rfl, hD, HM⟩ := hrel
    have hbd := disF_le (l := E.take k) (fun x hx => hEc x (List.mem_of_mem_take hx))
    rw [hD.out] at hbd
    obtain ⟨⟨hb1, hb2⟩, hb3, hb4⟩ := hbd
    simp only at hb1 hb2 hb3 hb4
    by_cases hkl : k < E.length
    · obtain ⟨ge, rfl⟩ := hea (by omega)
      obtain ⟨x, hx⟩ : ∃ x, E[k]? = some x := ⟨_, List.getElem?_eq_getElem hkl⟩
      obtain ⟨q0, q1, q2, q3⟩ := row_itms (HM.row 0 rfl) hx
      obtain ⟨_, ht1, ht2⟩ := counts_time (hEc x (List.mem_of_getElem? hx))
      have hDn := Lib.hid (show disF (E.take (k + 1)) = (max top x.time, max worst (top - x.time)) by rw [take_snoc' hx, disF_snoc, hD.out]; rfl)
      obtain ⟨xk, xy, xt, xv⟩ := x
      simp only at q0 q1 q2 q3 hDn ht1 ht2
      unfold textV at q1
      clear hx
      obtain ⟨m1, hm1⟩ : ∃ m1, max top xt = m1 := ⟨_, rfl⟩
      obtain ⟨m2, hm2⟩ : ∃ m2, max worst (top - xt) = m2 := ⟨_, rfl⟩
      have hDm := Lib.hid (show disF (E.take (k + 1)) = (m1, m2) by rw [hDn.out, hm1, hm2])
      clear hDn
      have hw1 : IntKind.i64.wrap (top - xt) = top - xt := by rw [IntKind.wrap_i64]; omega
      have HA : St (fun _ => False) w _ [_, _] := HM.allocAt rfl #[.int .i64 xk, .string ⟨xy.toArray⟩, .int .i64 xt, .int .i64 xv] 85
      go_wp2
      go_roundw
      case rel => exact ⟨k + 1, m1, m2, by omega, by go_num, rfl, rfl, hDm, St.tail HA⟩
      case measure => simp [intOf]; omega
    · obtain rfl : k = E.length := by omega
      rw [List.take_length] at hD
      go_wp2
      go_ret
      rw [hD.out]
      exact ⟨rfl, HM.below (Nat.le_refl _) (fun _ h => h.elim)⟩
end Go.Proofs.Ytoffcoegghigoaa
