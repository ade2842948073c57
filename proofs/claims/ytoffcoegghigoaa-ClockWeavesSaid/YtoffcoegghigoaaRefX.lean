/- The document's Disorder. Condition: so many items. -/
import Derived.Test.YtoffcoegghigoaaItmR
namespace Go.Proofs.Ytoffcoegghigoaa
open Go.RowKit

set_option maxHeartbeats 4000000 in
set_option maxRecDepth 100000 in
theorem ref_disorder {v : Value} {l : List Itm} (w : World) (hv : ItmsRO w v l) (hl : l.length ≤ 3518437208880) :
    Calls Try.prog 46 #[v] w fun e w' => e = .returned (.int .i64 (disF (l.filter Itm.counts)).2) ∧ Below w.heap.size w w' := by
  have hEc : ∀ x ∈ l.filter Itm.counts, x.counts = true := fun x hx => (List.mem_filter.1 hx).2
  have hEl : (l.filter Itm.counts).length ≤ 3518437208880 := Nat.le_trans (List.length_filter_le _ _) hl
  have ke := ref_events w hv (by omega)
  obtain ⟨E, hE⟩ : ∃ E, l.filter Itm.counts = E := ⟨_, rfl⟩
  rw [hE] at hEc hEl ke ⊢
  clear hE hv
  go_enter Try.func46, Try.ntmps46
  go_upto_block 1 with (go_at_call 65; go_must (refine ke.mono ?_; rintro e w2 ⟨ve, rfl, H3⟩; obtain ⟨ea, ec, rfl, hec, hea⟩ := slice_form' (H3.row 0 rfl)))
  clear ke
  go_loopw [3, 13] (fun u j wr => ∃ (k : Nat) (worst : Int), k ≤ E.length ∧ j = .int .i64 k ∧ u = .int .i64 worst ∧ Hid (worst = (disF (E.take k)).2) ∧ St (fun _ => False) w wr [Row 85 4 (.slice ea E.length ec) E.length (itms E)]) (fun _ j _ => E.length - (intOf j).toNat)
  case atStart => exact ⟨0, 0, by omega, rfl, rfl, Lib.hid rfl, H3⟩
  case round =>
    clear H3
    obtain ⟨k, worst, hk, rfl, rfl, hW, HM⟩ := hrel
    by_cases hkl : k < E.length
    · obtain ⟨ge, rfl⟩ := hea (by omega)
      obtain ⟨x, hx⟩ : ∃ x, E[k]? = some x := ⟨_, List.getElem?_eq_getElem hkl⟩
      obtain ⟨_, hx0, hx1⟩ := counts_time (hEc x (List.mem_of_getElem? hx))
      obtain ⟨q0, q1, q2, q3⟩ := row_itms (HM.row 0 rfl) hx
      have hb := disF_le (l := E.take k) (fun z hz => hEc z (List.mem_of_mem_take hz))
      have hn := Lib.hid (show (disF (E.take (k + 1))).2 = max worst ((disF (E.take k)).1 - x.time) by rw [take_snoc' hx, disF_snoc, hW.out]; rfl)
      obtain ⟨xk, xy, xt, xv⟩ := x
      simp only at q0 q1 q2 q3 hx0 hx1 hn
      unfold textV at q1
      have hw0 := hW.out
      have hwb : 0 ≤ worst ∧ worst ≤ 1099511627776 := by omega
      have hkc : (k : Int) ≤ (ec : Int) := by omega
      have hkc' : k ≤ ec := by omega
      clear hw0 hx hb
      have HA : St (fun _ => False) w _ [_, _] := HM.allocAt rfl #[.int .i64 xk, .string ⟨xy.toArray⟩, .int .i64 xt, .int .i64 xv] 85
      go_upto_region 6 with (fail)
      obtain ⟨wb, hwb⟩ : ∃ wb, wr.alloc (.cells #[.int .i64 xk, .string ⟨xy.toArray⟩, .int .i64 xt, .int .i64 xv] 85) = wb := ⟨_, rfl⟩
      obtain ⟨xb, hxb⟩ : ∃ xb, wr.heap.size = xb := ⟨_, rfl⟩
      rw [hwb, hxb] at HA
      try rw [hwb]
      try simp only [hxb]
      have HA2 : St (fun _ => False) w wb [Blk xb #[.int .i64 xk, .string ⟨xy.toArray⟩, .int .i64 xt, .int .i64 xv] 85, Row 85 4 (.slice (some ⟨ge, 0, none⟩) E.length ec) E.length (itms E)] := HA
      clear hwb hxb q0 q1 q2 q3 HM HA
      go_upto_block 3 with (fail)
      go_loopw [3, 22] (fun u j wr => ∃ (i : Nat) (ws : Int), i ≤ k ∧ j = .int .i64 i ∧ u = .int .i64 ws ∧ Hid (ws = max worst ((disF (E.take i)).1 - xt)) ∧ (0 ≤ ws ∧ ws ≤ 1099511627776) ∧ St (fun _ => False) w wr [Blk xb #[.int .i64 xk, .string ⟨xy.toArray⟩, .int .i64 xt, .int .i64 xv] 85, Row 85 4 (.slice (some ⟨ge, 0, none⟩) E.length ec) E.length (itms E)]) (fun _ j _ => k - (intOf j).toNat)
      case atStart => exact ⟨0, worst, by omega, rfl, rfl, Lib.hid (by show worst = max worst (0 - xt); omega), by omega, HA2⟩
      case round =>
        clear HA2
        obtain ⟨i, ws, hi, rfl, rfl, hws, hwsb, HM⟩ := hrel
        by_cases hik : i < k
        · obtain ⟨y, hy⟩ : ∃ y, E[i]? = some y := ⟨_, List.getElem?_eq_getElem (by omega)⟩
          obtain ⟨_, hy0, hy1⟩ := counts_time (hEc y (List.mem_of_getElem? hy))
          obtain ⟨q0, q1, q2, q3⟩ := row_itms (HM.row 1 rfl) hy
          have d2 := HM.cell 0 2 rfl rfl
          have hn2 := Lib.hid (show (disF (E.take (i + 1))).1 = max (disF (E.take i)).1 y.time by rw [take_snoc' hy, disF_snoc]; rfl)
          obtain ⟨yk, yy, yt, yv⟩ := y
          simp only at q0 q1 q2 q3 hy0 hy1 hn2
          unfold textV at q1
          have hw1 : IntKind.i64.wrap (yt - xt) = yt - xt := by rw [IntKind.wrap_i64]; omega
          obtain ⟨m, hm⟩ : ∃ m, max ws (yt - xt) = m := ⟨_, rfl⟩
          have hmh := Lib.hid (show m = max worst ((disF (E.take (i + 1))).1 - xt) by rw [hn2.out, ← hm, hws.out]; omega)
          have hmb : 0 ≤ m ∧ m ≤ 1099511627776 := by omega
          have HA : St (fun _ => False) w _ [_, _, _] := HM.allocAt rfl #[.int .i64 yk, .string ⟨yy.toArray⟩, .int .i64 yt, .int .i64 yv] 85
          clear hy
          go_upto_region 9 with (fail)
          obtain ⟨wc, hwc⟩ : ∃ wc, wr.alloc (.cells #[.int .i64 yk, .string ⟨yy.toArray⟩, .int .i64 yt, .int .i64 yv] 85) = wc := ⟨_, rfl⟩
          obtain ⟨yb, hyb⟩ : ∃ yb, wr.heap.size = yb := ⟨_, rfl⟩
          rw [hwc, hyb] at HA
          try rw [hwc]
          try simp only [hyb]
          have HA2 : St (fun _ => False) w wc [Blk yb #[.int .i64 yk, .string ⟨yy.toArray⟩, .int .i64 yt, .int .i64 yv] 85, Blk xb #[.int .i64 xk, .string ⟨xy.toArray⟩, .int .i64 xt, .int .i64 xv] 85, Row 85 4 (.slice (some ⟨ge, 0, none⟩) E.length ec) E.length (itms E)] := HA
          clear hwc hyb q0 q1 q2 q3 HM HA d2
          have d2 := HA2.cell 1 2 rfl rfl
          have c2 := HA2.cell 0 2 rfl rfl
          go_wp2
          go_roundw
          case rel => exact ⟨i + 1, m, by omega, by go_num, rfl, hmh, hmb, HA2.pick [1, 2]⟩
          case measure => simp [intOf]; omega
        · obtain rfl : i = k := by omega
          go_wp2
          go_roundw
          case rel => exact ⟨i + 1, ws, by omega, by go_num, rfl, Lib.hid (by rw [hn.out, hws.out]), HM.pick [1]⟩
          case measure => simp [intOf]; omega
    · obtain rfl : k = E.length := by omega
      rw [List.take_length] at hW
      go_wp2
      go_ret
      rw [hW.out]
      exact ⟨rfl, HM.below (Nat.le_refl _) (fun _ h => h.elim)⟩
end Go.Proofs.Ytoffcoegghigoaa
