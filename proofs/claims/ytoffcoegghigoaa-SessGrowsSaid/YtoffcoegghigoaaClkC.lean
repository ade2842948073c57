/- slices.Clone, IndexFunc, DeleteFunc at items with clock's predicate; clock's events. Condition: so many items. -/
import Derived.Test.YtoffcoegghigoaaItmA
import Derived.Test.YtoffcoegghigoaaClkA
namespace Go.Proofs.Ytoffcoegghigoaa
open Go.RowKit

set_option maxHeartbeats 1000000 in
set_option maxRecDepth 100000 in
theorem clk_not (x : Itm) (hx : x.fits) (w : World) : Calls Try.prog 82 #[itmV x] w fun e w' => e = .returned (.bool (!x.counts)) ∧ Below w.heap.size w w' := by
  have kr := fun w' => ev_right x hx w'
  have hc : x.counts = (decide (x.kind = 1) && x.right) := rfl
  obtain ⟨rt, hrt⟩ : ∃ rt, x.right = rt := ⟨_, rfl⟩
  rw [hrt] at kr hc
  clear hrt
  have hch := Lib.hid hc
  clear hc
  obtain ⟨k, key, t, v⟩ := x
  have H : St (fun _ => False) w (w.alloc (.cells #[.int .i64 k, textV key, .int .i64 t, .int .i64 v] 85)) [Blk w.heap.size #[.int .i64 k, textV key, .int .i64 t, .int .i64 v] 85] := (St.nil (fun _ => False) w).alloc _ _
  unfold itmV textV at kr
  unfold textV at H
  unfold itmV
  simp only at kr hch
  obtain ⟨w1, hw1⟩ : ∃ w1, w.alloc (.cells #[.int .i64 k, .string ⟨key.toArray⟩, .int .i64 t, .int .i64 v] 85) = w1 := ⟨_, rfl⟩
  obtain ⟨b, hb⟩ : ∃ b, w.heap.size = b := ⟨_, rfl⟩
  unfold textV
  simp only
  go_enter Try.func82, Try.ntmps82
  go_upto_region 1 with (fail)
  rw [hw1, hb] at H
  try rw [hw1]
  try rw [hb]
  clear hw1 hb
  have c0 := H.cell 0 0 rfl rfl
  have c1 := H.cell 0 1 rfl rfl
  have c2 := H.cell 0 2 rfl rfl
  have c3 := H.cell 0 3 rfl rfl
  cases rt with
  | false =>
    go_wp2_with (go_at_call 83; go_must (refine (St.callPast (kr _) H).mono ?_; rintro e w2 ⟨rfl, H2⟩))
    go_ret
    rw [hch.out]
    exact ⟨by simp, H2.below (Nat.le_refl _) (fun _ h => h.elim)⟩
  | true =>
    by_cases h1 : k = 1
    · subst h1
      go_wp2_with (go_at_call 83; go_must (refine (St.callPast (kr _) H).mono ?_; rintro e w2 ⟨rfl, H2⟩; have d0 := H2.cell 0 0 rfl rfl))
      go_ret
      rw [hch.out]
      exact ⟨by simp, H2.below (Nat.le_refl _) (fun _ h => h.elim)⟩
    · have y1 : (k == 1) = false := by simpa using h1
      have hf := Lib.hid (show decide (k = 1) = false by simpa using h1)
      go_wp2_with (go_at_call 83; go_must (refine (St.callPast (kr _) H).mono ?_; rintro e w2 ⟨rfl, H2⟩; have d0 := H2.cell 0 0 rfl rfl))
      go_ret
      rw [hch.out, hf.out]
      exact ⟨by simp [h1], H2.below (Nat.le_refl _) (fun _ h => h.elim)⟩

set_option maxHeartbeats 1000000 in
set_option maxRecDepth 100000 in
theorem itms_clone {v : Value} {l : List Itm} {w : World} (hv : ItmsRO w v l) (hl : l.length ≤ 3518437208880) :
    Calls Try.prog 81 #[v] w fun e w' => ∃ v', e = .returned v' ∧ St (fun _ => False) w w' [Row 85 4 v' l.length (itms l)] := by
  obtain ⟨ad, cap, rfl, h0, hcell⟩ := hv.cells
  cases ad with
  | none =>
    obtain rfl := h0 rfl
    have hq := fun w => Lib.run_eql_slice_nil (P := Try.prog) w 65 85 none 0 cap 0 0 Try.underlying65
    go_enter Try.func81, Try.ntmps81
    go_wp2
    go_ret
    exact ⟨_, rfl, (St.nil _ w).row_nil 85 4⟩
  | some a =>
    have hnew : St (fun _ => False) w (w.alloc (.cells #[] 85)) [Row 85 4 (.slice (some ⟨w.heap.size, 0, none⟩) 0 0) 0 []] := by
      refine ⟨(Kept.refl _ _).alloc _, fun k => k = w.heap.size, ⟨?_, fun k => by simp [Value.ownBlock, eq_comm]⟩, fun k h => .inr (by omega), trivial⟩
      exact World.ownsRow_lit w #[] 0 (Nat.zero_le _) (by simp [maxLen]) rfl
    have hnews : ∀ p, some a = some p → ∀ j u, (itms l)[j]? = some u → (w.alloc (.cells #[] 85)).cell? (p.add j) = some u := fun p hp j u hj => Lib.cell?_alloc_some _ (hcell p hp j u hj)
    have hlen := itms_len l
    have hb : (0 + l.length) * 40 ≤ 140737488355328 := by omega
    have h1 := itms_one1 l
    clear hcell h0
    have hq := fun w => Lib.run_eql_slice_nil (P := Try.prog) w 65 85 (some a) l.length cap 0 0 Try.underlying65
    go_enter Try.func81, Try.ntmps81
    go_wp2_with (at_builtin; go_must (refine St.list_add hnew 0 rfl rfl (.tmp 5) (.tmp 6) 65 rfl Try.underlying65 Try.info85 (by decide) rfl (itms l) rfl hlen (by intro h; cases h) hnews h1 hb ?_; intro v' w1 H1 hz))
    go_ret
    exact ⟨v', rfl, by simpa using H1⟩

def notV : Value := .func (.func 82) #[] #[]
set_option maxHeartbeats 1000000 in
set_option maxRecDepth 100000 in
theorem itms_index {v : Value} {l : List Itm} {w : World} (hv : ItmsRO w v l) (hl : l.length ≤ 3518437208880) :
    Calls Try.prog 92 #[v, notV] w fun e w' => ∃ r : Int, e = .returned (.int .i64 r) ∧ ((r = -1 ∧ ∀ x ∈ l, x.counts = true) ∨ ∃ k : Nat, r = k ∧ (∃ x, l[k]? = some x ∧ x.counts = false) ∧ ∀ x ∈ l.take k, x.counts = true) ∧ Below w.heap.size w w' := by
  obtain ⟨ao, cap, rfl, hcap, hfit, hic⟩ := hv
  have H0 : St (fun _ => False) w w [] := St.nil _ w
  unfold notV
  go_enter Try.func92, Try.ntmps92
  go_upto_block 1 with (fail)
  go_loopw [5, 8] (fun _ j wr => ∃ (k : Nat), k ≤ l.length ∧ j = .int .i64 k ∧ (∀ x ∈ l.take k, x.counts = true) ∧ St (fun _ => False) w wr []) (fun _ j _ => l.length - (intOf j).toNat)
  case atStart => exact ⟨0, by omega, rfl, by simp, H0⟩
  case round =>
    clear H0
    obtain ⟨k, hk, rfl, hall, HM⟩ := hrel
    by_cases hkl : k < l.length
    · obtain ⟨b2, o2, rfl, hb2, hc2⟩ := hic (by intro e; rw [e] at hkl; simp at hkl)
      obtain ⟨x, hx⟩ : ∃ x, l[k]? = some x := ⟨_, List.getElem?_eq_getElem hkl⟩
      have hxf := hfit x (List.mem_of_getElem? hx)
      obtain ⟨q0, q1, q2, q3⟩ := itm_cells (hc2 k x hx) (HM.kept.block b2 hb2 id)
      have kr := fun w' => clk_not x hxf w'
      have hxh := Lib.hid hx
      have hallh := Lib.hid hall
      obtain ⟨ct, hcv⟩ : ∃ ct, x.counts = ct := ⟨_, rfl⟩
      rw [hcv] at kr
      have hcvh := Lib.hid hcv
      clear hx hc2 hic hfit hcv hall
      obtain ⟨xk, xy, xt, xv⟩ := x
      unfold itmV textV at kr
      simp only at q0 q1 q2 q3 kr
      unfold textV at q1
      cases ct with
      | true =>
        go_wp2_with (go_at_call 82; go_must (refine (St.callPast (kr _) HM).mono ?_; rintro e w3 ⟨rfl, H3⟩))
        go_roundw
        case rel =>
          refine ⟨k + 1, by omega, by go_num, fun y hy => ?_, H3⟩
          rw [take_snoc' hxh.out] at hy
          rcases List.mem_append.1 hy with hy | hy
          · exact hallh.out y hy
          · obtain rfl := List.mem_singleton.1 hy
            exact hcvh.out
        case measure => simp [intOf]; omega
      | false =>
        go_wp2_with (go_at_call 82; go_must (refine (St.callPast (kr _) HM).mono ?_; rintro e w3 ⟨rfl, H3⟩))
        go_ret
        exact ⟨_, rfl, .inr ⟨k, rfl, ⟨_, hxh.out, hcvh.out⟩, hallh.out⟩, H3.below (Nat.le_refl _) (fun _ h => h.elim)⟩
    · obtain rfl : k = l.length := by omega
      rw [List.take_length] at hall
      have hallh := Lib.hid hall
      clear hall
      go_wp2
      go_ret
      exact ⟨_, rfl, .inl ⟨rfl, hallh.out⟩, HM.below (Nat.le_refl _) (fun _ h => h.elim)⟩
end Go.Proofs.Ytoffcoegghigoaa
