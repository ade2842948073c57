/- law28: how great are items, whatever their number. -/
import Derived.Test.YtoffcoegghigoaaRefW
import Derived.Test.YtoffcoegghigoaaRefX
import Derived.Test.YtoffcoegghigoaaRefY
import Derived.Test.YtoffcoegghigoaaSymE
import Derived.Test.YtoffcoegghigoaaClkI
namespace Go.Proofs.Ytoffcoegghigoaa
open Go.RowKit

theorem wrap_add (a b : Int) : IntKind.i64.wrap (IntKind.i64.wrap a + IntKind.i64.wrap b) = IntKind.i64.wrap (a + b) := by
  simp only [IntKind.wrap_i64]
  omega
theorem wrap_next (p q : Nat) : IntKind.i64.wrap (IntKind.i64.wrap (p : Int) + IntKind.i64.wrap (10 + (q : Int))) = IntKind.i64.wrap ((p + (10 + q) : Nat) : Int) := by
  rw [wrap_add]
  congr 1
set_option maxHeartbeats 1000000 in
theorem great5w {v : Value} {l : List Itm} (w : World) (hv : ItmsRO w v l) (hll : l.length ≤ 9223372036854775807) :
    Calls Try.prog 41 #[v] w fun e w' => e = .returned (.int .i64 (IntKind.i64.wrap (wt5 l))) ∧ Below w.heap.size w w' := by
  obtain ⟨ao, cap, rfl, hcap, hfit, hcell⟩ := hv
  have H0 : St (fun _ => False) w w [] := St.nil (fun _ => False) w
  go_enter Try.func41, Try.ntmps41
  go_upto_block 1 with (fail)
  go_loopw [3, 8] (fun n j wr => ∃ (i : Nat), i ≤ l.length ∧ n = .int .i64 (IntKind.i64.wrap (wt5 (l.take i))) ∧ j = .int .i64 i ∧ St (fun _ => False) w wr []) (fun _ j _ => l.length - (intOf j).toNat)
  case atStart => exact ⟨0, by omega, rfl, rfl, H0⟩
  case round =>
    clear H0
    obtain ⟨i, hi, rfl, rfl, HL⟩ := hrel
    by_cases hlt : i < l.length
    · obtain ⟨b, o, rfl, hb, hc⟩ := hcell (by rintro rfl; simp at hlt)
      obtain ⟨x, hx⟩ : ∃ x, l[i]? = some x := ⟨_, List.getElem?_eq_getElem hlt⟩
      have hn : wt5 (l.take (i + 1)) = wt5 (l.take i) + (10 + x.key.length) := by rw [take_snoc' hx, wt5_snoc]
      obtain ⟨q0, q1, q2, q3⟩ := itm_cells (hc i x hx) (HL.kept.block b hb id)
      obtain ⟨T, hT⟩ : ∃ T, IntKind.i64.wrap (wt5 (l.take i)) = T := ⟨_, rfl⟩
      have hn2 : IntKind.i64.wrap (T + IntKind.i64.wrap (10 + (x.key.length : Int))) = IntKind.i64.wrap (wt5 (l.take (i + 1))) := by
        rw [hn, ← hT]
        exact wrap_next _ _
      obtain ⟨T', hT'⟩ : ∃ T', IntKind.i64.wrap (wt5 (l.take (i + 1))) = T' := ⟨_, rfl⟩
      rw [hT'] at hn2
      obtain ⟨G, hG⟩ : ∃ G, IntKind.i64.wrap (10 + (x.key.length : Int)) = G := ⟨_, rfl⟩
      rw [hG] at hn2
      have hnh := Lib.hid hT'
      try rw [hT]
      clear hn hx hc hcell hT hfit hT'
      obtain ⟨k, key, t, v⟩ := x
      simp only at q0 q1 q2 q3 hG
      unfold textV at q1
      have hsz : ((key.toArray).size : Int) = key.length := by simp
      have HA : St (fun _ => False) w _ [_] := HL.allocAt rfl #[.int .i64 k, .string ⟨key.toArray⟩, .int .i64 t, .int .i64 v] 85
      go_upto_region 5 with (fail)
      obtain ⟨wa, hwa⟩ : ∃ wa, wr.alloc (.cells #[.int .i64 k, .string ⟨key.toArray⟩, .int .i64 t, .int .i64 v] 85) = wa := ⟨_, rfl⟩
      obtain ⟨ob, hob⟩ : ∃ ob, wr.heap.size = ob := ⟨_, rfl⟩
      rw [hwa, hob] at HA
      try rw [hwa]
      try simp only [hob]
      clear hwa hob q0 q1 q2 q3 HL
      have d1 := HA.cell 0 1 rfl rfl
      go_wp2
      go_roundw
      case rel =>
        refine ⟨i + 1, by omega, ?_, by go_num, HA.pick []⟩
        rw [hnh.out]
        first | rfl | (go_num; done) | skip
      case measure => simp [intOf]; omega
    · obtain rfl : i = l.length := by omega
      rw [List.take_length]
      go_wp2
      go_ret
      exact ⟨rfl, HL.below (Nat.le_refl _) (fun _ h => h.elim)⟩


theorem see_mark {c : Clk} (h : c.ok) {t : Int} (hb : (c.see t).2.2 = true) : 0 ≤ (c.see t).2.1 ∧ (c.see t).2.1 ≤ 1099511627776 := by
  refine ⟨see_nonneg hb, ?_⟩
  have h1 := (see_ok h t).2.2.2.2
  have e : (c.see t).2.1 = (c.see t).1.last := by
    unfold Clk.see at hb ⊢
    by_cases e1 : timeOk t = false
    · rw [if_pos e1] at hb; exact absurd hb (by simp)
    · rw [if_neg e1] at hb ⊢
      by_cases e2 : max c.top t - c.slack < 0 ∨ (0 ≤ c.last ∧ max c.top t - c.slack < c.last + c.step)
      · rw [if_pos e2] at hb; exact absurd hb (by simp)
      · rw [if_neg e2]
  omega
theorem weave_fits : ∀ (l : List Itm) (c : Clk), c.ok → (∀ x ∈ l, x.fits) → ∀ x ∈ c.weave l, x.fits
  | [], c, _, _ => by intro x hx; simp [Clk.weave] at hx
  | y :: l, c, h, hl => by
    intro x hx
    have ih := weave_fits l (c.see y.time).1 (see_ok h y.time) (fun z hz => hl z (by simp [hz]))
    simp only [Clk.weave, List.mem_cons, List.mem_append] at hx
    rcases hx with rfl | hx | hx
    · exact hl _ (by simp)
    · cases hb : (c.see y.time).2.2 with
      | false => rw [hb] at hx; simp at hx
      | true =>
        obtain ⟨m1, m2⟩ := see_mark h hb
        rw [hb] at hx
        simp only [if_true, List.mem_singleton] at hx
        subst hx
        exact ⟨by simp only; omega, by simp, ⟨by simp only; omega, by simp only; omega⟩, by simp only; omega⟩
    · exact ih x hx

set_option maxHeartbeats 4000000 in
set_option maxRecDepth 100000 in
theorem weaves_walk {slack step : Int} {v : Value} {l : List Itm} (w : World) (hv : ItmsRO w v l) (hl : l.length ≤ 3518437208880) :
    Calls Try.prog 10 #[.int .i64 slack, .int .i64 step, v] w fun e w' => e = .returned (.bool true) ∧ Below w.heap.size w w' := by
  have hf : ∀ x ∈ l, x.fits := by obtain ⟨_, _, _, _, h, _⟩ := hv; exact h
  have hEf : ∀ x ∈ l.filter Itm.counts, x.fits := fun x hx => hf x (List.mem_filter.1 hx).1
  have hEl : (l.filter Itm.counts).length ≤ 3518437208880 := Nat.le_trans (List.length_filter_le _ _) hl
  have k1 := first28 w
  have k2 := fun (w' : World) (hk : Kept (fun _ => False) w w') => great5w w' (hv.later hk) (by omega)
  have k3 := fun (w' : World) (hk : Kept (fun _ => False) w w') => clk_disorder (hv.later hk) hl
  have k4 := fun (w' : World) (hk : Kept (fun _ => False) w w') => ref_disorder w' (hv.later hk) hl
  have k5 := fun (w' : World) (hk : Kept (fun _ => False) w w') => clk_sorted (hv.later hk) hl
  have k6 := fun (w' : World) (hk : Kept (fun _ => False) w w') => ref_sorted w' (hv.later hk) hl
  have kg := ref_good slack step
  have H0 : St (fun _ => False) w w [] := St.nil (fun _ => False) w
  obtain ⟨G, hG⟩ : ∃ G, IntKind.i64.wrap (wt5 l) = G := ⟨_, rfl⟩
  simp only [hG] at k2
  clear hG
  have hS1 : ∀ x ∈ (isr (l.filter Itm.counts)).reverse, x.fits := fun x hx => isr_all hEf x (List.mem_reverse.1 hx)
  have hS2 : (isr (l.filter Itm.counts)).reverse.length ≤ 9223372036854775807 := by rw [List.length_reverse, isr_len]; omega
  have e1 : (l.filter Itm.counts).length = (isr (l.filter Itm.counts)).reverse.length := by rw [List.length_reverse, isr_len]
  simp only [e1] at k5 k6
  obtain ⟨SL, hSL⟩ : ∃ SL, (isr (l.filter Itm.counts)).reverse = SL := ⟨_, rfl⟩
  simp only [hSL] at k5 k6 hS1 hS2
  obtain ⟨D, hD⟩ : ∃ D, (disF (l.filter Itm.counts)).2 = D := ⟨_, rfl⟩
  simp only [hD] at k3 k4
  clear hD hSL e1
  go_enter Try.func10, Try.ntmps10
  by_cases hbig : 1200 < G
  · have z1 : decide (1200 < G) = true := by simpa using hbig
    go_wp2_with (first
      | (go_at_call 34; go_must (refine (St.callPast k1 H0).mono ?_; rintro e w1 ⟨rfl, H1⟩))
      | (go_at_call 41; go_must (refine (St.callPast (k2 _ H1.kept) H1).mono ?_; rintro e w2 ⟨rfl, H2⟩)))
    go_ret
    exact ⟨rfl, H2.below (Nat.le_refl _) (fun _ h => h.elim)⟩
  · have z1 : decide (1200 < G) = false := by simpa using hbig
    cases hgood : clkGood slack step with
    | false =>
      have kw := fun w' => clk_weave_bad (v := v) hgood w'
      rw [hgood] at kg
      go_upto_region 11 with (first
        | (go_at_call 34; go_must (refine (St.callPast k1 H0).mono ?_; rintro e w1 ⟨rfl, H1⟩))
        | (go_at_call 41; go_must (refine (St.callPast (k2 _ H1.kept) H1).mono ?_; rintro e w2 ⟨rfl, H2⟩))
        | (go_at_call 42; go_must (refine (kw _).mono ?_; rintro e w3 ⟨rfl, rfl⟩))
        | (go_at_call 36; go_must (refine (kg _).mono ?_; rintro e w4 ⟨rfl, rfl⟩)))
      have HX := H2
      clear H2
      go_wp2_with (first
        | (go_at_call 45; go_must (refine (St.callPast (k3 _ HX.kept) HX).mono ?_; rintro e w7 ⟨rfl, H8⟩))
        | (go_at_call 46; go_must (refine (St.callPast (k4 _ H8.kept) H8).mono ?_; rintro e w8 ⟨rfl, H9⟩))
        | (go_at_call 47; go_must (refine (k5 _ H9.kept).mono ?_; rintro e w9 ⟨v9, rfl, H10⟩; have H11 : St (fun _ => False) w w9 [_] := H9.call0 H10))
        | (go_at_call 48; go_must (refine (k6 _ H11.kept).mono ?_; rintro e w10 ⟨v10, rfl, H12⟩; have H13 : St (fun _ => False) w w10 [_, _] := H11.call0 H12))
        | (go_at_call 43; go_must (refine (St.callPast (items_same _ (itms_own (H13.row 1 rfl) hS1) (itms_own (H13.row 0 rfl) hS1) hS2) H13).mono ?_; rintro e w11 ⟨rfl, H14⟩)))
      go_ret
      exact ⟨rfl, H14.below (Nat.le_refl _) (fun _ h => h.elim)⟩
    | true =>
      have kw := fun (w' : World) (hk : Kept (fun _ => False) w w') => clk_weave hgood (hv.later hk) hl
      have kr := fun (w' : World) (hk : Kept (fun _ => False) w w') => ref_weave w' hgood (hv.later hk) hl
      have hWf := weave_fits (l.filter Itm.counts) (newClk slack step) (newClk_ok hgood) hEf
      have hWl := weave_len2 hgood (l.filter Itm.counts)
      rw [hgood] at kg
      obtain ⟨W, hW⟩ : ∃ W, (newClk slack step).weave (l.filter Itm.counts) = W := ⟨_, rfl⟩
      simp only [hW] at kw kr hWf hWl
      clear hW
      go_upto_region 11 with (first
        | (go_at_call 34; go_must (refine (St.callPast k1 H0).mono ?_; rintro e w1 ⟨rfl, H1⟩))
        | (go_at_call 41; go_must (refine (St.callPast (k2 _ H1.kept) H1).mono ?_; rintro e w2 ⟨rfl, H2⟩))
        | (go_at_call 42; go_must (refine (kw _ H2.kept).mono ?_; rintro e w3 ⟨v3, rfl, H3⟩; have H4 : St (fun _ => False) w w3 [_] := H2.call0 H3))
        | (go_at_call 36; go_must (refine (kg _).mono ?_; rintro e w4 ⟨rfl, rfl⟩))
        | (go_at_call 44; go_must (refine (kr _ H4.kept).mono ?_; rintro e w5 ⟨v5, rfl, H5⟩; have H6 : St (fun _ => False) w w5 [_, _] := H4.call0 H5))
        | (go_at_call 43; go_must (refine (St.callPast (items_same _ (itms_own (H6.row 1 rfl) hWf) (itms_own (H6.row 0 rfl) hWf) (by omega)) H6).mono ?_; rintro e w6 ⟨rfl, H7⟩)))
      have HX := H7.pick []
      go_wp2_with (first
        | (go_at_call 45; go_must (refine (St.callPast (k3 _ HX.kept) HX).mono ?_; rintro e w7 ⟨rfl, H8⟩))
        | (go_at_call 46; go_must (refine (St.callPast (k4 _ H8.kept) H8).mono ?_; rintro e w8 ⟨rfl, H9⟩))
        | (go_at_call 47; go_must (refine (k5 _ H9.kept).mono ?_; rintro e w9 ⟨v9, rfl, H10⟩; have H11 : St (fun _ => False) w w9 [_] := H9.call0 H10))
        | (go_at_call 48; go_must (refine (k6 _ H11.kept).mono ?_; rintro e w10 ⟨v10, rfl, H12⟩; have H13 : St (fun _ => False) w w10 [_, _] := H11.call0 H12))
        | (go_at_call 43; go_must (refine (St.callPast (items_same _ (itms_own (H13.row 1 rfl) hS1) (itms_own (H13.row 0 rfl) hS1) hS2) H13).mono ?_; rintro e w11 ⟨rfl, H14⟩)))
      go_ret
      exact ⟨rfl, H14.below (Nat.le_refl _) (fun _ h => h.elim)⟩
end Go.Proofs.Ytoffcoegghigoaa
