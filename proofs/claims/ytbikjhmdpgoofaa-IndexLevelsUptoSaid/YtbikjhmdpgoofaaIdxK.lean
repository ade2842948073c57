/- How great items and records are; are two lists of items the same? Condition: no number is outgrown. -/
import Derived.Test.YtbikjhmdpgoofaaIdxR
namespace Go.Proofs.Ytbikjhmdpgoofaa
open Go.RowKit

def wt5 (l : List Itm) : Nat := (l.map fun x => 10 + x.key.length).sum
theorem wt5_snoc (l : List Itm) (x : Itm) : wt5 (l ++ [x]) = wt5 l + (10 + x.key.length) := by simp [wt5]
theorem wt5_take (l : List Itm) : ∀ i, wt5 (l.take i) ≤ wt5 l := fun i => by
  have : wt5 l = wt5 (l.take i) + wt5 (l.drop i) := by
    conv => lhs; rw [← List.take_append_drop i l]
    simp only [wt5, List.map_append, List.sum_append]
  omega
def wt14 (r : Rcd) : Nat := 50 + wt5 r.items
def wts (l : List Rcd) : Nat := (l.map wt14).sum
theorem wts_snoc (l : List Rcd) (x : Rcd) : wts (l ++ [x]) = wts l + wt14 x := by simp [wts]
theorem wts_take (l : List Rcd) : ∀ i, wts (l.take i) ≤ wts l := fun i => by
  have : wts l = wts (l.take i) + wts (l.drop i) := by
    conv => lhs; rw [← List.take_append_drop i l]
    simp only [wts, List.map_append, List.sum_append]
  omega

set_option maxHeartbeats 1000000 in
theorem great5 {v : Value} {l : List Itm} (w : World) (hv : ItmsRO w v l) (hs : wt5 l ≤ 4611686018427387904) (hll : l.length ≤ 9223372036854775807) :
    Calls Try.prog 68 #[v] w fun e w' => e = .returned (.int .i64 (wt5 l)) ∧ Below w.heap.size w w' := by
  obtain ⟨ao, cap, rfl, hcap, hfit, hcell⟩ := hv
  have H0 : St (fun _ => False) w w [] := St.nil (fun _ => False) w
  go_enter Try.func68, Try.ntmps68
  go_upto_block 1 with (fail)
  go_loopw [3, 8] (fun n j wr => ∃ (i : Nat), i ≤ l.length ∧ n = .int .i64 (wt5 (l.take i)) ∧ j = .int .i64 i ∧ St (fun _ => False) w wr []) (fun _ j _ => l.length - (intOf j).toNat)
  case atStart => exact ⟨0, by omega, rfl, rfl, H0⟩
  case round =>
    clear H0
    obtain ⟨i, hi, rfl, rfl, HL⟩ := hrel
    by_cases hlt : i < l.length
    · obtain ⟨b, o, rfl, hb, hc⟩ := hcell (by rintro rfl; simp at hlt)
      obtain ⟨x, hx⟩ : ∃ x, l[i]? = some x := ⟨_, List.getElem?_eq_getElem hlt⟩
      have hn : wt5 (l.take (i + 1)) = wt5 (l.take i) + (10 + x.key.length) := by rw [take_snoc' hx, wt5_snoc]
      have hle := wt5_take l (i + 1)
      obtain ⟨q0, q1, q2, q3⟩ := itm_cells (hc i x hx) (HL.kept.block b hb id)
      obtain ⟨T, hT⟩ : ∃ T, wt5 (l.take i) = T := ⟨_, rfl⟩
      rw [hT] at hn
      rw [hn] at hle
      have hnh := Lib.hid hn
      try rw [hT]
      clear hn hx hc hcell hT hfit
      obtain ⟨k, key, t, v⟩ := x
      simp only at q0 q1 q2 q3 hle hnh
      unfold textV at q1
      have hsz : ((key.toArray).size : Int) = key.length := by simp
      have hw1 : IntKind.i64.wrap (10 + (key.length : Int)) = ((10 + key.length : Nat) : Int) := by rw [IntKind.wrap_i64]; omega
      have hw2 : IntKind.i64.wrap ((T : Int) + ((10 + key.length : Nat) : Int)) = ((T + (10 + key.length) : Nat) : Int) := by rw [IntKind.wrap_i64]; omega
      have HA : St (fun _ => False) w _ [_] := HL.allocAt rfl #[.int .i64 k, .string ⟨key.toArray⟩, .int .i64 t, .int .i64 v] 108
      go_upto_region 5 with (fail)
      obtain ⟨wa, hwa⟩ : ∃ wa, wr.alloc (.cells #[.int .i64 k, .string ⟨key.toArray⟩, .int .i64 t, .int .i64 v] 108) = wa := ⟨_, rfl⟩
      obtain ⟨ob, hob⟩ : ∃ ob, wr.heap.size = ob := ⟨_, rfl⟩
      rw [hwa, hob] at HA
      try rw [hwa]
      try simp only [hob]
      clear hwa hob q0 q1 q2 q3 HL
      have d1 := HA.cell 0 1 rfl rfl
      go_wp2
      go_roundw
      case rel =>
        refine ⟨i + 1, by omega, ?_, by go_num, HA.pick []⟩
        rw [hnh.out]
        first | rfl | (go_num; done) | skip
      case measure => simp [intOf]; omega
    · obtain rfl : i = l.length := by omega
      rw [List.take_length]
      go_wp2
      go_ret
      exact ⟨rfl, HL.below (Nat.le_refl _) (fun _ h => h.elim)⟩

set_option maxHeartbeats 1000000 in
theorem great14 {RC : Array Value} {iv : Value} {l : List Itm} (w : World) (h2 : RC[2]? = some iv) (hv : ItmsRO w iv l) (hs : wt5 l ≤ 4611686018427387000) (hll : l.length ≤ 9223372036854775807) :
    Calls Try.prog 56 #[.agg RC] w fun e w' => e = .returned (.int .i64 ((50 + wt5 l : Nat) : Int)) ∧ Below w.heap.size w w' := by
  go_enter Try.func56, Try.ntmps56
  obtain ⟨bx, hbx⟩ : ∃ bx, w.heap.size = bx := ⟨_, rfl⟩
  have H0 : St (fun _ => False) w _ [_] := (St.nil (fun _ => False) w).allocAt hbx RC 82
  have c2 := H0.cell 0 2 rfl h2
  have kg := great5 (w.alloc (.cells RC 82)) (hv.later H0.kept) (by omega) hll
  have hw1 : IntKind.i64.wrap (50 + (wt5 l : Int)) = ((50 + wt5 l : Nat) : Int) := by rw [IntKind.wrap_i64]; omega
  go_wp2_with (go_at_call 68; go_must (refine (St.callPast kg H0).mono ?_; rintro e w3 ⟨rfl, H3⟩))
  go_ret
  exact ⟨by first | rfl | simp, H3.below (by omega) (fun _ h => h.elim)⟩

set_option maxHeartbeats 1000000 in
set_option maxRecDepth 100000 in
theorem items_same {v1 v2 : Value} {l : List Itm} (w : World) (hv1 : ItmsRO w v1 l) (hv2 : ItmsRO w v2 l) (hll : l.length ≤ 9223372036854775807) :
    Calls Try.prog 34 #[v1, v2] w fun e w' => e = .returned (.bool true) ∧ Below w.heap.size w w' := by
  obtain ⟨ao, cap, rfl, hcap, _, hcell⟩ := hv1
  obtain ⟨ap, cbp, rfl, hcbp, _, hcell2⟩ := hv2
  have H0 : St (fun _ => False) w w [] := St.nil (fun _ => False) w
  go_enter Try.func34, Try.ntmps34
  have hz : ((l.length : Int) == (l.length : Int)) = true := by simp
  go_upto_block 1 with (fail)
  go_loopw [13] (fun j wr => ∃ (i : Nat), i ≤ l.length ∧ j = .int .i64 i ∧ St (fun _ => False) w wr []) (fun j _ => l.length - (intOf j).toNat)
  case atStart => exact ⟨0, by omega, rfl, H0⟩
  case round =>
    clear H0
    obtain ⟨i, hi, rfl, HL⟩ := hrel
    by_cases hlt : i < l.length
    · obtain ⟨b, o, rfl, hb, hc⟩ := hcell (by rintro rfl; simp at hlt)
      obtain ⟨b2, o2, rfl, hb2, hc2⟩ := hcell2 (by rintro rfl; simp at hlt)
      obtain ⟨x, hx⟩ : ∃ x, l[i]? = some x := ⟨_, List.getElem?_eq_getElem hlt⟩
      have g1 := hc i x hx
      have g2 := hc2 i x hx
      clear hx hc hcell hc2 hcell2
      obtain ⟨k, key, t, v⟩ := x
      go_upto_region 6 with (fail)
      refine wp_calm (fun w' => St (fun _ => False) w w' []) (by kernel_rfl) (by kernel_rfl) (HL.drew) ?_
      iterate 9 first
        | (apply calm_pass
           · rfl
           intro K hK
           go_simp
           refine hK _ ?_
           clear hK K)
        | (apply calm_step
           · rfl
           · intro w1 h1
             obtain ⟨q0, q1, q2, q3⟩ := itm_cells g1 (h1.kept.block b hb id)
             obtain ⟨p0, p1, p2, p3⟩ := itm_cells g2 (h1.kept.block b2 hb2 id)
             simp only at q0 q1 q2 q3 p0 p1 p2 p3
             unfold textV at q1 p1
             first
               | (go_simp
                  first
                    | rfl
                    | exact ⟨rfl, h1⟩
                 )
           intro K hK
           go_simp
           refine hK _ ?_
           clear hK K)
      refine calm_nil ?_
      intro w9 H9
      go_wp2
      go_roundw
      case rel => exact ⟨i + 1, by omega, by go_num, H9⟩
      case measure => simp [intOf]; omega
    · obtain rfl : i = l.length := by omega
      go_wp2
      go_ret
      exact ⟨rfl, HL.below (Nat.le_refl _) (fun _ h => h.elim)⟩

section
attribute [local go_sem ↓] run_load_rec run_store_rec
set_option maxHeartbeats 2000000 in
set_option maxRecDepth 100000 in
theorem great32 {v : Value} {l : List Rcd} (w : World) (hv : RcsRO w v l) (hs : wts l ≤ 4611686018427387000) (hll : l.length ≤ 9223372036854775807) :
    Calls Try.prog 28 #[v] w fun e w' => e = .returned (.bool (decide (3000 < wts l))) ∧ Below w.heap.size w w' := by
  obtain ⟨ao, cap, rfl, hcap, hgood, hcell⟩ := hv
  have H0 : St (fun _ => False) w w [] := St.nil (fun _ => False) w
  go_enter Try.func28, Try.ntmps28
  go_upto_block 1 with (fail)
  go_loopw [3, 8] (fun n j wr => ∃ (i : Nat), i ≤ l.length ∧ n = .int .i64 (wts (l.take i)) ∧ j = .int .i64 i ∧ St (fun _ => False) w wr []) (fun _ j _ => l.length - (intOf j).toNat)
  case atStart => exact ⟨0, by omega, rfl, rfl, H0⟩
  case round =>
    clear H0
    obtain ⟨i, hi, rfl, rfl, HL⟩ := hrel
    by_cases hlt : i < l.length
    · obtain ⟨b, o, rfl, hb, hc⟩ := hcell (by rintro rfl; simp at hlt)
      obtain ⟨r, hx⟩ : ∃ r, l[i]? = some r := ⟨_, List.getElem?_eq_getElem hlt⟩
      have hg := hgood r (List.mem_of_getElem? hx)
      obtain ⟨q1, q2⟩ : cellsAt wr b (o + i * 36) 36 = r.cells ∧ hasCells wr b (o + i * 36) 36 = true := cellsAt_of_range (fun j v hj => (World.cell?_of_block (w := w) (HL.kept.block b hb id)).trans (hc i r hx j v hj)) hg.1
      have hn : wts (l.take (i + 1)) = wts (l.take i) + (50 + wt5 r.items) := by rw [take_snoc' hx, wts_snoc]; rfl
      have hle := wts_take l (i + 1)
      obtain ⟨T, hT⟩ : ∃ T, wts (l.take i) = T := ⟨_, rfl⟩
      rw [hT] at hn
      rw [hn] at hle
      have hnh := Lib.hid hn
      try rw [hT]
      have hz : r.cells.toArray.size = 36 := by simpa using hg.1
      have ho := hg.2.2.2.2.2.2
      clear hx hc hcell hn hT
      have HA : St (fun _ => False) w _ [_] := HL.allocAt rfl r.cells.toArray 82
      go_upto_region 5 with (fail)
      obtain ⟨wa, hwa⟩ : ∃ wa, wr.alloc (.cells r.cells.toArray 82) = wa := ⟨_, rfl⟩
      obtain ⟨ob, hob⟩ : ∃ ob, wr.heap.size = ob := ⟨_, rfl⟩
      rw [hwa, hob] at HA
      try rw [hwa]
      try simp only [hob]
      clear hwa hob q1 q2 HL
      obtain ⟨q1, q2⟩ := blk_whole (HA.blk 0 rfl) (n := 36) hg.1
      have kg := great14 (RC := r.cells.toArray) wa (by simpa using hg.2.2.1) (hg.2.2.2.1.later HA.kept) (by omega) hg.2.2.2.2.1
      obtain ⟨G, hG⟩ : ∃ G, 50 + wt5 r.items = G := ⟨_, rfl⟩
      rw [hG] at kg hnh hle
      clear hG
      have hw2 : IntKind.i64.wrap ((T : Int) + (G : Int)) = ((T + G : Nat) : Int) := by rw [IntKind.wrap_i64]; omega
      go_wp2_with (go_at_call 56; go_must (refine (St.callPast kg HA).mono ?_; rintro e w3 ⟨rfl, H3⟩))
      go_roundw
      case rel =>
        refine ⟨i + 1, by omega, ?_, by go_num, H3.pick []⟩
        rw [hnh.out]
        first | rfl | (go_num; done) | skip
      case measure => simp [intOf]; omega
    · obtain rfl : i = l.length := by omega
      rw [List.take_length]
      go_wp2
      go_ret
      refine ⟨?_, HL.below (Nat.le_refl _) (fun _ h => h.elim)⟩
      have : decide ((3000 : Int) < (wts l : Int)) = decide (3000 < wts l) := by
        by_cases h : 3000 < wts l
        · rw [decide_eq_true h, decide_eq_true (by omega)]
        · rw [decide_eq_false h, decide_eq_false (by omega)]
      rw [this]
      rfl
end
theorem itms_own {w : World} {v : Value} {n : Nat} {l : List Itm} (h : w.ownsRow 0 108 4 v n (itms l)) (hf : ∀ x ∈ l, x.fits) : ItmsRO w v l := by
  have hn : n = l.length := by
    have := h.1
    have e : (itms l).length = l.length * 4 := by
      clear h this hf
      induction l with
      | nil => rfl
      | cons x l ih => simp only [itms, List.map_cons, List.flatten_cons, List.length_append, List.length_cons] at ih ⊢; rw [ih]; simp; omega
    omega
  subst hn
  rcases own_shape h with ⟨rfl, h0⟩ | ⟨g, cap, rfl, hc, hg⟩
  · obtain rfl : l = [] := List.eq_nil_of_length_eq_zero h0
    exact ⟨none, 0, rfl, Nat.le_refl _, by simp, fun h => absurd rfl h⟩
  · refine ⟨_, cap, rfl, hc, hf, fun _ => ⟨g, 0, rfl, hg, fun i x hi j z hj => ?_⟩⟩
    have hk : ∀ y ∈ l.map fun x => (itmC x).toList, y.length = 4 := by
      intro y hy
      obtain ⟨x, _, rfl⟩ := List.mem_map.1 hy
      rfl
    have hi2 : (l.map fun x => (itmC x).toList)[i]? = some (itmC x).toList := by rw [List.getElem?_map, hi]; rfl
    have hj4 : j < 4 := (List.getElem?_eq_some_iff.1 hj).1
    show w.cell? ⟨g, 0 + i * 4 + j, none⟩ = some z
    rw [Nat.zero_add]
    exact own_cell h ((flat_get hk hi2 hj4).trans hj)
theorem rcs_own {w : World} {v : Value} {n : Nat} {l : List Rcd} (h : w.ownsRow 0 82 36 v n (l.map fun x => x.cells).flatten) (hf : ∀ x ∈ l, x.good w) : RcsRO w v l := by
  have hn : n = l.length := by
    have := h.1
    have e : (l.map fun x => x.cells).flatten.length = l.length * 36 := by
      clear h this
      induction l with
      | nil => rfl
      | cons x l ih =>
        simp only [List.map_cons, List.flatten_cons, List.length_append, List.length_cons]
        rw [ih (fun y hy => hf y (List.mem_cons_of_mem _ hy)), (hf x List.mem_cons_self).1]; omega
    omega
  subst hn
  rcases own_shape h with ⟨rfl, h0⟩ | ⟨g, cap, rfl, hc, hg⟩
  · obtain rfl : l = [] := List.eq_nil_of_length_eq_zero h0
    exact ⟨none, 0, rfl, Nat.le_refl _, by simp, fun h => absurd rfl h⟩
  · refine ⟨_, cap, rfl, hc, hf, fun _ => ⟨g, 0, rfl, hg, fun i x hi j z hj => ?_⟩⟩
    have hk : ∀ y ∈ l.map fun x => x.cells, y.length = 36 := by
      intro y hy
      obtain ⟨x, hx, rfl⟩ := List.mem_map.1 hy
      exact (hf x hx).1
    have hi2 : (l.map fun x => x.cells)[i]? = some x.cells := by rw [List.getElem?_map, hi]; rfl
    have hj4 : j < 36 := by
      rw [← (hf x (List.mem_of_getElem? hi)).1]
      exact (List.getElem?_eq_some_iff.1 hj).1
    show w.cell? ⟨g, 0 + i * 36 + j, none⟩ = some z
    rw [Nat.zero_add]
    exact own_cell h ((flat_get hk hi2 hj4).trans hj)

end Go.Proofs.Ytbikjhmdpgoofaa
