/- clock's Sorted where there are few events (the stable sort's one block). Condition: fewer than 20 events. -/
import Derived.Test.YtoffcoegghigoaaClkG
namespace Go.Proofs.Ytoffcoegghigoaa
open Go.RowKit

set_option maxHeartbeats 4000000 in
set_option maxRecDepth 100000 in
theorem stable_few {g n cap : Nat} {L : List Itm} {R : List Value} {w : World} {S : Nat → Prop} (hn : L.length = n) (hnb : n < 20) (hm : ∀ z ∈ L, z.mild) (H : Sep w [Blk g (itms L ++ R).toArray 85] S) :
    Calls Try.prog 85 #[.slice (some ⟨g, 0, none⟩) n cap, .int .i64 n, cmpV] w fun e w' => e = .returned (.tuple #[]) ∧ St S w w' [Blk g (itms (isr L).reverse ++ R).toArray 85] := by
  have k0 := fun (S' : Nat → Prop) (w' : World) (K : Sep w' [Blk g (itms L ++ R).toArray 85] S') => ins_sort (cap := cap) (a := 0) (b := n) hn (by omega) hm (by omega) (by omega) K
  have e : srt L 0 n = (isr L).reverse := by
    have e1 : L.drop n = [] := List.drop_of_length_le (by omega)
    have e2 : L.take n = L := List.take_of_length_le (by omega)
    unfold srt
    rw [e1, List.append_nil, List.drop_zero, Nat.sub_zero, e2, List.take_zero, List.nil_append]
  simp only [e] at k0
  unfold cmpV at k0 ⊢
  have z1 : ¬ (20 : Int) ≤ (n : Int) := by omega
  have z2 : ¬ (20 : Int) < (n : Int) := by omega
  have k1 := k0 S w H
  clear k0 hm hn e
  go_enter Try.func85, Try.ntmps85
  go_upto_block 1 with (fail)
  go_loopw [7, 8] (fun s7 s8 wr => s7 = .int .i64 0 ∧ s8 = .int .i64 20 ∧ wr = w) (fun _ _ _ => 0)
  case atStart => exact ⟨rfl, rfl, rfl⟩
  case round =>
    obtain ⟨rfl, rfl, rfl⟩ := hrel
    go_upto_block 3 with (go_at_call 93; go_must (refine k1.mono ?_; rintro e w1 ⟨rfl, H1⟩))
    clear k1
    go_loopw [6] (fun s6 wr => s6 = .int .i64 20 ∧ wr = w1) (fun _ _ => 0)
    case atStart => exact ⟨rfl, rfl⟩
    case round =>
      obtain ⟨rfl, rfl⟩ := hrel
      go_wp2
      go_end0
      exact ⟨rfl, H1⟩

set_option maxHeartbeats 1000000 in
set_option maxRecDepth 100000 in
theorem sort_few {v : Value} {L : List Itm} {w : World} {S : Nat → Prop} (hnb : L.length < 20) (hn0 : L ≠ []) (hm : ∀ z ∈ L, z.mild) (H : Sep w [Row 85 4 v L.length (itms L)] S) :
    Calls Try.prog 66 #[v, cmpV] w fun e w' => e = .returned (.tuple #[]) ∧ St S w w' [Row 85 4 v L.length (itms (isr L).reverse)] := by
  obtain ⟨g, cap, R, rfl, hnc, hcm, hxl, hcs, HB⟩ := (St.refl H).row_blk 0 rfl (by intro h; exact hn0 (List.eq_nil_of_length_eq_zero h))
  have HB : St S w w [Blk g (itms L ++ R).toArray 85] := HB
  obtain ⟨S1, K1, G1⟩ := St.call (l1 := [_]) (l2 := []) HB
  have k1 := stable_few (cap := cap) rfl hnb hm K1
  have hend : ∀ w', St S w w' [Blk g (itms (isr L).reverse ++ R).toArray 85] → St S w w' [Row 85 4 (.slice (some ⟨g, 0, none⟩) L.length cap) L.length (itms (isr L).reverse)] := fun w' H' => by
    have hl2 : (itms (isr L).reverse).length = L.length * 4 := by rw [itms_len, List.length_reverse, isr_len]
    exact H'.blk_row 0 (e := 85) (size := 4) (cap := cap) (n := L.length) (xs := itms (isr L).reverse) rfl hnc hcm (by
      rw [List.length_append, hl2, ← hxl, ← List.length_append]; exact hcs) (by
      rw [List.take_append_of_le_length (by omega), List.take_of_length_le (by omega)])
  unfold cmpV at k1 ⊢
  clear H HB
  go_enter Try.func66, Try.ntmps66
  go_wp2_with (go_at_call 85; go_must (refine k1.mono ?_; rintro e w1 ⟨rfl, H1⟩; have H2 := G1 _ _ H1))
  go_end0
  exact ⟨rfl, hend _ H2⟩

set_option maxHeartbeats 1000000 in
set_option maxRecDepth 100000 in
theorem clk_sorted_few {v : Value} {l : List Itm} {w : World} (hv : ItmsRO w v l) (hl : l.length ≤ 3518437208880) (hnb : (l.filter Itm.counts).length < 20) (hn0 : l.filter Itm.counts ≠ []) :
    Calls Try.prog 47 #[v] w fun e w' => ∃ v', e = .returned v' ∧ St (fun _ => False) w w' [Row 85 4 v' (l.filter Itm.counts).length (itms (isr (l.filter Itm.counts)).reverse)] := by
  have ke := clk_events hv hl
  have hm : ∀ z ∈ l.filter Itm.counts, z.mild := fun z hz => by
    obtain ⟨_, h1, h2⟩ := counts_time (List.mem_filter.1 hz).2
    exact ⟨by omega, h2⟩
  have ks := fun (S' : Nat → Prop) (w' : World) (v' : Value) (K : Sep w' [Row 85 4 v' (l.filter Itm.counts).length (itms (l.filter Itm.counts))] S') => sort_few hnb hn0 hm K
  unfold cmpV at ks
  go_enter Try.func47, Try.ntmps47
  go_wp2_with (first
    | (go_at_call 64; go_must (refine ke.mono ?_; rintro e w2 ⟨ve, rfl, H4⟩; obtain ⟨ea, ec, rfl, hec, hea⟩ := slice_form' (H4.row 0 rfl); obtain ⟨S1, K1, G1⟩ := St.call (l1 := [_]) (l2 := []) H4))
    | (go_at_call 66; go_must (refine (ks _ _ _ K1).mono ?_; rintro e w3 ⟨rfl, H5⟩; have H6 := G1 _ _ H5)))
  go_ret
  exact ⟨_, rfl, H6⟩
end Go.Proofs.Ytoffcoegghigoaa
