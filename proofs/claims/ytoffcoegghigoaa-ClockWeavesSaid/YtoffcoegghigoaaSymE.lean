/- clock's Sorted in general. Condition: at most 10^9 items. -/
import Derived.Test.YtoffcoegghigoaaSymD
namespace Go.Proofs.Ytoffcoegghigoaa
open Go.RowKit

set_option maxHeartbeats 4000000 in
set_option maxRecDepth 100000 in
theorem ins_nil {ao : Option Addr} {cap : Nat} {w0 w : World} {S : Nat → Prop} {l : List SP} (H : St S w0 w l) :
    Calls Try.prog 93 #[.slice ao 0 cap, .int .i64 0, .int .i64 0, cmpV] w fun e w' => e = .returned (.tuple #[]) ∧ St S w0 w' l := by
  unfold cmpV
  go_enter Try.func93, Try.ntmps93
  go_upto_block 1 with (fail)
  go_loopw [8] (fun s8 wr => s8 = .int .i64 1 ∧ St S w0 wr l) (fun _ _ => 0)
  case atStart => exact ⟨by go_num, H⟩
  case round =>
    obtain ⟨rfl, HL⟩ := hrel
    go_wp2
    go_end0
    exact ⟨rfl, HL⟩
set_option maxHeartbeats 4000000 in
set_option maxRecDepth 100000 in
theorem stable_nil {ao : Option Addr} {cap : Nat} {w0 w : World} {S : Nat → Prop} {l : List SP} (H : St S w0 w l) :
    Calls Try.prog 85 #[.slice ao 0 cap, .int .i64 0, cmpV] w fun e w' => e = .returned (.tuple #[]) ∧ St S w0 w' l := by
  have k1 := ins_nil (ao := ao) (cap := cap) H
  unfold cmpV at k1 ⊢
  go_enter Try.func85, Try.ntmps85
  go_upto_block 1 with (fail)
  go_loopw [7, 8] (fun s7 s8 wr => s7 = .int .i64 0 ∧ s8 = .int .i64 20 ∧ wr = w) (fun _ _ _ => 0)
  case atStart => exact ⟨rfl, rfl, rfl⟩
  case round =>
    obtain ⟨rfl, rfl, rfl⟩ := hrel
    go_upto_block 3 with (go_at_call 93; go_must (refine k1.mono ?_; rintro e w1 ⟨rfl, H1⟩))
    clear k1
    go_loopw [6] (fun s6 wr => s6 = .int .i64 20 ∧ wr = w1) (fun _ _ => 0)
    case atStart => exact ⟨rfl, rfl⟩
    case round =>
      obtain ⟨rfl, rfl⟩ := hrel
      go_wp2
      go_end0
      exact ⟨rfl, H1⟩

set_option maxHeartbeats 1000000 in
set_option maxRecDepth 100000 in
theorem sort_all {v : Value} {L : List Itm} {w : World} {S : Nat → Prop} (hnb : L.length ≤ 3518437208880) (hm : ∀ z ∈ L, z.mild) (H : Sep w [Row 85 4 v L.length (itms L)] S) :
    Calls Try.prog 66 #[v, cmpV] w fun e w' => e = .returned (.tuple #[]) ∧ St S w w' [Row 85 4 v L.length (itms (isr L).reverse)] := by
  by_cases hn0 : L = []
  · subst hn0
    obtain ⟨ao, cap, rfl, _, _⟩ := slice_form' ((St.refl H).row 0 rfl)
    have k1 := stable_nil (ao := ao) (cap := cap) (St.refl H)
    unfold cmpV at k1 ⊢
    go_enter Try.func66, Try.ntmps66
    go_wp2_with (go_at_call 85; go_must (refine k1.mono ?_; rintro e w1 ⟨rfl, H1⟩))
    go_end0
    exact ⟨rfl, H1⟩
  · obtain ⟨g, cap, R, rfl, hnc, hcm, hxl, hcs, HB⟩ := (St.refl H).row_blk 0 rfl (by intro h; exact hn0 (List.eq_nil_of_length_eq_zero h))
    have HB : St S w w [Blk g (itms L ++ R).toArray 85] := HB
    obtain ⟨S1, K1, G1⟩ := St.call (l1 := [_]) (l2 := []) HB
    have k1 := stable_all (cap := cap) rfl hnb hm K1
    have hend : ∀ w', St S w w' [Blk g (itms (isr L).reverse ++ R).toArray 85] → St S w w' [Row 85 4 (.slice (some ⟨g, 0, none⟩) L.length cap) L.length (itms (isr L).reverse)] := fun w' H' => by
      have hl2 : (itms (isr L).reverse).length = L.length * 4 := by rw [itms_len, List.length_reverse, isr_len]
      exact H'.blk_row 0 (e := 85) (size := 4) (cap := cap) (n := L.length) (xs := itms (isr L).reverse) rfl hnc hcm (by
        rw [List.length_append, hl2, ← hxl, ← List.length_append]; exact hcs) (by
        rw [List.take_append_of_le_length (by omega), List.take_of_length_le (by omega)])
    unfold cmpV at k1 ⊢
    clear H HB
    go_enter Try.func66, Try.ntmps66
    go_wp2_with (go_at_call 85; go_must (refine k1.mono ?_; rintro e w1 ⟨rfl, H1⟩; have H2 := G1 _ _ H1))
    go_end0
    exact ⟨rfl, hend _ H2⟩

set_option maxHeartbeats 1000000 in
set_option maxRecDepth 100000 in
theorem clk_sorted {v : Value} {l : List Itm} {w : World} (hv : ItmsRO w v l) (hl : l.length ≤ 3518437208880) :
    Calls Try.prog 47 #[v] w fun e w' => ∃ v', e = .returned v' ∧ St (fun _ => False) w w' [Row 85 4 v' (l.filter Itm.counts).length (itms (isr (l.filter Itm.counts)).reverse)] := by
  have ke := clk_events hv hl
  have hm : ∀ z ∈ l.filter Itm.counts, z.mild := fun z hz => by
    obtain ⟨_, h1, h2⟩ := counts_time (List.mem_filter.1 hz).2
    exact ⟨by omega, h2⟩
  have hfl : (l.filter Itm.counts).length ≤ 3518437208880 := by
    have := List.length_filter_le Itm.counts l
    omega
  have ks := fun (S' : Nat → Prop) (w' : World) (v' : Value) (K : Sep w' [Row 85 4 v' (l.filter Itm.counts).length (itms (l.filter Itm.counts))] S') => sort_all hfl hm K
  unfold cmpV at ks
  go_enter Try.func47, Try.ntmps47
  go_wp2_with (first
    | (go_at_call 64; go_must (refine ke.mono ?_; rintro e w2 ⟨ve, rfl, H4⟩; obtain ⟨ea, ec, rfl, hec, hea⟩ := slice_form' (H4.row 0 rfl); obtain ⟨S1, K1, G1⟩ := St.call (l1 := [_]) (l2 := []) H4))
    | (go_at_call 66; go_must (refine (ks _ _ _ K1).mono ?_; rintro e w3 ⟨rfl, H5⟩; have H6 := G1 _ _ H5)))
  go_ret
  exact ⟨_, rfl, H6⟩
end Go.Proofs.Ytoffcoegghigoaa
