/- The walks of the store: what is settled, Sync, Crash, Waits. Conditions: the store's blocks lie as its maker lays them. -/
import Derived.Test.YtbikjhmdpgoofabStoreB
namespace Go.Proofs.Ytbikjhmdpgoofab
open Go.RowKit
attribute [local go_sem ↓] run_load128 run_load129 run_store128 run_store129
attribute [local go_sem] size_zero128 size_zero129

theorem settleFrom_snoc (lasts : Nat → Nat) : ∀ (l : List (Int × List UInt8)) (i : Nat) (x : Int × List UInt8) (b : List (List UInt8)),
    settleFrom lasts i (l ++ [x]) b = (settleFrom lasts i l b).set x.1.toNat (x.2.take (lasts (i + l.length)) ++ ((settleFrom lasts i l b).getD x.1.toNat []).drop (lasts (i + l.length)))
  | [], i, x, b => by simp [settleFrom]
  | y :: l, i, x, b => by
    simp only [List.cons_append, settleFrom]
    rw [settleFrom_snoc lasts l (i + 1) x _]
    simp only [List.length_cons]
    rw [show i + 1 + l.length = i + (l.length + 1) from by omega]
theorem settleFrom_good (lasts : Nat → Nat) (n : Nat) : ∀ (l : List (Int × List UInt8)) (i : Nat) (b : List (List UInt8)), (∀ x ∈ l, 0 ≤ x.1 ∧ x.1 < (n : Int) ∧ x.2.length = 128) → b.length = n → (∀ x ∈ b, x.length = 128) → (∀ j, lasts j ≤ 128) →
    (settleFrom lasts i l b).length = n ∧ ∀ x ∈ settleFrom lasts i l b, x.length = 128
  | [], i, b, _, hb, hf, _ => ⟨hb, hf⟩
  | y :: l, i, b, h, hb, hf, hl => by
    refine settleFrom_good lasts n l (i + 1) _ (fun x hx => h x (by simp [hx])) (by simp [hb]) (fun x hx => ?_) hl
    rcases List.mem_or_eq_of_mem_set hx with hx | rfl
    · exact hf x hx
    · have hy := h y (by simp)
      have hlt : y.1.toNat < b.length := by omega
      have := hf _ (List.getElem_mem hlt)
      simp only [List.getD, List.getElem?_eq_getElem hlt, Option.getD_some, List.length_append, List.length_take, List.length_drop, hy.2.2, this]
      have := hl i
      omega

theorem lastCells_len {l : List (List UInt8)} (h : ∀ x ∈ l, x.length = 128) : (lastCells l).length = l.length * 128 := by
  unfold lastCells
  rw [flat_len (last_full h)]; simp

set_option maxHeartbeats 2000000 in
set_option maxRecDepth 100000 in
theorem store_settle {b : Nat} {m : StM} {fid : Nat} {caps : Array Value} {lasts : Nat → Nat} {w : World} {S : Nat → Prop} (hg : m.Good) (hl : ∀ i, lasts i ≤ 128)
    (hcf : ∀ (v : Value) w', (callFunc fid (#[v] ++ caps)).run Try.prog w' = .ok (.enter fid (#[v] ++ caps)) w')
    (hf : ∀ (i : Nat), i < m.waits.length → ∀ w', Kept S w w' → Calls Try.prog fid (#[.int .i64 i] ++ caps) w' fun e w'' => e = .returned (.int .i64 (lasts i)) ∧ w'' = w') (H : Sep w [StoreAt b m] S) :
    Calls Try.prog 76 #[.pointer (some ⟨b, 0, none⟩), .func (.func fid) #[] caps] w fun e w' => e = .returned (.tuple #[]) ∧ St S w w' [StoreAt b (m.settle lasts)] := by
  obtain ⟨bl, br, vw, H⟩ := StoreAt.out H
  have H := St.refl H
  have hrow := H.row 3 rfl
  have hwl := hg.room
  have hcnt := hg.count
  obtain ⟨ao, cap, hvw, hao⟩ : ∃ ao cap, vw = .slice ao m.waits.length cap ∧ (m.waits.length ≠ 0 → ∃ g, ao = some ⟨g, 0, none⟩) := by
    rcases own_shape hrow with ⟨h, h'⟩ | ⟨g, cap, h, _⟩
    · exact ⟨none, 0, by rw [h, h'], fun hn => absurd h' hn⟩
    · exact ⟨_, cap, h, fun _ => ⟨g, rfl⟩⟩
  clear hrow
  subst hvw
  have hb := H.blk_lt 0 rfl
  have c1 := H.cell 0 1 rfl rfl
  have f1 := H.free 0 1 rfl
  by_cases hw0 : m.waits.length = 0
  · have hw0' : m.waits = [] := List.eq_nil_of_length_eq_zero hw0
    have hm : m.settle lasts = { m with waits := [] } := by simp [StM.settle, hw0', settleFrom]
    rw [hm]
    have hw1 := Lib.hid hw0
    clear hw0 hm
    go_enter Try.func76, Try.ntmps76
    go_wp2
    refine wp_loop_rounds 1 ?_
    rw [rounds_succ]
    have hw2 := hw1.out
    go_wp2
    go_end0
    have H2 : St S w _ [_, _, _, _] := H.set 0 rfl 1 (.slice none 0 0)
    refine ⟨rfl, StoreAt.mk (bl := bl) (br := br) (vw := .slice none 0 0) ?_⟩
    have H3 := (H2.pick [0, 1, 2]).row_nil 100 129
    exact H3.pick [1, 2, 3, 0]
  · obtain ⟨gw, rfl⟩ := hao hw0
    go_enter Try.func76, Try.ntmps76
    go_wp2
    go_loopw [4, 5, 11] (fun _ _ j wr => ∃ k : Nat, k ≤ m.waits.length ∧ j = .int .i64 k ∧ St S w wr [
      StoreB b (.slice (some ⟨bl, 0, none⟩) m.last.length m.last.length) (.slice (some ⟨gw, 0, none⟩) m.waits.length cap) (.slice (some ⟨br, 0, none⟩) m.last.length m.last.length) m.calls,
      Blk bl (lastCells (settleFrom lasts 0 (m.waits.take k) m.last)).toArray 98, Blk br (intCells m.reads).toArray 3, Row 100 129 (.slice (some ⟨gw, 0, none⟩) m.waits.length cap) m.waits.length (waitCells m.waits)])
      (fun _ _ j _ => m.waits.length - (intOf j).toNat)
    case atStart => exact ⟨0, by omega, rfl, H⟩
    case round =>
      clear c1 f1 hb
      obtain ⟨k, hk, rfl, HL⟩ := hrel
      obtain ⟨sg1, sg2⟩ := settleFrom_good lasts m.last.length (m.waits.take k) 0 m.last (fun y hy => hg.waits y (List.mem_of_mem_take hy)) rfl hg.full hl
      by_cases hlt : k < m.waits.length
      · obtain ⟨y, hy⟩ : ∃ y, m.waits[k]? = some y := ⟨_, List.getElem?_eq_getElem hlt⟩
        have hyl := hg.waits y (List.mem_of_getElem? hy)
        obtain ⟨q1, q2⟩ := own_at (ls := m.waits.map waitCell) (HL.row 3 rfl) (wait_full hg.waits) (i := k) (x := waitCell y) (by simp [hy])
        have HA : St S w _ [_, _, _, _, _] := HL.alloc (waitCell y).toArray 100
        have hys : (waitCell y).length = 129 := by simp [waitCell, length_bvs, hyl.2.2]
        have ha1 := all_wait y
        have hsn := settleFrom_snoc lasts (m.waits.take k) 0 y m.last
        rw [← take_snoc' hy, List.length_take, Nat.min_eq_left (by omega), Nat.zero_add] at hsn
        obtain ⟨y1, y2⟩ := y
        obtain ⟨a, rfl⟩ := Int.eq_ofNat_of_zero_le hyl.1
        have ha : a < m.last.length := by have := hyl.2.1; omega
        have hy2 : y2.length = 128 := hyl.2.2
        generalize settleFrom lasts 0 (m.waits.take k) m.last = lst at *
        have hsn2 := Lib.hid hsn
        have hc6 := HA.cell 0 0 rfl (v := .int .i64 a) (by simp [waitCell])
        have c0 := HL.cell 0 0 rfl rfl
        have hb := HL.blk_lt 0 rfl
        have hlk := hl k
        have hlk' : (lasts k : Int) ≤ 128 := by omega
        have hcall := hf k hlt _ HA.drew.kept
        clear hsn hyl
        go_wp2
        refine wp_tail 13 (by kernel_rfl) (by kernel_rfl) ?_
        simp only [List.take_succ_cons, List.take_zero, List.drop_succ_cons, List.drop_zero]
        still_step
        still_step
        still_step
        still_step
        still_step
        still_step
        still_step
        still_step
        still_step
        still_step
        still_step
        still_call hcall
        still_step
        refine wpStill_nil ?_
        have hn : (bvs (y2.take (lasts k))).length = Nat.min (lasts k) 128 := by rw [length_bvs, List.length_take, hy2]
        have hll := lastCells_len sg2
        have hsrc : ∀ j v, (bvs (y2.take (lasts k)))[j]? = some v → (wr.alloc (.cells (waitCell (↑a, y2)).toArray 100)).drew.cell? ((⟨wr.heap.size, 1, none⟩ : Addr).add j) = some v := by
          intro j v hj
          rw [Addr.add_mid, bvs_take, List.getElem?_take] at *
          split at hj
          · rw [World.cell?_drew, cell_blk (heap_alloc_new _ _), List.getElem?_toArray]
            simpa [waitCell, Nat.add_comm 1 j] using hj
          · cases hj
        refine St.list_copy HA.drew 2 rfl rfl (.tmp 23) (.tmp 28) 29 29 rfl 5 Try.underlying29 (by kernel_rfl) (a * 128) 128 128 (lasts k) 128 (some ⟨wr.heap.size, 1, none⟩) rfl rfl (bvs (y2.take (lasts k))) hn (fun _ => ⟨_, rfl, hsrc⟩) (by rw [hll, hn, sg1]; have := Nat.min_le_right (lasts k) 128; have e : Nat.min (lasts k) 128 = min (lasts k) 128 := rfl; omega) one_bvs ?_
        intro w6 H6 hz6
        have hfl := flat_splice (last_full sg2) (i := a) (x := bvs (lst.getD a [])) (by simp [List.getD, sg1, ha]) (bvs (y2.take (lasts k))) (by rw [hn]; exact Nat.min_le_right _ _)
        have e7 : splice (lastCells lst) (a * 128) (bvs (y2.take (lasts k))) = lastCells (settleFrom lasts 0 (m.waits.take (k + 1)) m.last) := by
          rw [hsn2.out]
          refine hfl.trans ?_
          rw [hn]
          unfold lastCells
          simp only [Int.toNat_natCast]
          congr 1
          rw [List.map_set, bvs_append, bvs_drop]
          congr 2
          rw [show Nat.min (lasts k) 128 = lasts k from Nat.min_eq_left hlk]
        rw [e7] at H6
        have H7 : St S w w6 [_, _, _, _] := H6.tail
        clear H6 hfl e7 hsrc hn
        go_wp2
        go_roundw
        case rel => exact ⟨k + 1, by omega, by go_num, H7⟩
        case measure => simp [intOf]; omega
      · obtain rfl : k = m.waits.length := by omega
        rw [List.take_length] at HL
        have c2 := HL.cell 0 1 rfl rfl
        have f2 := HL.free 0 1 rfl
        go_wp2
        go_end0
        have H2 : St S w _ [_, _, _, _] := HL.set 0 rfl 1 (.slice none 0 0)
        refine ⟨rfl, StoreAt.mk (bl := bl) (br := br) (vw := .slice none 0 0) ?_⟩
        have H3 := ((H2.pick [0, 1, 2]).row_nil 100 129).pick [1, 2, 3, 0]
        rw [List.take_length] at sg1
        simp only [storeParts, StM.settle, sg1]
        exact H3

end Go.Proofs.Ytbikjhmdpgoofab
