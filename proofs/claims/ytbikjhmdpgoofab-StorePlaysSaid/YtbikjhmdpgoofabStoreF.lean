/- The walks of the store: Image; bytes as a text. Conditions: the store's blocks lie as its maker lays them. -/
import Derived.Test.YtbikjhmdpgoofabStoreE
namespace Go.Proofs.Ytbikjhmdpgoofab
open Go.RowKit
attribute [local go_sem ↓] run_load128 run_load129 run_store128 run_store129
attribute [local go_sem] size_zero128 size_zero129


set_option maxHeartbeats 2000000 in
set_option maxRecDepth 100000 in
theorem store_image {b : Nat} {m : StM} {w : World} {S : Nat → Prop} (hg : m.Good) (H : Sep w [StoreAt b m] S) :
    Calls Try.prog 51 #[.pointer (some ⟨b, 0, none⟩)] w fun e w' => ∃ v, e = .returned v ∧ St S w w' [Row 5 1 v (m.last.length * 128) (bvs m.last.flatten), StoreAt b m] := by
  obtain ⟨bl, br, vw, H⟩ := StoreAt.out H
  have H := St.refl H
  have hcnt := hg.count
  have hb := H.blk_lt 0 rfl
  have c1 := H.cell 0 0 rfl rfl
  go_enter Try.func51, Try.ntmps51
  go_wp2
  go_loopw [3, 4, 12] (fun v _ j wr => ∃ k : Nat, k ≤ m.last.length ∧ j = .int .i64 k ∧ St S w wr [Row 5 1 v (k * 128) (bvs (m.last.take k).flatten),
      StoreB b (.slice (some ⟨bl, 0, none⟩) m.last.length m.last.length) vw (.slice (some ⟨br, 0, none⟩) m.last.length m.last.length) m.calls,
      Blk bl (lastCells m.last).toArray 98, Blk br (intCells m.reads).toArray 3, Row 100 129 vw m.waits.length (waitCells m.waits)])
      (fun _ _ j _ => m.last.length - (intOf j).toNat)
  case atStart => exact ⟨0, by omega, rfl, H.row_nil 5 1⟩
  case round =>
    clear c1 hb
    obtain ⟨k, hk, rfl, HL⟩ := hrel
    by_cases hlt : k < m.last.length
    · obtain ⟨x, hx⟩ : ∃ x, m.last[k]? = some x := ⟨_, List.getElem?_eq_getElem hlt⟩
      have hxl := hg.full x (List.mem_of_getElem? hx)
      have hsn := Lib.hid (take_snoc' hx)
      have c0 := HL.cell 1 0 rfl rfl
      have hcs : ∀ j u, (bvs x)[j]? = some u → wr.cell? ((⟨bl, k * 128, none⟩ : Addr).add j) = some u := by
        intro j u hj
        have hjl : j < 128 := by have := (List.getElem?_eq_some_iff.1 hj).1; rw [length_bvs, hxl] at this; exact this
        rw [Addr.add_mid, cell_blk (HL.blk 2 rfl), List.getElem?_toArray]
        exact (flat_get (last_full hg.full) (i := k) (x := bvs x) (by simp [hx]) hjl).trans hj
      have hlen : (bvs x).length = 128 * 1 := by rw [length_bvs, hxl]
      have hbytes : (k * 128 + 128) * 1 ≤ 140737488355328 := by omega
      go_wp2_with (at_builtin; go_must (refine St.list_app HL 0 rfl rfl (.tmp 15) (.tmp 22) 29 rfl Try.underlying29 Try.info5 (by decide) rfl (ad := ⟨bl, k * 128, none⟩) (m := 128) (bvs x) rfl hlen hcs one_bvs (by omega) hbytes ?_; intro g2 cap2 w3 H3 hz3))
      go_roundw
      case rel => exact ⟨k + 1, by omega, by go_num, by rw [hsn.out, List.flatten_append, Nat.add_mul]; simpa [bvs_append] using H3⟩
      case measure => simp [intOf]; omega
    · obtain rfl : k = m.last.length := by omega
      rw [List.take_length] at HL
      go_wp2
      go_ret
      have H2 : St S w _ (StoreAt b m :: [_]) := StoreAt.mk (bl := bl) (br := br) (vw := vw) (HL.pick [1, 2, 3, 4, 0])
      exact ⟨_, rfl, H2.pick [1, 0]⟩

end Go.Proofs.Ytbikjhmdpgoofab
