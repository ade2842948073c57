/- The walk of the store: Load. Conditions: the store's blocks lie as its maker lays them; what is handed in can be read. -/
import Derived.Test.YtbikjhmdpgoofabStoreI
import Derived.Test.YtbikjhmdpgoofabPenA
namespace Go.Proofs.Ytbikjhmdpgoofab
open Go.RowKit

theorem BytesRO.free {S : Nat → Prop} {w : World} {v : Value} {l : List UInt8} (h : BytesRO S w v l) : BytesRO (fun _ => False) w v l := by
  obtain ⟨ad, cap, h1, h2, h3⟩ := h
  refine ⟨ad, cap, h1, h2, fun hl => ?_⟩
  obtain ⟨b, o, g1, g2, _, g4⟩ := h3 hl
  exact ⟨b, o, g1, g2, id, g4⟩
section
attribute [local go_sem ↓] run_load128 run_storeM128
attribute [local go_sem] size_zero128 size_zero129
set_option maxHeartbeats 4000000 in
set_option maxRecDepth 100000 in
theorem store_load {b : Nat} {m : StM} {v : Value} {bs : List UInt8} {w : World} {S : Nat → Prop} (hg : m.Good) (hbl : bs.length ≤ 9223372036854775807) (hv : BytesRO S w v bs) (H : Sep w [StoreAt b m] S) :
    Calls Try.prog 55 #[.pointer (some ⟨b, 0, none⟩), v] w fun e w' => e = .returned (.bool (m.load bs).1) ∧ St S w w' [StoreAt b (m.load bs).2] := by
  have hcnt := hg.count
  obtain ⟨ad, cap, rfl, hcap, _⟩ := id hv
  obtain ⟨bl, br, vw, H0⟩ := StoreAt.out H
  have H3 : St S w w [StoreB b (.slice (some ⟨bl, 0, none⟩) m.last.length m.last.length) vw (.slice (some ⟨br, 0, none⟩) m.last.length m.last.length) m.calls, Blk bl (lastCells m.last).toArray 98, Blk br (intCells m.reads).toArray 3, Row 100 129 vw m.waits.length (waitCells m.waits)] := St.refl H0
  have c0 := H3.cell 0 0 rfl rfl
  have hwr : IntKind.i64.wrap (128 * (m.last.length : Int)) = 128 * (m.last.length : Int) := by rw [IntKind.wrap_i64]; omega
  by_cases hc : bs.length = 128 * m.last.length
  · have hfin : m.load bs = (true, { m with last := chunks m.last.length bs, waits := [] }) := by unfold StM.load; rw [if_pos hc]
    rw [hfin]
    have y1 : ((bs.length : Int) != 128 * (m.last.length : Int)) = false := by simp; omega
    have kcl := bytes_clone hv.free (by omega)
    have hcge : 128 * m.last.length ≤ bs.length := by omega
    have hcle : bs.length ≤ 600000 := by omega
    clear hfin H0 hc
    go_enter Try.func55, Try.ntmps55
    go_upto_region 4 with (go_at_call 71; go_must (refine kcl.mono ?_; rintro e w1 ⟨v1, rfl, K1⟩))
    have H4 : St S w w1 [Row 5 1 v1 bs.length (bvs bs), StoreB b (.slice (some ⟨bl, 0, none⟩) m.last.length m.last.length) vw (.slice (some ⟨br, 0, none⟩) m.last.length m.last.length) m.calls, Blk bl (lastCells m.last).toArray 98, Blk br (intCells m.reads).toArray 3, Row 100 129 vw m.waits.length (waitCells m.waits)] := H3.call0 K1
    clear c0 kcl K1 H3
    obtain ⟨_, cb, rfl, hcb, hgb⟩ := slice_form' (H4.row 0 rfl)
    obtain ⟨gb, rfl⟩ := hgb (by omega)
    have c0 := H4.cell 1 0 rfl rfl
    go_upto_block 1 with (fail)
    clear c0
    go_loopw [5, 26] (fun _ j wr => ∃ (k : Nat) (L : List (List UInt8)), k ≤ m.last.length ∧ j = .int .i64 k ∧ L.length = m.last.length ∧ (∀ x ∈ L, x.length = 128) ∧ (∀ i, i < k → L[i]? = some ((bs.drop (128 * i)).take 128)) ∧
      St S w wr [Row 5 1 (.slice (some ⟨gb, 0, none⟩) bs.length cb) bs.length (bvs bs), StoreB b (.slice (some ⟨bl, 0, none⟩) m.last.length m.last.length) vw (.slice (some ⟨br, 0, none⟩) m.last.length m.last.length) m.calls, Blk bl (lastCells L).toArray 98, Blk br (intCells m.reads).toArray 3, Row 100 129 vw m.waits.length (waitCells m.waits)]) (fun _ j _ => m.last.length - (intOf j).toNat)
    case atStart => exact ⟨0, m.last, by omega, rfl, rfl, hg.full, fun i hi => by omega, H4⟩
    case round =>
      clear H4
      obtain ⟨k, L, hk, rfl, hLl, hLf, hLk, HL⟩ := hrel
      by_cases hlt : k < m.last.length
      · have s0 := HL.cell 1 0 rfl rfl
        have hk1 : IntKind.i64.wrap (128 * (k : Int)) = 128 * (k : Int) := by rw [IntKind.wrap_i64]; omega
        have hk3 : (128 * (k : Int)).toNat = 128 * k := by omega
        have hkl : 128 * k + 128 ≤ bs.length := by omega
        have hki : 128 * (k : Int) ≤ (bs.length : Int) := by omega
        have hk0 : 0 ≤ 128 * (k : Int) := by omega
        have hcbk : ¬ cb = 128 * k := by omega
        obtain ⟨X, hX⟩ : ∃ X, (bs.drop (128 * k)).take 128 = X := ⟨_, rfl⟩
        have hXl : X.length = 128 := by rw [← hX, List.length_take, List.length_drop]; omega
        have hXb : (bvs X).length = 128 := by rw [length_bvs, hXl]
        have hrX : wr.rangeAt gb (128 * k) (bvs X) := fun j u hj => by
          have hjl : j < 128 := by rw [← hXb]; exact (List.getElem?_eq_some_iff.1 hj).1
          refine HL.rowCell 0 (128 * k + j) rfl ?_
          rw [← hj, ← hX, bvs, bvs, List.getElem?_map, List.getElem?_map, List.getElem?_take_of_lt hjl, List.getElem?_drop]
        have r32 := fun (w' : World) => run_arrayAt (P := Try.prog) w' 98 _ 128 (some ⟨gb, 128 * k, none⟩) (bs.length - 128 * k) (cb - 128 * k) Try.underlying98 (by omega)
        obtain ⟨r33, r34⟩ := cellsAt_of_range hrX hXb
        have hall := all_bvs X
        have hsz : (bvs X).toArray.size = 128 := by simp [hXb]
        have hm0 : mayCells wr bl (k * 128) 128 = true := mayCells_blk (HL.blk 2 rfl) (by
          have : (k + 1) * 128 ≤ L.length * 128 := Nat.mul_le_mul_right _ (by omega)
          rw [Nat.succ_mul] at this
          simpa [lastCells, flat_len (last_full hLf)] using this)
        have H6 : St S w _ [_, _, _, _, _] := HL.drew.lastSet 2 rfl hLf k (by omega) X hXl
        have hLk2 := Lib.hid (show ∀ i, i < k + 1 → (L.set k X)[i]? = some ((bs.drop (128 * i)).take 128) from fun i hi => by
          rw [List.getElem?_set]
          by_cases e : k = i
          · subst e
            rw [if_pos rfl, if_pos (by omega), hX]
          · rw [if_neg e]
            exact hLk i (by omega))
        have hLf2 := Lib.hid (show ∀ x ∈ L.set k X, x.length = 128 from fun x hx => by
          rcases List.mem_or_eq_of_mem_set hx with hx | rfl
          · exact hLf x hx
          · exact hXl)
        clear hLk hrX hX hLf
        go_upto_region 7 with (fail)
        go_region
        go_wp2
        go_roundw
        case rel => exact ⟨k + 1, L.set k X, by omega, by go_num, by simpa using hLl, hLf2.out, hLk2.out, H6⟩
        case measure => simp [intOf]; omega
      · obtain rfl : k = m.last.length := by omega
        have hLc : L = chunks m.last.length bs := by
          refine List.ext_getElem? fun i => ?_
          by_cases hi : i < m.last.length
          · rw [hLk i hi, chunks_get bs hi]
          · rw [List.getElem?_eq_none (by omega), List.getElem?_eq_none (by rw [chunks_len]; omega)]
        have hLh := Lib.hid hLc
        clear hLc hLk hLf
        have s1 := HL.cell 1 1 rfl rfl
        have f1 := HL.free 1 1 rfl
        have H6 : St S w _ [_, _, _, _, _] := HL.set 1 rfl 1 (.slice none 0 0)
        go_wp2
        go_ret
        refine ⟨rfl, StoreAt.mk (l := []) (m := { m with last := chunks m.last.length bs, waits := [] }) (bl := bl) (br := br) (vw := .slice none 0 0) ?_⟩
        have H7 := ((H6.pick [1, 2, 3]).row_nil 100 129).pick [1, 2, 3, 0]
        unfold storeParts
        simp only [chunks_len]
        rw [← hLh.out]
        exact H7
  · have hfin : m.load bs = (false, m) := by unfold StM.load; rw [if_neg hc]
    rw [hfin]
    have y1 : ((bs.length : Int) != 128 * (m.last.length : Int)) = true := by simp; omega
    clear hfin hc
    go_enter Try.func55, Try.ntmps55
    go_wp2
    go_ret
    exact ⟨rfl, St.refl H⟩
end

end Go.Proofs.Ytbikjhmdpgoofab
