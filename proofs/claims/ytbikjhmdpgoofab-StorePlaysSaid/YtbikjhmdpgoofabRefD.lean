/- The walks of the reference's store: Image, Lay, Load, Reads. Conditions: its blocks lie as its maker lays them. -/
import Derived.Test.YtbikjhmdpgoofabRefC
import Derived.Test.YtbikjhmdpgoofabBlkRow
namespace Go.Proofs.Ytbikjhmdpgoofab
open Go.RowKit

theorem text_join (x y : List UInt8) : textV (x ++ y) = .string ((⟨x.toArray⟩ : ByteArray) ++ (⟨y.toArray⟩ : ByteArray)) := by
  unfold textV
  refine congrArg Value.string ?_
  first | rfl | (apply ByteArray.ext; rw [ByteArray.data_append]; simp)
theorem text_len (x : List UInt8) : (⟨x.toArray⟩ : ByteArray).size = x.length := by simp [ByteArray.size]
theorem text_mid (b : List UInt8) (i k : Nat) : textV ((b.drop i).take k) = .string ((⟨b.toArray⟩ : ByteArray).extract i (i + k)) := by
  unfold textV
  congr 1
  apply ByteArray.ext
  rw [ByteArray.data_extract]
  apply Array.ext'
  rw [Array.toList_extract]
  simp

set_option maxHeartbeats 2000000 in
set_option maxRecDepth 100000 in
theorem ref_image {b : Nat} {m : StM} {w : World} {S : Nat → Prop} (hg : m.Good) (H : Sep w [RefAt b m] S) :
    Calls Try.prog 56 #[.pointer (some ⟨b, 0, none⟩)] w fun e w' => e = .returned (textV m.image) ∧ Below w.heap.size w w' := by
  have hcnt := hg.count
  obtain ⟨vl, vw, vc, H3⟩ := RefAt.open (St.refl H)
  have H3 : St S w w [Blk b #[vl, vw, .int .i64 m.calls, vc] 41, Row 9 1 vl m.last.length (texts m.last), Row 46 2 vw m.waits.length (refWaits m.waits), Row 3 1 vc m.reads.length (intCells m.reads)] := H3
  obtain ⟨gl, ll, rfl⟩ := row_form (H3.row 1 rfl) (N := m.last.length) rfl (by omega)
  have c0 := H3.cell 0 0 rfl rfl
  have hgl := H3.row_lt 1 rfl
  have H4 : St (fun _ => False) w w [] := St.nil _ w
  go_enter Try.func56, Try.ntmps56
  go_upto_block 1 with (fail)
  clear c0
  go_loopw [3, 11] (fun s j wr => ∃ (k : Nat), k ≤ m.last.length ∧ j = .int .i64 k ∧ s = textV (m.last.take k).flatten ∧ St (fun _ => False) w wr []) (fun _ j _ => m.last.length - (intOf j).toNat)
  case atStart => exact ⟨0, by omega, rfl, rfl, H4⟩
  case round =>
    clear H4
    obtain ⟨k, hk, rfl, rfl, HL⟩ := hrel
    by_cases hlt : k < m.last.length
    · obtain ⟨x, hx⟩ : ∃ x, m.last[k]? = some x := ⟨_, List.getElem?_eq_getElem hlt⟩
      have hsn := Lib.hid (show textV (m.last.take (k + 1)).flatten = .string ((⟨(m.last.take k).flatten.toArray⟩ : ByteArray) ++ (⟨x.toArray⟩ : ByteArray)) by
        rw [take_snoc' hx, List.flatten_append, List.flatten_singleton, text_join])
      have hxl := hg.full x (List.mem_of_getElem? hx)
      have hfl : ((m.last.take k).flatten).length = k * 128 := by
        rw [flat_len (k := 128) (fun x hx => hg.full x (List.mem_of_mem_take hx)), List.length_take, Nat.min_eq_left hk]
      have c1 : wr.cell? ⟨gl, k, none⟩ = some (textV x) := (World.cell?_of_block (w := w) (HL.kept.block gl hgl id)).trans (H3.rowCell 1 k rfl (texts_at hx))
      obtain ⟨X, hX⟩ : ∃ X, (m.last.take k).flatten = X := ⟨_, rfl⟩
      rw [hX] at hsn hfl ⊢
      have hs1 := text_len X
      have hs2 := text_len x
      unfold textV at c1 ⊢
      clear hX hx
      go_wp2
      go_roundw
      case rel => exact ⟨k + 1, by omega, by go_num, hsn.out.symm, HL⟩
      case measure => simp [intOf]; omega
    · obtain rfl : k = m.last.length := by omega
      rw [List.take_length]
      unfold textV
      go_wp2
      go_ret
      exact ⟨rfl, HL.below (Nat.le_refl _) (fun _ h => h.elim)⟩

set_option maxHeartbeats 2000000 in
set_option maxRecDepth 100000 in
theorem ref_reads {b : Nat} {m : StM} {w : World} {S : Nat → Prop} (hg : m.Good) (H : Sep w [RefAt b m] S) :
    Calls Try.prog 86 #[.pointer (some ⟨b, 0, none⟩)] w fun e w' => ∃ v, e = .returned v ∧ St S w w' [Row 3 1 v m.reads.length (intCells m.reads), RefAt b m.readsOut.2] := by
  have hcnt := hg.count
  have hrl := hg.reads
  obtain ⟨vl, vw, vc, H3⟩ := RefAt.open (St.refl H)
  have H3 : St S w w [Blk b #[vl, vw, .int .i64 m.calls, vc] 41, Row 9 1 vl m.last.length (texts m.last), Row 46 2 vw m.waits.length (refWaits m.waits), Row 3 1 vc m.reads.length (intCells m.reads)] := H3
  obtain ⟨gc, cc, rfl, _, _⟩ := slice_form' (H3.row 3 rfl)
  obtain ⟨N, hN⟩ : ∃ N, m.reads.length = N := ⟨_, rfl⟩
  rw [hN] at H3 ⊢
  obtain ⟨i3, hi3, hz3, hs3, hb3⟩ := info_parts Try.info3
  have hm2 := fun w => run_make (P := Try.prog) w 39 3 i3 _ Try.underlying39 hi3 hz3 .i64 .i64 N N (by omega) (by omega) (by rw [hb3]; omega) (by omega)
  simp only [hs3, Int.toNat_natCast] at hm2
  change ∀ w, _ = Result.ok _ (World.alloc w (.cells (zeroCells N) _)) at hm2
  have c3 := H3.cell 0 3 rfl rfl
  have f3 := H3.free 0 3 rfl
  have hlt := H3.blk_lt 0 rfl
  obtain ⟨bb, hbb⟩ : ∃ bb, w.heap.size = bb := ⟨_, rfl⟩
  have HA : St S w _ [_, _, _, _, _] := H3.allocAt hbb (zeroCells N) 3
  have c4 := HA.cell 1 3 rfl rfl
  have f4 := HA.free 1 3 rfl
  have H6 : St S w _ [_, _, _, _, _] := HA.set 1 rfl 3 (.slice (some ⟨bb, 0, none⟩) N N)
  go_enter Try.func86, Try.ntmps86
  go_wp2
  go_ret
  refine ⟨_, rfl, ?_⟩
  have H7 := (St.blkRow (n := N) (size := 1) H6 (by rw [zeroCells_eq]; simp [intCells, newStore]) (by unfold maxLen; omega)).pick [1, 2, 3, 0, 4]
  have hzl : (zeroCells N).toList = intCells (List.replicate N 0) := by rw [zeroCells_eq]; rfl
  rw [hzl] at H7
  have H8 : St S w _ [RefAt b m.readsOut.2, _] := RefAt.mk (m := m.readsOut.2) (l := [Row 3 1 (.slice gc N cc) N (intCells m.reads)]) (vl := vl) (vw := vw) (vc := .slice (some ⟨bb, 0, none⟩) N N) (by
    unfold refParts
    have e3 : m.readsOut.2.reads = List.replicate N 0 := by rw [← hN, hrl]; rfl
    rw [e3, List.length_replicate]
    exact H7)
  exact H8.pick [1, 0]


set_option maxHeartbeats 2000000 in
set_option maxRecDepth 100000 in
theorem ref_load {b : Nat} {m : StM} {bs : List UInt8} {w : World} {S : Nat → Prop} (hg : m.Good) (hbl : bs.length ≤ 9223372036854775807) (H : Sep w [RefAt b m] S) :
    Calls Try.prog 83 #[.pointer (some ⟨b, 0, none⟩), textV bs] w fun e w' => e = .returned (.bool (m.load bs).1) ∧ St S w w' [RefAt b (m.load bs).2] := by
  have hcnt := hg.count
  have hsz := text_len bs
  obtain ⟨vl, vw, vc, H3⟩ := RefAt.open (St.refl H)
  have H3 : St S w w [Blk b #[vl, vw, .int .i64 m.calls, vc] 41, Row 9 1 vl m.last.length (texts m.last), Row 46 2 vw m.waits.length (refWaits m.waits), Row 3 1 vc m.reads.length (intCells m.reads)] := H3
  obtain ⟨gl, ll, rfl⟩ := row_form (H3.row 1 rfl) (N := m.last.length) rfl (by omega)
  have c0 := H3.cell 0 0 rfl rfl
  have hwr : IntKind.i64.wrap (128 * (m.last.length : Int)) = 128 * (m.last.length : Int) := by rw [IntKind.wrap_i64]; omega
  unfold textV
  by_cases hc : bs.length = 128 * m.last.length
  · have hfin : m.load bs = (true, { m with last := chunks m.last.length bs, waits := [] }) := by unfold StM.load; rw [if_pos hc]
    rw [hfin]
    have y1 : ((bs.length : Int) != 128 * (m.last.length : Int)) = false := by simp; omega
    clear hfin
    go_enter Try.func83, Try.ntmps83
    go_upto_block 1 with (fail)
    clear c0 y1
    go_loopw [5, 20] (fun _ j wr => ∃ (k : Nat) (L : List (List UInt8)), k ≤ m.last.length ∧ j = .int .i64 k ∧ L.length = m.last.length ∧ (∀ i, i < k → L[i]? = some ((bs.drop (128 * i)).take 128)) ∧ St S w wr [Blk b #[.slice (some ⟨gl, 0, none⟩) m.last.length ll, vw, .int .i64 m.calls, vc] 41, Row 9 1 (.slice (some ⟨gl, 0, none⟩) m.last.length ll) m.last.length (texts L), Row 46 2 vw m.waits.length (refWaits m.waits), Row 3 1 vc m.reads.length (intCells m.reads)]) (fun _ j _ => m.last.length - (intOf j).toNat)
    case atStart => exact ⟨0, m.last, by omega, rfl, rfl, fun i hi => by omega, H3⟩
    case round =>
      clear H3
      obtain ⟨k, L, hk, rfl, hLl, hLk, HL⟩ := hrel
      by_cases hlt : k < m.last.length
      · obtain ⟨z, hz⟩ : ∃ z, L[k]? = some z := ⟨_, List.getElem?_eq_getElem (by omega)⟩
        have s0 := HL.cell 0 0 rfl rfl
        have r0 := HL.rowCell 1 k rfl (texts_at hz)
        unfold textV at r0
        have f0 := HL.rowFree 1 k rfl
        have H6 : St S w (wr.setCell ⟨gl, k, none⟩ (.string ((⟨bs.toArray⟩ : ByteArray).extract (128 * k) (128 * k + 128)))) [_, _, _, _] := HL.textSet 1 rfl k ((bs.drop (128 * k)).take 128) (text_mid bs (128 * k) 128)
        have hk1 : IntKind.i64.wrap (128 * (k : Int)) = 128 * (k : Int) := by rw [IntKind.wrap_i64]; omega
        have hk2 : IntKind.i64.wrap (128 * (k : Int) + 128) = 128 * (k : Int) + 128 := by rw [IntKind.wrap_i64]; omega
        have hk3 : (128 * (k : Int)).toNat = 128 * k := by omega
        have hk4 : (128 * (k : Int) + 128).toNat = 128 * k + 128 := by omega
        have hkl : 128 * k + 128 ≤ bs.length := by omega
        have hLk2 := Lib.hid (show ∀ i, i < k + 1 → (L.set k ((bs.drop (128 * k)).take 128))[i]? = some ((bs.drop (128 * i)).take 128) from fun i hi => by
          rw [List.getElem?_set]
          by_cases e : k = i
          · subst e
            rw [if_pos rfl, if_pos (by omega)]
          · rw [if_neg e]
            exact hLk i (by omega))
        clear hz hLk
        go_upto_region 6 with (fail)
        go_region
        go_wp2
        go_roundw
        case rel => exact ⟨k + 1, L.set k ((bs.drop (128 * k)).take 128), by omega, by go_num, by simpa using hLl, hLk2.out, H6.drew⟩
        case measure => simp [intOf]; omega
      · obtain rfl : k = m.last.length := by omega
        have hLc : L = chunks m.last.length bs := by
          refine List.ext_getElem? fun i => ?_
          by_cases hi : i < m.last.length
          · rw [hLk i hi, chunks_get bs hi]
          · rw [List.getElem?_eq_none (by omega), List.getElem?_eq_none (by rw [chunks_len]; omega)]
        have hLh := Lib.hid hLc
        clear hLc hLk
        have s1 := HL.cell 0 1 rfl rfl
        have f1 := HL.free 0 1 rfl
        have H6 : St S w _ [_, _, _, _] := HL.set 0 rfl 1 (.slice none 0 0)
        go_wp2
        go_ret
        refine ⟨rfl, RefAt.mk (l := []) (m := { m with last := chunks m.last.length bs, waits := [] }) (vl := .slice (some ⟨gl, 0, none⟩) m.last.length ll) (vw := .slice none 0 0) (vc := vc) ?_⟩
        have H7 := ((H6.pick [0, 1, 3]).row_nil 46 2).pick [1, 2, 0, 3]
        unfold refParts
        simp only [chunks_len]
        rw [← hLh.out]
        exact H7
  · have hfin : m.load bs = (false, m) := by unfold StM.load; rw [if_neg hc]
    rw [hfin]
    have y1 : ((bs.length : Int) != 128 * (m.last.length : Int)) = true := by simp; omega
    clear hfin hc
    go_enter Try.func83, Try.ntmps83
    go_wp2
    go_ret
    exact ⟨rfl, RefAt.mk (l := []) (vl := .slice (some ⟨gl, 0, none⟩) m.last.length ll) (vw := vw) (vc := vc) H3⟩

end Go.Proofs.Ytbikjhmdpgoofab
