/- The walks of the store: Read. Conditions: the store's blocks lie as its maker lays them. -/
import Derived.Test.YtbikjhmdpgoofabStoreA
namespace Go.Proofs.Ytbikjhmdpgoofab
open Go.RowKit

attribute [local go_sem ↓] run_load128 run_load129 run_store128 run_store129
attribute [local go_sem] size_zero128 size_zero129

theorem over_snoc (at' : Int) (b : List UInt8) (l : List (Int × List UInt8)) (x : Int × List UInt8) : over at' b (l ++ [x]) = if x.1 = at' then x.2 else over at' b l := by simp [over]
theorem over_len {at' : Int} {x : List UInt8} (hx : x.length = 128) : ∀ {l : List (Int × List UInt8)}, (∀ y ∈ l, y.2.length = 128) → (over at' x l).length = 128 := by
  intro l
  unfold over
  induction l generalizing x with
  | nil => intro _; exact hx
  | cons y l ih =>
    intro h
    rw [List.foldl_cons]
    refine ih ?_ (fun z hz => h z (by simp [hz]))
    split
    · exact h y (by simp)
    · exact hx
set_option maxHeartbeats 2000000 in
set_option maxRecDepth 100000 in
theorem store_read {b : Nat} {m : StM} {at' : Int} {w : World} {S : Nat → Prop} (hg : m.Good) (H : Sep w [StoreAt b m] S) :
    Calls Try.prog 45 #[.pointer (some ⟨b, 0, none⟩), .int .i64 at'] w fun e w' => ∃ v, e = .returned (.tuple #[v, .int .i64 (m.read at').2.1]) ∧ St S w w' [BytesAt v (m.read at').1, StoreAt b (m.read at').2.2] := by
  by_cases h1 : m.inn at' = false
  · have hfin : m.read at' = ([], 32, m) := by simp [StM.read, h1]
    rw [hfin]
    go_enter Try.func45, Try.ntmps45
    go_wp2_with (go_at_call 75; refine (store_in H).mono ?_; rintro e w' ⟨rfl, rfl⟩)
    go_ret2
    exact ⟨_, rfl, BytesAt.nil (St.refl H)⟩
  · have h1' : m.inn at' = true := by simpa using h1
    by_cases h3 : m.calls = 0
    · have hfin : m.read at' = ([], 31, m) := by simp [StM.read, h1', h3]
      rw [hfin]
      have he : (m.calls == 0) = true := by simpa using h3
      clear hfin h1 h3
      go_enter Try.func45, Try.ntmps45
      go_wp2_with (first
        | (go_at_call 75; refine (store_in H).mono ?_; rintro e w' ⟨rfl, rfl⟩)
        | (go_at_call 53; refine (store_off H).mono ?_; rintro e w' ⟨rfl, rfl⟩))
      go_ret2
      exact ⟨_, rfl, BytesAt.nil (St.refl H)⟩
    · obtain ⟨hA, hB⟩ : 0 ≤ at' ∧ at' < m.last.length := by simpa [StM.inn] using h1'
      obtain ⟨i, rfl⟩ := Int.eq_ofNat_of_zero_le hA
      have hil : i < m.last.length := by omega
      have hir : i < m.reads.length := by have := hg.reads; omega
      obtain ⟨x, hx⟩ : ∃ x, m.last[i]? = some x := ⟨_, List.getElem?_eq_getElem hil⟩
      obtain ⟨r, hr⟩ : ∃ r, m.reads[i]? = some r := ⟨_, List.getElem?_eq_getElem hir⟩
      have hxl := hg.full x (List.mem_of_getElem? hx)
      have hfin : m.read i = (over i x m.waits, 0, { m with reads := m.reads.set i (wrap64 (r + 1)) }) := by
        simp [StM.read, h1', h3, StM.look, List.getD, hx, hr]
      rw [hfin]
      have he : (m.calls == 0) = false := by simpa using h3
      have hcnt := hg.count
      have hH := Lib.hid (StoreAt.mk (St.refl (StoreAt.out H).choose_spec.choose_spec.choose_spec) (l := []))
      obtain ⟨bl, br, vw, H⟩ := StoreAt.out H
      have H := St.refl H
      have hrow := H.row 3 rfl
      have hwl := hg.room
      obtain ⟨ao, cap, hvw, hao⟩ : ∃ ao cap, vw = .slice ao m.waits.length cap ∧ (m.waits.length ≠ 0 → ∃ g, ao = some ⟨g, 0, none⟩) := by
        rcases own_shape hrow with ⟨h, h'⟩ | ⟨g, cap, h, _⟩
        · exact ⟨none, 0, by rw [h, h'], fun hn => absurd h' hn⟩
        · exact ⟨_, cap, h, fun _ => ⟨g, rfl⟩⟩
      clear hrow
      subst hvw
      have hb := H.blk_lt 0 rfl
      have c0 := H.cell 0 0 rfl rfl
      have c1 := H.cell 0 1 rfl rfl
      have c2 := H.cell 0 2 rfl rfl
      have c3 : w.cell? ⟨br, i, none⟩ = some (.int .i64 r) := H.cell 2 i rfl (by simp [intCells, hr])
      have f3 := H.free 2 i rfl
      have H2 : St S w _ [_, _, _, _] := H.set 2 rfl i (.int .i64 (wrap64 (r + 1)))
      have hbr := H.blk_lt 2 rfl
      have hbl := H.blk_lt 1 rfl
      have c0' := H2.cell 0 0 rfl rfl
      have c1' := H2.cell 0 1 rfl rfl
      obtain ⟨q1, q2⟩ := blk_at (ls := m.last.map bvs) (H2.blk 1 rfl) (last_full hg.full) (i := i) (x := bvs x) (by simp [hx])
      have hbx : (bvs x).length = 128 := by rw [length_bvs, hxl]
      have hone := all_bvs x
      clear hfin h1 h3 hA hB
      go_enter Try.func45, Try.ntmps45
      go_wp2_with (first
        | (go_at_call 75; go_must (refine (store_in hH.out.sep).mono ?_; rintro e w' ⟨rfl, rfl⟩))
        | (go_at_call 53; go_must (refine (store_off hH.out.sep).mono ?_; rintro e w' ⟨rfl, rfl⟩)))
      have H3 : St S w _ [_, _, _, _, _] := H2.allocAt (B := w.heap.size) (by simp) (bvs x).toArray 98
      clear c0 c1 c2 c3 c0' c1' q1 q2 f3 H2
      by_cases hw0 : m.waits.length = 0
      · have hw0' : m.waits = [] := List.eq_nil_of_length_eq_zero hw0
        refine wp_loop_rounds 1 ?_
        rw [rounds_succ]
        go_wp2
        go_ret2
        have hov : over i x m.waits = x := by rw [hw0']; rfl
        rw [hov]
        have H4 := BytesAt.mk H3
        rw [hxl] at H4
        have H6 : St S w _ (StoreAt b { m with reads := m.reads.set i (wrap64 (r + 1)) } :: [_]) := StoreAt.mk (bl := bl) (br := br) (vw := .slice ao m.waits.length cap) (by simpa [storeParts, intCells] using H4.pick [1, 2, 3, 4, 0])
        exact ⟨_, rfl, H6.pick [1, 0]⟩
      · obtain ⟨gw, rfl⟩ := hao hw0
        go_loopw [8, 41] (fun _ j wr => ∃ k : Nat, k ≤ m.waits.length ∧ j = .int .i64 k ∧ St S w wr [Blk w.heap.size (bvs (over i x (m.waits.take k))).toArray 98,
          StoreB b (.slice (some ⟨bl, 0, none⟩) m.last.length m.last.length) (.slice (some ⟨gw, 0, none⟩) m.waits.length cap) (.slice (some ⟨br, 0, none⟩) m.last.length m.last.length) m.calls,
          Blk bl (lastCells m.last).toArray 98, Blk br (intCells (m.reads.set i (wrap64 (r + 1)))).toArray 3, Row 100 129 (.slice (some ⟨gw, 0, none⟩) m.waits.length cap) m.waits.length (waitCells m.waits)])
          (fun _ j _ => m.waits.length - (intOf j).toNat)
        case atStart => exact ⟨0, by omega, rfl, by simpa [over, intCells] using H3⟩
        case round =>
          clear H3
          obtain ⟨k, hk, rfl, HL⟩ := hrel
          have hov := over_len (at' := i) hxl (fun y hy => (hg.waits y (List.mem_of_mem_take hy)).2.2) (l := m.waits.take k)
          by_cases hlt : k < m.waits.length
          · obtain ⟨y, hy⟩ : ∃ y, m.waits[k]? = some y := ⟨_, List.getElem?_eq_getElem hlt⟩
            have hyl := hg.waits y (List.mem_of_getElem? hy)
            obtain ⟨q1, q2⟩ := own_at (ls := m.waits.map waitCell) (HL.row 4 rfl) (wait_full hg.waits) (i := k) (x := waitCell y) (by simp [hy])
            have HA := HL.alloc (waitCell y).toArray 100
            obtain ⟨q3, q4⟩ := blk_part (a := [.int .i64 y.1]) (cs := bvs y.2) (HA.blk 0 rfl) (m := 1) rfl (n := 128) (by rw [length_bvs, hyl.2.2])
            have hys : (waitCell y).length = 129 := by simp [waitCell, length_bvs, hyl.2.2]
            have hby : (bvs y.2).length = 128 := by rw [length_bvs, hyl.2.2]
            have ha1 := all_wait y
            have ha2 := all_bvs y.2
            have hg6 := HL.blk_lt 0 rfl
            have hr6 : rowSize wr w.heap.size = 128 := by rw [rowSize_of (HL.blk 0 rfl)]; simp [length_bvs, hov]
            have hc6 := HA.cell 0 0 rfl (v := .int .i64 y.1) (by simp [waitCell])
            have hsn := over_snoc i x (m.waits.take k) y
            rw [← take_snoc' hy] at hsn
            obtain ⟨y1, y2⟩ := y
            by_cases hyi : y1 = i
            · have hsn' : over i x (m.waits.take (k + 1)) = y2 := by rw [hsn, if_pos hyi]
              have hsn2 := Lib.hid hsn'
              have hyb : (y1 == (i : Int)) = true := by simpa using hyi
              clear hsn hsn' hyi hov
              go_wp2
              go_roundw
              case rel => exact ⟨k + 1, by omega, by go_num, by rw [hsn2.out]; exact (HA.setRow 1 rfl (bvs y2).toArray).tail⟩
              case measure => simp [intOf]; omega
            · have hsn' : over i x (m.waits.take (k + 1)) = over i x (m.waits.take k) := by rw [hsn, if_neg hyi]
              have hsn2 := Lib.hid hsn'
              have hyb : (y1 == (i : Int)) = false := by simpa using hyi
              clear hsn hsn' hyi hov
              go_wp2
              go_roundw
              case rel => exact ⟨k + 1, by omega, by go_num, by rw [hsn2.out]; exact HA.tail⟩
              case measure => simp [intOf]; omega
          · obtain rfl : k = m.waits.length := by omega
            rw [List.take_length] at HL hov
            go_wp2
            go_ret2
            have H4 := BytesAt.mk HL
            rw [hov] at H4
            have H6 : St S w _ (StoreAt b { m with reads := m.reads.set i (wrap64 (r + 1)) } :: [_]) := StoreAt.mk (bl := bl) (br := br) (vw := .slice (some ⟨gw, 0, none⟩) m.waits.length cap) (by simpa [storeParts, intCells] using H4.pick [1, 2, 3, 4, 0])
            exact ⟨_, rfl, H6.pick [1, 0]⟩

end Go.Proofs.Ytbikjhmdpgoofab
