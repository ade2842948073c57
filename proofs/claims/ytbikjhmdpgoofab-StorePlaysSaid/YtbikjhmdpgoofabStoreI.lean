/- The walks of the store: Reads, Lay. Conditions: the store's blocks lie as its maker lays them; what is handed in can be read. -/
import Derived.Test.YtbikjhmdpgoofabStoreE
import Derived.Test.YtbikjhmdpgoofabArrMid
import Derived.Test.YtbikjhmdpgoofabStP
import Derived.Test.YtbikjhmdpgoofabApp
import Derived.Test.YtbikjhmdpgoofabRefE
namespace Go.Proofs.Ytbikjhmdpgoofab
open Go.RowKit

theorem run_storeM128 {a : Act} {w : World} {dst : Option Tmp} {ty' : TypeId} {pos : String} {after : Array Edge} {g : Option (Nat × Bool)} {x y : Operand}
    (hp : plainPtr (a.eval x) = true) (hr : mayCells w (blockOf (a.eval x)) (placeOf (a.eval x)) 128 = true) (hv : isAggV (a.eval y) = true) (hs : (aggOf (a.eval y)).size = 128) (h1 : allOne (aggOf (a.eval y)) = true) :
    (execOp a.eval ⟨dst, .store 98 x y, ty', pos, after, g⟩).run Try.prog w = .ok .skip (w.setCells (blockOf (a.eval x)) (placeOf (a.eval x)) (aggOf (a.eval y)).toList) :=
  run_store_mid (by kernel_rfl) hp hr hv hs h1
/-- A block of 128 laid among the others. -/
theorem St.lastSet {S : Nat → Prop} {w0 w : World} {l : List SP} (H : St S w0 w l) (i : Nat) {bl : Nat} {L : List (List UInt8)} {t : TypeId} (hi : l[i]? = some (Blk bl (lastCells L).toArray t)) (hf : ∀ x ∈ L, x.length = 128) (p : Nat) (hp : p < L.length) (b : List UInt8) (hb : b.length = 128) :
    St S w0 (w.setCells bl (p * 128) (bvs b)) (l.set i (Blk bl (lastCells (L.set p b)).toArray t)) := by
  have hlen : (lastCells L).length = L.length * 128 := by
    unfold lastCells
    rw [flat_len (last_full hf), List.length_map]
  have hbl : (bvs b).length = 128 := by rw [length_bvs, hb]
  have h := St.setCells i (bvs b) (p * 128) (lastCells L) w l H hi (by
    rw [hlen, hbl]
    have : (p + 1) * 128 ≤ L.length * 128 := Nat.mul_le_mul_right _ hp
    rw [Nat.succ_mul] at this
    exact this)
  have e : splice (lastCells L) (p * 128) (bvs b) = lastCells (L.set p b) := by
    unfold lastCells
    have hx : (L.map bvs)[p]? = some (bvs L[p]) := by simp [hp]
    rw [flat_splice (last_full hf) hx (bvs b) (by omega), List.map_set, hbl, List.drop_of_length_le (by rw [length_bvs, hf _ (List.getElem_mem _)]; omega), List.append_nil]
  rw [e] at h
  exact h

set_option maxHeartbeats 2000000 in
set_option maxRecDepth 100000 in
theorem store_reads {b : Nat} {m : StM} {w : World} {S : Nat → Prop} (hg : m.Good) (H : Sep w [StoreAt b m] S) :
    Calls Try.prog 52 #[.pointer (some ⟨b, 0, none⟩)] w fun e w' => ∃ v, e = .returned v ∧ St S w w' [Row 3 1 v m.reads.length (intCells m.reads), StoreAt b m.readsOut.2] := by
  have hcnt := hg.count
  have hrl := hg.reads
  obtain ⟨bl, br, vw, H0⟩ := StoreAt.out H
  have H3 : St S w w [StoreB b (.slice (some ⟨bl, 0, none⟩) m.last.length m.last.length) vw (.slice (some ⟨br, 0, none⟩) m.last.length m.last.length) m.calls, Blk bl (lastCells m.last).toArray 98, Blk br (intCells m.reads).toArray 3, Row 100 129 vw m.waits.length (waitCells m.waits)] := St.refl H0
  obtain ⟨N, hN⟩ : ∃ N, m.last.length = N := ⟨_, rfl⟩
  rw [hN] at H3 hrl
  obtain ⟨i3, hi3, hz3, hs3, hb3⟩ := info_parts Try.info3
  have hm2 := fun w => run_make (P := Try.prog) w 39 3 i3 _ Try.underlying39 hi3 hz3 .i64 .i64 N N (by omega) (by omega) (by rw [hb3]; omega) (by omega)
  simp only [hs3, Int.toNat_natCast] at hm2
  change ∀ w, _ = Result.ok _ (World.alloc w (.cells (zeroCells N) _)) at hm2
  have c0 := H3.cell 0 0 rfl rfl
  have c2 := H3.cell 0 2 rfl rfl
  have hlt := H3.blk_lt 0 rfl
  obtain ⟨bb, hbb⟩ : ∃ bb, w.heap.size = bb := ⟨_, rfl⟩
  have HA : St S w _ [_, _, _, _, _] := H3.allocAt hbb (zeroCells N) 3
  have c4 := HA.cell 1 2 rfl rfl
  have f4 := HA.free 1 2 rfl
  have H6 : St S w _ [_, _, _, _, _] := HA.set 1 rfl 2 (.slice (some ⟨bb, 0, none⟩) N N)
  rw [hrl]
  go_enter Try.func52, Try.ntmps52
  go_wp2
  go_ret
  refine ⟨_, rfl, ?_⟩
  have H7 : St S w _ [Blk br (intCells m.reads).toArray 3, StoreB b (.slice (some ⟨bl, 0, none⟩) N N) vw (.slice (some ⟨bb, 0, none⟩) N N) m.calls, Blk bl (lastCells m.last).toArray 98, Blk bb (zeroCells N) 3, Row 100 129 vw m.waits.length (waitCells m.waits)] := H6.pick [3, 1, 2, 0, 4]
  have H8 := St.blkRow (n := N) (size := 1) H7 (by simp [intCells, hrl]) (by unfold maxLen; omega)
  have hz : Blk bb (zeroCells N) 3 = Blk bb (intCells m.readsOut.2.reads).toArray 3 := by
    rw [zeroCells_eq]
    have : m.readsOut.2.reads = List.replicate N 0 := by rw [← hN]; rfl
    rw [this]
    rfl
  rw [hz] at H8
  have H9 : St S w _ [StoreAt b m.readsOut.2, _] := StoreAt.mk (m := m.readsOut.2) (l := [Row 3 1 (.slice (some ⟨br, 0, none⟩) N N) N (intCells m.reads)]) (bl := bl) (br := bb) (vw := vw) (by
    unfold storeParts
    have e1 : m.readsOut.2.last = m.last := rfl
    rw [e1, hN]
    exact H8.pick [1, 2, 3, 4, 0])
  exact H9.pick [1, 0]

section
attribute [local go_sem ↓] run_load128 run_load129 run_store129 run_storeM128 run_one_wait
attribute [local go_sem] size_zero128 size_zero129
set_option maxHeartbeats 4000000 in
set_option maxRecDepth 100000 in
theorem store_lay {b : Nat} {m : StM} {at' : Int} {v : Value} {l : List UInt8} {w : World} {S : Nat → Prop} (hg : m.Good) (hv : BytesRO S w v l) (H : Sep w [StoreAt b m] S) :
    Calls Try.prog 54 #[.pointer (some ⟨b, 0, none⟩), .int .i64 at', v] w fun e w' => e = .returned (.bool (m.lay at' l).1) ∧ St S w w' [StoreAt b (m.lay at' l).2] := by
  obtain ⟨ad, cap, rfl, hcap, hcell⟩ := hv
  have hcnt := hg.count
  have hwl := hg.room
  by_cases h1 : m.inn at' = false
  · have hfin : m.lay at' l = (false, m) := by unfold StM.lay; rw [if_neg (fun h => by rw [h1] at h; cases h.1)]
    rw [hfin]
    go_enter Try.func54, Try.ntmps54
    go_wp2_with (go_at_call 75; refine (store_in H).mono ?_; rintro e w' ⟨rfl, rfl⟩)
    go_ret
    exact ⟨rfl, St.refl H⟩
  · have h1' : m.inn at' = true := by simpa using h1
    by_cases h2 : l.length ≠ 128
    · have hfin : m.lay at' l = (false, m) := by unfold StM.lay; rw [if_neg (fun h => h2 h.2)]
      rw [hfin]
      have e2 : ((l.length : Int) != 128) = true := by simp; omega
      clear h1 h2
      go_enter Try.func54, Try.ntmps54
      go_wp2_with (go_at_call 75; refine (store_in H).mono ?_; rintro e w' ⟨rfl, rfl⟩)
      go_ret
      exact ⟨rfl, St.refl H⟩
    · have h2' : l.length = 128 := by simpa using h2
      obtain ⟨cb, co, rfl, hcb, hS, hc⟩ := hcell (by rintro rfl; simp at h2')
      have hat : 0 ≤ at' ∧ at' < m.last.length := by simpa [StM.inn] using h1'
      obtain ⟨p, rfl⟩ := Int.eq_ofNat_of_zero_le hat.1
      have hpl : p < m.last.length := by omega
      have hfin : m.lay p l = (true, { m with last := m.last.set p l, waits := m.waits.filter fun x => !decide (x.1 = (p : Int)) }) := by unfold StM.lay; rw [if_pos ⟨h1', h2'⟩]; rfl
      rw [hfin]
      have hH := Lib.hid H
      obtain ⟨bl, br, vw, H0⟩ := StoreAt.out H
      have H3 : St S w w [StoreB b (.slice (some ⟨bl, 0, none⟩) m.last.length m.last.length) vw (.slice (some ⟨br, 0, none⟩) m.last.length m.last.length) m.calls, Blk bl (lastCells m.last).toArray 98, Blk br (intCells m.reads).toArray 3, Row 100 129 vw m.waits.length (waitCells m.waits)] := St.refl H0
      obtain ⟨aw, cw, rfl, _, haw⟩ := slice_form' (H3.row 3 rfl)
      have hlen : (bvs l).length = 128 := by rw [length_bvs, h2']
      have hr1 : w.rangeAt cb co (bvs l) := fun j u hu => by
        have hj : j < (bvs l).length := (List.getElem?_eq_some_iff.1 hu).1
        rw [length_bvs] at hj
        rw [hc j hj, ← hu]
        simp [bvs, hj]
      have r32 := fun (w' : World) => run_arrayAt (P := Try.prog) w' 98 _ 128 (some ⟨cb, co, none⟩) 128 cap Try.underlying98 (Nat.le_refl _)
      obtain ⟨r33, r34⟩ := cellsAt_of_range hr1 hlen
      have hall := all_bvs l
      have hsz : (bvs l).toArray.size = 128 := by simp [hlen]
      have c0 := H3.cell 0 0 rfl rfl
      have hm0 : mayCells w bl (p * 128) 128 = true := mayCells_blk (H3.blk 1 rfl) (by
        have : (p + 1) * 128 ≤ m.last.length * 128 := Nat.mul_le_mul_right _ hpl
        rw [Nat.succ_mul] at this
        simpa [lastCells, flat_len (last_full hg.full)] using this)
      have H6 : St S w _ [_, _, _, _] := H3.drew.lastSet 1 rfl hg.full p hpl l h2'
      have hpc : (p : Int) < (m.last.length : Int) := by omega
      have hll : ((l.length : Int) != 128) = false := by simp; omega
      have kin := store_in (at' := (p : Int)) H
      rw [h1'] at kin
      clear hfin h1 h2 hc hcell H0 hr1 hat h1' hH
      go_enter Try.func54, Try.ntmps54
      go_upto_region 3 with (go_at_call 75; go_must (refine kin.mono ?_; rintro e w' ⟨rfl, rfl⟩))
      go_region
      obtain ⟨w1, hw1⟩ : ∃ w1, w.drew.setCells bl (p * 128) (bvs l) = w1 := ⟨_, rfl⟩
      rw [hw1] at H6
      try rw [hw1]
      clear hw1 c0 hm0 r32 r33 r34 hall hsz H3 kin
      have c1 := H6.cell 0 1 rfl rfl
      have H7 : St S w w1 [Row 100 129 (.slice none 0 0) 0 (waitCells []), StoreB b (.slice (some ⟨bl, 0, none⟩) m.last.length m.last.length) (.slice aw m.waits.length cw) (.slice (some ⟨br, 0, none⟩) m.last.length m.last.length) m.calls, Blk bl (lastCells (m.last.set p l)).toArray 98, Blk br (intCells m.reads).toArray 3, Row 100 129 (.slice aw m.waits.length cw) m.waits.length (waitCells m.waits)] := H6.row_nil 100 129
      clear H6
      go_upto_block 1 with (fail)
      clear c1
      go_loopw [7, 33] (fun u j wr => ∃ (k : Nat) (Q : List (Int × List UInt8)), k ≤ m.waits.length ∧ j = .int .i64 k ∧ Q = (m.waits.take k).filter (fun x => !decide (x.1 = (p : Int))) ∧ Q.length ≤ k ∧
        St S w wr [Row 100 129 u Q.length (waitCells Q), StoreB b (.slice (some ⟨bl, 0, none⟩) m.last.length m.last.length) (.slice aw m.waits.length cw) (.slice (some ⟨br, 0, none⟩) m.last.length m.last.length) m.calls, Blk bl (lastCells (m.last.set p l)).toArray 98, Blk br (intCells m.reads).toArray 3, Row 100 129 (.slice aw m.waits.length cw) m.waits.length (waitCells m.waits)]) (fun _ j _ => m.waits.length - (intOf j).toNat)
      case atStart => exact ⟨0, [], by omega, rfl, rfl, by simp, H7⟩
      case round =>
        clear H7
        obtain ⟨k, Q, hk, rfl, hQ, hQl, HL⟩ := hrel
        by_cases hlt : k < m.waits.length
        · obtain ⟨gw, rfl⟩ := haw (by omega)
          obtain ⟨y, hy⟩ : ∃ y, m.waits[k]? = some y := ⟨_, List.getElem?_eq_getElem hlt⟩
          have hyl := hg.waits y (List.mem_of_getElem? hy)
          have hst : (m.waits.take (k + 1)).filter (fun x => !decide (x.1 = (p : Int))) = if y.1 = (p : Int) then Q else Q ++ [y] := by
            rw [take_snoc' hy, filter_snoc, ← hQ]
            by_cases h : y.1 = (p : Int) <;> simp [h]
          obtain ⟨q1, q2⟩ := own_at (ls := m.waits.map waitCell) (HL.row 4 rfl) (wait_full hg.waits) (i := k) (x := waitCell y) (by simp [hy])
          have hys : (waitCell y).length = 129 := by simp [waitCell, length_bvs, hyl.2.2]
          have hysz : (waitCell y).toArray.size = 129 := by simpa using hys
          have ha1 := all_wait y
          have hone : ∀ u ∈ waitCell y, u.oneCell' = true := by
            intro u hu
            rcases List.mem_cons.1 hu with rfl | hu
            · rfl
            · exact one_bvs u hu
          have HA : St S w _ [_, _, _, _, _, _] := HL.allocAt rfl (waitCell y).toArray 100
          clear hy hQ
          go_upto_region 8 with (fail)
          obtain ⟨wa, hwa⟩ : ∃ wa, wr.alloc (.cells (waitCell y).toArray 100) = wa := ⟨_, rfl⟩
          obtain ⟨ob, hob⟩ : ∃ ob, wr.heap.size = ob := ⟨_, rfl⟩
          rw [hwa, hob] at HA
          try rw [hwa]
          try simp only [hob]
          clear hwa hob q1 q2 HL
          obtain ⟨q1, q2⟩ := blk_whole (HA.blk 0 rfl) (n := 129) hys
          have d0 := HA.cell 0 0 rfl (v := .int .i64 y.1) (by simp [waitCell])
          by_cases hyp : y.1 = (p : Int)
          · have z1 : (y.1 != (p : Int)) = false := by simpa using hyp
            have hst2 := Lib.hid (show (m.waits.take (k + 1)).filter (fun x => !decide (x.1 = (p : Int))) = Q by rw [hst, if_pos hyp])
            clear hst hyp
            go_wp2
            go_roundw
            case rel => exact ⟨k + 1, Q, by omega, by go_num, hst2.out.symm, by omega, HA.pick [1, 2, 3, 4, 5]⟩
            case measure => simp [intOf]; omega
          · have z1 : (y.1 != (p : Int)) = true := by simpa using hyp
            have hst2 := Lib.hid (show (m.waits.take (k + 1)).filter (fun x => !decide (x.1 = (p : Int))) = Q ++ [y] by rw [hst, if_neg hyp])
            clear hst hyp
            go_wp2_with (at_builtin; go_must (refine St.list_app (HA.skip _) 1 rfl rfl (.tmp 41) (.tmp 43) 93 rfl Try.underlying93 Try.info100 ⟨size_zeroWait, by omega, by omega⟩ rfl (waitCell y) rfl (by simpa using hys) (new_cells (waitCell y).toArray _) hone (by omega) (by omega) ?_; intro g cap2 w3 H4 hz3))
            go_roundw
            case rel =>
              refine ⟨k + 1, Q ++ [y], by omega, by go_num, hst2.out.symm, by simp; omega, ?_⟩
              rw [waitCells_snoc, List.length_append]
              exact H4.pick [1, 2, 3, 4, 5]
            case measure => simp [intOf]; omega
        · obtain rfl : k = m.waits.length := by omega
          rw [List.take_length] at hQ
          have hQh := Lib.hid hQ
          clear hQ
          have s1 := HL.cell 1 1 rfl rfl
          have f1 := HL.free 1 1 rfl
          obtain ⟨ua, uc, rfl, _, _⟩ := slice_form' (HL.row 0 rfl)
          have H6 : St S w _ [_, _, _, _, _] := HL.set 1 rfl 1 (.slice ua Q.length uc)
          go_wp2
          go_ret
          refine ⟨rfl, StoreAt.mk (l := []) (bl := bl) (br := br) (vw := .slice ua Q.length uc) ?_⟩
          unfold storeParts
          simp only [List.length_set]
          rw [← hQh.out]
          exact H6.pick [1, 2, 3, 0]
end

end Go.Proofs.Ytbikjhmdpgoofab
