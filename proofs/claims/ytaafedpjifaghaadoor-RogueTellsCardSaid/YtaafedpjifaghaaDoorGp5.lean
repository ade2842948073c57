import Derived.Test.YtaafedpjifaghaaDoorGp1
import Derived.Test.YtaafedpjifaghaaDoorGp2
import Derived.Test.YtaafedpjifaghaaDoorGp3
import Derived.Test.YtaafedpjifaghaaDoorGp4
import Derived.Laws.BitsAllLaws
/- The walks of the store: Reads, Lay. Conditions: the store's blocks lie as its maker lays them; what is handed in can be read. -/
set_option linter.unusedVariables false
set_option linter.unusedSimpArgs false
namespace Go.Proofs.YtaafedpjifaghaaDoor
open Go.RowKit

theorem run_storeM128 {a : Act} {w : World} {dst : Option Tmp} {ty' : TypeId} {pos : String} {after : Array Edge} {g : Option (Nat × Bool)} {x y : Operand}
    (hp : plainPtr (a.eval x) = true) (hr : mayCells w (blockOf (a.eval x)) (placeOf (a.eval x)) 128 = true) (hv : isAggV (a.eval y) = true) (hs : (aggOf (a.eval y)).size = 128) (h1 : allOne (aggOf (a.eval y)) = true) :
    (execOp a.eval ⟨dst, .store 72 x y, ty', pos, after, g⟩).run Tryd.prog w = .ok .skip (w.setCells (blockOf (a.eval x)) (placeOf (a.eval x)) (aggOf (a.eval y)).toList) :=
  run_store_mid (by kernel_rfl) hp hr hv hs h1
/-- A block of 128 laid among the others. -/
theorem St.lastSet {S : Nat → Prop} {w0 w : World} {l : List SP} (H : St S w0 w l) (i : Nat) {bl : Nat} {L : List (List UInt8)} {t : TypeId} (hi : l[i]? = some (Blk bl (lastCells L).toArray t)) (hf : ∀ x ∈ L, x.length = 128) (p : Nat) (hp : p < L.length) (b : List UInt8) (hb : b.length = 128) :
    St S w0 (w.setCells bl (p * 128) (bvs b)) (l.set i (Blk bl (lastCells (L.set p b)).toArray t)) := by
  have hlen : (lastCells L).length = L.length * 128 := by
    unfold lastCells
    rw [flat_len (last_full hf), List.length_map]
  have hbl : (bvs b).length = 128 := by rw [length_bvs, hb]
  have h := St.setCells i (bvs b) (p * 128) (lastCells L) w l H hi (by
    rw [hlen, hbl]
    have : (p + 1) * 128 ≤ L.length * 128 := Nat.mul_le_mul_right _ hp
    rw [Nat.succ_mul] at this
    exact this)
  have e : splice (lastCells L) (p * 128) (bvs b) = lastCells (L.set p b) := by
    unfold lastCells
    have hx : (L.map bvs)[p]? = some (bvs L[p]) := by simp [hp]
    rw [flat_splice (last_full hf) hx (bvs b) (by omega), List.map_set, hbl, List.drop_of_length_le (by rw [length_bvs, hf _ (List.getElem_mem _)]; omega), List.append_nil]
  rw [e] at h
  exact h

section
attribute [local go_sem ↓] run_load128 run_load129 run_store129 run_storeM128 run_one_wait
attribute [local go_sem] size_zero128 size_zero129
set_option maxHeartbeats 4000000 in
set_option maxRecDepth 100000 in
theorem store_lay {b : Nat} {m : StM} {at' : Int} {v : Value} {l : List UInt8} {w : World} {S : Nat → Prop} (hg : m.Good) (hv : BytesRO S w v l) (H : Sep w [StoreAt b m] S) :
    Calls Tryd.prog 23 #[.pointer (some ⟨b, 0, none⟩), .int .i64 at', v] w fun e w' => e = .returned (.bool (m.lay at' l).1) ∧ St S w w' [StoreAt b (m.lay at' l).2] := by
  obtain ⟨ad, cap, rfl, hcap, hcell⟩ := hv
  have hcnt := hg.count
  have hwl := hg.room
  by_cases h1 : m.inn at' = false
  · have hfin : m.lay at' l = (false, m) := by unfold StM.lay; rw [if_neg (fun h => by rw [h1] at h; cases h.1)]
    rw [hfin]
    go_enter Tryd.func23, Tryd.ntmps23
    go_wp2_with (go_at_call 49; refine (store_in H).mono ?_; rintro e w' ⟨rfl, rfl⟩)
    go_ret
    exact ⟨rfl, St.refl H⟩
  · have h1' : m.inn at' = true := by simpa using h1
    by_cases h2 : l.length ≠ 128
    · have hfin : m.lay at' l = (false, m) := by unfold StM.lay; rw [if_neg (fun h => h2 h.2)]
      rw [hfin]
      have e2 : ((l.length : Int) != 128) = true := by simp; omega
      clear h1 h2
      go_enter Tryd.func23, Tryd.ntmps23
      go_wp2_with (go_at_call 49; refine (store_in H).mono ?_; rintro e w' ⟨rfl, rfl⟩)
      go_ret
      exact ⟨rfl, St.refl H⟩
    · have h2' : l.length = 128 := by simpa using h2
      obtain ⟨cb, co, rfl, hcb, hS, hc⟩ := hcell (by rintro rfl; simp at h2')
      have hat : 0 ≤ at' ∧ at' < m.last.length := by simpa [StM.inn] using h1'
      obtain ⟨p, rfl⟩ := Int.eq_ofNat_of_zero_le hat.1
      have hpl : p < m.last.length := by omega
      have hfin : m.lay p l = (true, { m with last := m.last.set p l, waits := m.waits.filter fun x => !decide (x.1 = (p : Int)) }) := by unfold StM.lay; rw [if_pos ⟨h1', h2'⟩]; rfl
      rw [hfin]
      have hH := Lib.hid H
      obtain ⟨bl, br, vw, H0⟩ := StoreAt.out H
      have H3 : St S w w [StoreB b (.slice (some ⟨bl, 0, none⟩) m.last.length m.last.length) vw (.slice (some ⟨br, 0, none⟩) m.last.length m.last.length) m.calls, Blk bl (lastCells m.last).toArray 72, Blk br (intCells m.reads).toArray 3, Row 97 129 vw m.waits.length (waitCells m.waits)] := St.refl H0
      obtain ⟨aw, cw, rfl, _, haw⟩ := slice_form' (H3.row 3 rfl)
      have hlen : (bvs l).length = 128 := by rw [length_bvs, h2']
      have hr1 : w.rangeAt cb co (bvs l) := fun j u hu => by
        have hj : j < (bvs l).length := (List.getElem?_eq_some_iff.1 hu).1
        rw [length_bvs] at hj
        rw [hc j hj, ← hu]
        simp [bvs, hj]
      have r32 := fun (w' : World) => run_arrayAt (P := Tryd.prog) w' 72 _ 128 (some ⟨cb, co, none⟩) 128 cap Tryd.underlying72 (Nat.le_refl _)
      obtain ⟨r33, r34⟩ := cellsAt_of_range hr1 hlen
      have hall := all_bvs l
      have hsz : (bvs l).toArray.size = 128 := by simp [hlen]
      have c0 := H3.cell 0 0 rfl rfl
      have hm0 : mayCells w bl (p * 128) 128 = true := mayCells_blk (H3.blk 1 rfl) (by
        have : (p + 1) * 128 ≤ m.last.length * 128 := Nat.mul_le_mul_right _ hpl
        rw [Nat.succ_mul] at this
        simpa [lastCells, flat_len (last_full hg.full)] using this)
      have H6 : St S w _ [_, _, _, _] := H3.drew.lastSet 1 rfl hg.full p hpl l h2'
      have hpc : (p : Int) < (m.last.length : Int) := by omega
      have hll : ((l.length : Int) != 128) = false := by simp; omega
      have kin := store_in (at' := (p : Int)) H
      rw [h1'] at kin
      clear hfin h1 h2 hc hcell H0 hr1 hat h1' hH
      go_enter Tryd.func23, Tryd.ntmps23
      go_upto_region 3 with (go_at_call 49; go_must (refine kin.mono ?_; rintro e w' ⟨rfl, rfl⟩))
      go_region
      obtain ⟨w1, hw1⟩ : ∃ w1, w.drew.setCells bl (p * 128) (bvs l) = w1 := ⟨_, rfl⟩
      rw [hw1] at H6
      try rw [hw1]
      clear hw1 c0 hm0 r32 r33 r34 hall hsz H3 kin
      have c1 := H6.cell 0 1 rfl rfl
      have H7 : St S w w1 [Row 97 129 (.slice none 0 0) 0 (waitCells []), StoreB b (.slice (some ⟨bl, 0, none⟩) m.last.length m.last.length) (.slice aw m.waits.length cw) (.slice (some ⟨br, 0, none⟩) m.last.length m.last.length) m.calls, Blk bl (lastCells (m.last.set p l)).toArray 72, Blk br (intCells m.reads).toArray 3, Row 97 129 (.slice aw m.waits.length cw) m.waits.length (waitCells m.waits)] := H6.row_nil 97 129
      clear H6
      go_upto_block 1 with (fail)
      clear c1
      go_loopw [7, 33] (fun u j wr => ∃ (k : Nat) (Q : List (Int × List UInt8)), k ≤ m.waits.length ∧ j = .int .i64 k ∧ Q = (m.waits.take k).filter (fun x => !decide (x.1 = (p : Int))) ∧ Q.length ≤ k ∧
        St S w wr [Row 97 129 u Q.length (waitCells Q), StoreB b (.slice (some ⟨bl, 0, none⟩) m.last.length m.last.length) (.slice aw m.waits.length cw) (.slice (some ⟨br, 0, none⟩) m.last.length m.last.length) m.calls, Blk bl (lastCells (m.last.set p l)).toArray 72, Blk br (intCells m.reads).toArray 3, Row 97 129 (.slice aw m.waits.length cw) m.waits.length (waitCells m.waits)]) (fun _ j _ => m.waits.length - (intOf j).toNat)
      case atStart => exact ⟨0, [], by omega, rfl, rfl, by simp, H7⟩
      case round =>
        clear H7
        obtain ⟨k, Q, hk, rfl, hQ, hQl, HL⟩ := hrel
        by_cases hlt : k < m.waits.length
        · obtain ⟨gw, rfl⟩ := haw (by omega)
          obtain ⟨y, hy⟩ : ∃ y, m.waits[k]? = some y := ⟨_, List.getElem?_eq_getElem hlt⟩
          have hyl := hg.waits y (List.mem_of_getElem? hy)
          have hst : (m.waits.take (k + 1)).filter (fun x => !decide (x.1 = (p : Int))) = if y.1 = (p : Int) then Q else Q ++ [y] := by
            rw [take_snoc' hy, filter_snoc, ← hQ]
            by_cases h : y.1 = (p : Int) <;> simp [h]
          obtain ⟨q1, q2⟩ := own_at (ls := m.waits.map waitCell) (HL.row 4 rfl) (wait_full hg.waits) (i := k) (x := waitCell y) (by simp [hy])
          have hys : (waitCell y).length = 129 := by simp [waitCell, length_bvs, hyl.2.2]
          have hysz : (waitCell y).toArray.size = 129 := by simpa using hys
          have ha1 := all_wait y
          have hone : ∀ u ∈ waitCell y, u.oneCell' = true := by
            intro u hu
            rcases List.mem_cons.1 hu with rfl | hu
            · rfl
            · exact one_bvs u hu
          have HA : St S w _ [_, _, _, _, _, _] := HL.allocAt rfl (waitCell y).toArray 97
          clear hy hQ
          go_upto_region 8 with (fail)
          obtain ⟨wa, hwa⟩ : ∃ wa, wr.alloc (.cells (waitCell y).toArray 97) = wa := ⟨_, rfl⟩
          obtain ⟨ob, hob⟩ : ∃ ob, wr.heap.size = ob := ⟨_, rfl⟩
          rw [hwa, hob] at HA
          try rw [hwa]
          try simp only [hob]
          clear hwa hob q1 q2 HL
          obtain ⟨q1, q2⟩ := blk_whole (HA.blk 0 rfl) (n := 129) hys
          have d0 := HA.cell 0 0 rfl (v := .int .i64 y.1) (by simp [waitCell])
          by_cases hyp : y.1 = (p : Int)
          · have z1 : (y.1 != (p : Int)) = false := by simpa using hyp
            have hst2 := Lib.hid (show (m.waits.take (k + 1)).filter (fun x => !decide (x.1 = (p : Int))) = Q by rw [hst, if_pos hyp])
            clear hst hyp
            go_wp2
            go_roundw
            case rel => exact ⟨k + 1, Q, by omega, by go_num, hst2.out.symm, by omega, HA.pick [1, 2, 3, 4, 5]⟩
            case measure => simp [intOf]; omega
          · have z1 : (y.1 != (p : Int)) = true := by simpa using hyp
            have hst2 := Lib.hid (show (m.waits.take (k + 1)).filter (fun x => !decide (x.1 = (p : Int))) = Q ++ [y] by rw [hst, if_neg hyp])
            clear hst hyp
            go_wp2_with (at_builtin; go_must (refine St.list_app (HA.skip _) 1 rfl rfl (.tmp 41) (.tmp 43) 58 rfl Tryd.underlying58 Tryd.info97 ⟨size_zeroWait, by omega, by omega⟩ rfl (waitCell y) rfl (by simpa using hys) (new_cells (waitCell y).toArray _) hone (by omega) (by omega) ?_; intro g cap2 w3 H4 hz3))
            go_roundw
            case rel =>
              refine ⟨k + 1, Q ++ [y], by omega, by go_num, hst2.out.symm, by simp; omega, ?_⟩
              rw [waitCells_snoc, List.length_append]
              exact H4.pick [1, 2, 3, 4, 5]
            case measure => simp [intOf]; omega
        · obtain rfl : k = m.waits.length := by omega
          rw [List.take_length] at hQ
          have hQh := Lib.hid hQ
          clear hQ
          have s1 := HL.cell 1 1 rfl rfl
          have f1 := HL.free 1 1 rfl
          obtain ⟨ua, uc, rfl, _, _⟩ := slice_form' (HL.row 0 rfl)
          have H6 : St S w _ [_, _, _, _, _] := HL.set 1 rfl 1 (.slice ua Q.length uc)
          go_wp2
          go_ret
          refine ⟨rfl, StoreAt.mk (l := []) (bl := bl) (br := br) (vw := .slice ua Q.length uc) ?_⟩
          unfold storeParts
          simp only [List.length_set]
          rw [← hQh.out]
          exact H6.pick [1, 2, 3, 0]
end

end Go.Proofs.YtaafedpjifaghaaDoor

/- The walk of the store: Load. Conditions: the store's blocks lie as its maker lays them; what is handed in can be read. -/
set_option linter.unusedVariables false
set_option linter.unusedSimpArgs false
namespace Go.Proofs.YtaafedpjifaghaaDoor
open Go.RowKit

theorem BytesRO.free {S : Nat → Prop} {w : World} {v : Value} {l : List UInt8} (h : BytesRO S w v l) : BytesRO (fun _ => False) w v l := by
  obtain ⟨ad, cap, h1, h2, h3⟩ := h
  refine ⟨ad, cap, h1, h2, fun hl => ?_⟩
  obtain ⟨b, o, g1, g2, _, g4⟩ := h3 hl
  exact ⟨b, o, g1, g2, id, g4⟩
section
attribute [local go_sem ↓] run_load128 run_storeM128
attribute [local go_sem] size_zero128 size_zero129
set_option maxHeartbeats 4000000 in
set_option maxRecDepth 100000 in
theorem store_load {b : Nat} {m : StM} {v : Value} {bs : List UInt8} {w : World} {S : Nat → Prop} (hg : m.Good) (hbl : bs.length ≤ 9223372036854775807) (hv : BytesRO S w v bs) (H : Sep w [StoreAt b m] S) :
    Calls Tryd.prog 54 #[.pointer (some ⟨b, 0, none⟩), v] w fun e w' => e = .returned (.bool (m.load bs).1) ∧ St S w w' [StoreAt b (m.load bs).2] := by
  have hcnt := hg.count
  obtain ⟨ad, cap, rfl, hcap, _⟩ := id hv
  obtain ⟨bl, br, vw, H0⟩ := StoreAt.out H
  have H3 : St S w w [StoreB b (.slice (some ⟨bl, 0, none⟩) m.last.length m.last.length) vw (.slice (some ⟨br, 0, none⟩) m.last.length m.last.length) m.calls, Blk bl (lastCells m.last).toArray 72, Blk br (intCells m.reads).toArray 3, Row 97 129 vw m.waits.length (waitCells m.waits)] := St.refl H0
  have c0 := H3.cell 0 0 rfl rfl
  have hwr : IntKind.i64.wrap (128 * (m.last.length : Int)) = 128 * (m.last.length : Int) := by rw [IntKind.wrap_i64]; omega
  by_cases hc : bs.length = 128 * m.last.length
  · have hfin : m.load bs = (true, { m with last := chunks m.last.length bs, waits := [] }) := by unfold StM.load; rw [if_pos hc]
    rw [hfin]
    have y1 : ((bs.length : Int) != 128 * (m.last.length : Int)) = false := by simp; omega
    have kcl := bytes_clone hv.free (by omega)
    have hcge : 128 * m.last.length ≤ bs.length := by omega
    have hcle : bs.length ≤ 600000 := by omega
    clear hfin H0 hc
    go_enter Tryd.func54, Tryd.ntmps54
    go_upto_region 4 with (go_at_call 63; go_must (refine kcl.mono ?_; rintro e w1 ⟨v1, rfl, K1⟩))
    have H4 : St S w w1 [Row 5 1 v1 bs.length (bvs bs), StoreB b (.slice (some ⟨bl, 0, none⟩) m.last.length m.last.length) vw (.slice (some ⟨br, 0, none⟩) m.last.length m.last.length) m.calls, Blk bl (lastCells m.last).toArray 72, Blk br (intCells m.reads).toArray 3, Row 97 129 vw m.waits.length (waitCells m.waits)] := H3.call0 K1
    clear c0 kcl K1 H3
    obtain ⟨_, cb, rfl, hcb, hgb⟩ := slice_form' (H4.row 0 rfl)
    obtain ⟨gb, rfl⟩ := hgb (by omega)
    have c0 := H4.cell 1 0 rfl rfl
    go_upto_block 1 with (fail)
    clear c0
    go_loopw [5, 26] (fun _ j wr => ∃ (k : Nat) (L : List (List UInt8)), k ≤ m.last.length ∧ j = .int .i64 k ∧ L.length = m.last.length ∧ (∀ x ∈ L, x.length = 128) ∧ (∀ i, i < k → L[i]? = some ((bs.drop (128 * i)).take 128)) ∧
      St S w wr [Row 5 1 (.slice (some ⟨gb, 0, none⟩) bs.length cb) bs.length (bvs bs), StoreB b (.slice (some ⟨bl, 0, none⟩) m.last.length m.last.length) vw (.slice (some ⟨br, 0, none⟩) m.last.length m.last.length) m.calls, Blk bl (lastCells L).toArray 72, Blk br (intCells m.reads).toArray 3, Row 97 129 vw m.waits.length (waitCells m.waits)]) (fun _ j _ => m.last.length - (intOf j).toNat)
    case atStart => exact ⟨0, m.last, by omega, rfl, rfl, hg.full, fun i hi => by omega, H4⟩
    case round =>
      clear H4
      obtain ⟨k, L, hk, rfl, hLl, hLf, hLk, HL⟩ := hrel
      by_cases hlt : k < m.last.length
      · have s0 := HL.cell 1 0 rfl rfl
        have hk1 : IntKind.i64.wrap (128 * (k : Int)) = 128 * (k : Int) := by rw [IntKind.wrap_i64]; omega
        have hk3 : (128 * (k : Int)).toNat = 128 * k := by omega
        have hkl : 128 * k + 128 ≤ bs.length := by omega
        have hki : 128 * (k : Int) ≤ (bs.length : Int) := by omega
        have hk0 : 0 ≤ 128 * (k : Int) := by omega
        have hcbk : ¬ cb = 128 * k := by omega
        obtain ⟨X, hX⟩ : ∃ X, (bs.drop (128 * k)).take 128 = X := ⟨_, rfl⟩
        have hXl : X.length = 128 := by rw [← hX, List.length_take, List.length_drop]; omega
        have hXb : (bvs X).length = 128 := by rw [length_bvs, hXl]
        have hrX : wr.rangeAt gb (128 * k) (bvs X) := fun j u hj => by
          have hjl : j < 128 := by rw [← hXb]; exact (List.getElem?_eq_some_iff.1 hj).1
          refine HL.rowCell 0 (128 * k + j) rfl ?_
          rw [← hj, ← hX, bvs, bvs, List.getElem?_map, List.getElem?_map, List.getElem?_take_of_lt hjl, List.getElem?_drop]
        have r32 := fun (w' : World) => run_arrayAt (P := Tryd.prog) w' 72 _ 128 (some ⟨gb, 128 * k, none⟩) (bs.length - 128 * k) (cb - 128 * k) Tryd.underlying72 (by omega)
        obtain ⟨r33, r34⟩ := cellsAt_of_range hrX hXb
        have hall := all_bvs X
        have hsz : (bvs X).toArray.size = 128 := by simp [hXb]
        have hm0 : mayCells wr bl (k * 128) 128 = true := mayCells_blk (HL.blk 2 rfl) (by
          have : (k + 1) * 128 ≤ L.length * 128 := Nat.mul_le_mul_right _ (by omega)
          rw [Nat.succ_mul] at this
          simpa [lastCells, flat_len (last_full hLf)] using this)
        have H6 : St S w _ [_, _, _, _, _] := HL.drew.lastSet 2 rfl hLf k (by omega) X hXl
        have hLk2 := Lib.hid (show ∀ i, i < k + 1 → (L.set k X)[i]? = some ((bs.drop (128 * i)).take 128) from fun i hi => by
          rw [List.getElem?_set]
          by_cases e : k = i
          · subst e
            rw [if_pos rfl, if_pos (by omega), hX]
          · rw [if_neg e]
            exact hLk i (by omega))
        have hLf2 := Lib.hid (show ∀ x ∈ L.set k X, x.length = 128 from fun x hx => by
          rcases List.mem_or_eq_of_mem_set hx with hx | rfl
          · exact hLf x hx
          · exact hXl)
        clear hLk hrX hX hLf
        go_upto_region 7 with (fail)
        go_region
        go_wp2
        go_roundw
        case rel => exact ⟨k + 1, L.set k X, by omega, by go_num, by simpa using hLl, hLf2.out, hLk2.out, H6⟩
        case measure => simp [intOf]; omega
      · obtain rfl : k = m.last.length := by omega
        have hLc : L = chunks m.last.length bs := by
          refine List.ext_getElem? fun i => ?_
          by_cases hi : i < m.last.length
          · rw [hLk i hi, chunks_get bs hi]
          · rw [List.getElem?_eq_none (by omega), List.getElem?_eq_none (by rw [chunks_len]; omega)]
        have hLh := Lib.hid hLc
        clear hLc hLk hLf
        have s1 := HL.cell 1 1 rfl rfl
        have f1 := HL.free 1 1 rfl
        have H6 : St S w _ [_, _, _, _, _] := HL.set 1 rfl 1 (.slice none 0 0)
        go_wp2
        go_ret
        refine ⟨rfl, StoreAt.mk (l := []) (m := { m with last := chunks m.last.length bs, waits := [] }) (bl := bl) (br := br) (vw := .slice none 0 0) ?_⟩
        have H7 := ((H6.pick [1, 2, 3]).row_nil 97 129).pick [1, 2, 3, 0]
        unfold storeParts
        simp only [chunks_len]
        rw [← hLh.out]
        exact H7
  · have hfin : m.load bs = (false, m) := by unfold StM.load; rw [if_neg hc]
    rw [hfin]
    have y1 : ((bs.length : Int) != 128 * (m.last.length : Int)) = true := by simp; omega
    clear hfin hc
    go_enter Tryd.func54, Tryd.ntmps54
    go_wp2
    go_ret
    exact ⟨rfl, St.refl H⟩
end

end Go.Proofs.YtaafedpjifaghaaDoor

/- The walks of the rogue: slices.Clone at bytes, padded, turned, blocks. Conditions: what is handed in can be read. -/
set_option linter.unusedVariables false
set_option linter.unusedSimpArgs false
namespace Go.Proofs.YtaafedpjifaghaaDoor
open Go.RowKit

set_option maxRecDepth 100000 in
theorem slices_clone {v : Value} {bs : List UInt8} {w : World} (hv : BytesRO (fun _ => False) w v bs) (hl : bs.length ≤ 140000000000000) :
    Calls Tryd.prog 52 #[v] w fun e w' => ∃ v', e = .returned v' ∧ St (fun _ => False) w w' [Row 5 1 v' bs.length (bvs bs)] := by
  obtain ⟨ad, cap, rfl, hcap, hcell⟩ := id hv
  cases ad with
  | none =>
    have h0 : bs = [] := by
      by_cases h : bs = []
      · exact h
      · obtain ⟨b, o, e, _⟩ := hcell h
        cases e
    subst h0
    have hq := fun w => Lib.run_eql_slice_nil (P := Tryd.prog) w 38 5 none 0 cap 0 0 Tryd.underlying38
    go_enter Tryd.func52, Tryd.ntmps52
    go_wp2
    go_ret
    exact ⟨_, rfl, (St.nil _ w).row_nil 5 1⟩
  | some a =>
    have hnew : St (fun _ => False) w (w.alloc (.cells #[] 5)) [Row 5 1 (.slice (some ⟨w.heap.size, 0, none⟩) 0 0) 0 []] := by
      refine ⟨(Kept.refl _ _).alloc _, fun k => k = w.heap.size, ⟨?_, fun k => by simp [Value.ownBlock, eq_comm]⟩, fun k h => .inr (by omega), trivial⟩
      exact World.ownsRow_lit w #[] 0 (Nat.zero_le _) (by simp [maxLen]) rfl
    obtain ⟨_, hA, hnews⟩ := BytesRO.news hv hnew.kept
    have hlen : (bvs bs).length = bs.length * 1 := by rw [length_bvs, Nat.mul_one]
    have hb : (0 + bs.length) * 1 ≤ 140737488355328 := by omega
    clear hcell
    have hq := fun w => Lib.run_eql_slice_nil (P := Tryd.prog) w 38 5 (some a) bs.length cap 0 0 Tryd.underlying38
    go_enter Tryd.func52, Tryd.ntmps52
    go_wp2_with (at_builtin; go_must (refine St.list_add hnew 0 rfl rfl (.tmp 5) (.tmp 6) 38 rfl Tryd.underlying38 Tryd.info5 (by decide) rfl (bvs bs) rfl hlen hA hnews one_bvs hb ?_; intro v' w1 H1 hz))
    go_ret
    exact ⟨v', rfl, by simpa using H1⟩

theorem bvs_rep (n : Nat) : bvs (List.replicate n 0) = List.replicate n (.int .u8 0) := by
  simp [bvs, bv]
set_option maxHeartbeats 1000000 in
set_option maxRecDepth 100000 in
theorem rogue_padded {v : Value} {bs : List UInt8} {w : World} (hv : BytesRO (fun _ => False) w v bs) (hl : bs.length ≤ 128) :
    Calls Tryd.prog 28 #[v] w fun e w' => ∃ v', e = .returned v' ∧ St (fun _ => False) w w' [Row 5 1 v' 128 (bvs (pad128 bs))] := by
  obtain ⟨ad, cap, rfl, hcap, hcell⟩ := id hv
  have kc := slices_clone hv (by omega)
  have hw : IntKind.i64.wrap (128 - (bs.length : Int)) = ((128 - bs.length : Nat) : Int) := by rw [IntKind.wrap_i64]; omega
  clear hcell
  go_enter Tryd.func28, Tryd.ntmps28
  go_wp2_with (first
    | (go_at_call 52; go_must (refine kc.mono ?_; rintro e w1 ⟨v1, rfl, H1⟩))
    | (at_builtin; go_must (refine St.list_zeros1 (m := 128 - bs.length) (z := .int .u8 0) H1 rfl (.tmp 4) (.tmp 7) 38 3 rfl Tryd.underlying38 Tryd.underlying3 Tryd.info5 rfl rfl (by omega) (by omega) rfl rfl ?_; intro v2 w2 H2 hz)))
  go_ret
  have hn : bs.length + (128 - bs.length) = 128 := by omega
  rw [hn] at H2
  refine ⟨_, rfl, ?_⟩
  have e : bvs (pad128 bs) = bvs bs ++ List.replicate (128 - bs.length) (.int .u8 0) := by rw [pad128, bvs_append, bvs_rep]
  rw [e]
  exact H2

end Go.Proofs.YtaafedpjifaghaaDoor

/- The walks of the rogue: blocks, turned. Conditions: what is handed in can be read. -/
set_option linter.unusedVariables false
set_option linter.unusedSimpArgs false
namespace Go.Proofs.YtaafedpjifaghaaDoor
open Go.RowKit

theorem BytesRO.cut {S : Nat → Prop} {w : World} {ad : Option Addr} {len cap : Nat} {bs : List UInt8} (hv : BytesRO S w (.slice ad len cap) bs) {b o : Nat} (ha : ad = some ⟨b, o, none⟩) (p m : Nat) (hpm : p + m ≤ bs.length) (hp : 0 < m) :
    BytesRO S w (.slice (some ⟨b, o + p, none⟩) m (cap - p)) ((bs.drop p).take m) := by
  obtain ⟨ad', cap', e, h1, h2⟩ := hv
  simp only [Value.slice.injEq] at e
  obtain ⟨rfl, rfl, rfl⟩ := e
  have hl : ((bs.drop p).take m).length = m := by rw [List.length_take, List.length_drop]; omega
  obtain ⟨b', o', e, h3, h4, h5⟩ := h2 (by rintro rfl; simp at hpm; omega)
  rw [ha] at e
  simp only [Option.some.injEq, Addr.mk.injEq] at e
  obtain ⟨rfl, rfl, _⟩ := e
  refine ⟨_, cap - p, by rw [hl], by rw [hl]; omega, fun _ => ⟨b, o + p, rfl, h3, h4, fun i hi => ?_⟩⟩
  rw [hl] at hi
  rw [Nat.add_assoc, h5 (p + i) (by omega)]
  simp
theorem flat_part {l : List (List UInt8)} (h : ∀ x ∈ l, x.length = 128) (p m : Nat) : ((l.drop p).take m).flatten = (l.flatten.drop (p * 128)).take (m * 128) := by
  rw [flat_take (fun x hx => h x (List.mem_of_mem_drop hx)), flat_drop h]
set_option maxHeartbeats 1000000 in
set_option maxRecDepth 100000 in
theorem rogue_blocks {v : Value} {img : List (List UInt8)} {w : World} (p m : Nat) (hf : ∀ x ∈ img, x.length = 128) (hN : img.length ≤ 4096) (hpm : p + m ≤ img.length) (hm : 0 < m) (hv : BytesRO (fun _ => False) w v img.flatten) :
    Calls Tryd.prog 55 #[v, .int .i64 p, .int .i64 m] w fun e w' => ∃ v', e = .returned v' ∧ St (fun _ => False) w w' [Row 5 1 v' (128 * m) (bvs ((img.drop p).take m).flatten)] := by
  obtain ⟨ad, cap, rfl, hcap, hcell⟩ := id hv
  have hlen : img.flatten.length = img.length * 128 := flat_len hf
  obtain ⟨b, o, rfl, _⟩ := hcell (by intro h; rw [h] at hlen; simp at hlen; omega)
  have hpart := hv.cut rfl (p * 128) (m * 128) (by omega) (by omega)
  have hl2 : ((img.flatten.drop (p * 128)).take (m * 128)).length = 128 * m := by rw [List.length_take, List.length_drop]; omega
  rw [flat_part hf]
  rw [hlen] at hcap ⊢
  obtain ⟨X, hX⟩ : ∃ X, (img.flatten.drop (p * 128)).take (m * 128) = X := ⟨_, rfl⟩
  obtain ⟨N, hNN⟩ : ∃ N, img.length = N := ⟨_, rfl⟩
  rw [hX] at hpart hl2 ⊢
  rw [hNN] at hN hpm hcap ⊢
  clear hv hcell hlen hf hX hNN
  have e1 : p * 128 = 128 * p := by omega
  have e2 : m * 128 = 128 * m := by omega
  have e3 : N * 128 = 128 * N := by omega
  rw [e1, e2] at hpart
  rw [e3] at hcap ⊢
  have kc := slices_clone hpart (by omega)
  rw [hl2] at kc
  have w1 : IntKind.i64.wrap (128 * (p : Int)) = 128 * (p : Int) := by rw [IntKind.wrap_i64]; omega
  have w2 : IntKind.i64.wrap ((p : Int) + (m : Int)) = (p : Int) + (m : Int) := by rw [IntKind.wrap_i64]; omega
  have w3 : IntKind.i64.wrap (128 * ((p : Int) + (m : Int))) = 128 * ((p : Int) + (m : Int)) := by rw [IntKind.wrap_i64]; omega
  have z1 : (128 * (p : Int)).toNat = 128 * p := by omega
  have z2 : (128 * ((p : Int) + (m : Int)) - 128 * (p : Int)).toNat = 128 * m := by omega
  have z3 : (128 * ((p : Int) + (m : Int))).toNat - 128 * p = 128 * m := by omega
  have z4 : ¬ cap = 128 * p := by omega
  have b1 : 0 ≤ 128 * (p : Int) := by omega
  have b2 : 128 * (p : Int) ≤ 128 * ((p : Int) + (m : Int)) := by omega
  have b3 : 128 * ((p : Int) + (m : Int)) ≤ (cap : Int) := by omega
  have b4 : (128 * ((p : Int) + (m : Int))).toNat = 128 * (p + m) := by omega
  have z5 : 128 * (p + m) - 128 * p = 128 * m := by omega
  clear e1 e2 e3 hpart
  go_enter Tryd.func55, Tryd.ntmps55
  go_wp2_with (go_at_call 52; go_must (refine kc.mono ?_; rintro e w1 ⟨v1, rfl, H1⟩))
  go_ret
  exact ⟨_, rfl, H1⟩

theorem xor_bit (x : UInt8) (j : Nat) : bits BinOp.xor IntKind.u8 (x.toNat : Int) (2 ^ j % 256) = (((x ^^^ UInt8.ofNat (2 ^ j)).toNat : Nat) : Int) := by
  have h := u8_xor_nat x.toNat (2 ^ j % 256) x.toNat_lt (Nat.mod_lt _ (by omega))
  rw [UInt8.toNat_xor, UInt8.toNat_ofNat']
  rw [show ((2 : Int) ^ j % 256) = ((2 ^ j % 256 : Nat) : Int) by simp]
  exact h
theorem turned_run {b : List UInt8} {n : Nat} (hb : b.length = 128) (hn : n < 1024) : ∃ x : UInt8, b[n / 8]? = some x ∧ turnBit b n = b.set (n / 8) (x ^^^ UInt8.ofNat (2 ^ (n % 8))) := by
  refine ⟨b[n / 8]'(by omega), List.getElem?_eq_getElem _, ?_⟩
  unfold turnBit
  rw [List.getD_eq_getElem?_getD, List.getElem?_eq_getElem (by omega)]
  rfl
set_option maxHeartbeats 1000000 in
set_option maxRecDepth 100000 in
theorem rogue_turned {v : Value} {b : List UInt8} {w : World} {S : Nat → Prop} (n : Nat) (hn : n < 1024) (hb : b.length = 128) (H : Sep w [Row 5 1 v 128 (bvs b)] S) :
    Calls Tryd.prog 56 #[v, .int .i64 n] w fun e w' => e = .returned v ∧ St S w w' [Row 5 1 v 128 (bvs (turnBit b n))] := by
  have H0 : St S w w [Row 5 1 v 128 (bvs b)] := St.refl H
  obtain ⟨x, hx, ht⟩ := turned_run hb hn
  obtain ⟨g, cap, rfl⟩ := row_form (H0.row 0 rfl) (N := 128) rfl (by omega)
  have c0 := H0.rowCell 0 (n / 8) rfl (show (bvs b)[n / 8]? = some (bv x) by simp [bvs, hx])
  have f0 := H0.rowFree 0 (n / 8) rfl
  have q1 : (n : Int).tdiv 8 = ((n / 8 : Nat) : Int) := by rw [Int.tdiv_eq_ediv_of_nonneg (by omega)]; rfl
  have q2 : (n : Int).tmod 8 = ((n % 8 : Nat) : Int) := by rw [Int.tmod_eq_emod_of_nonneg (by omega)]; rfl
  rw [ht]
  unfold bv at c0
  have hk : n / 8 < 128 := by omega
  have hk2 : ((n / 8 : Nat) : Int) < 128 := by omega
  have hk3 : n % 8 < 8 := Nat.mod_lt _ (by omega)
  obtain ⟨k, hkk⟩ : ∃ k, n / 8 = k := ⟨_, rfl⟩
  obtain ⟨j, hj⟩ : ∃ j, n % 8 = j := ⟨_, rfl⟩
  rw [hkk] at c0 f0 q1 hk hk2 hx ⊢
  rw [hj] at q2 hk3 ⊢
  go_enter Tryd.func56, Tryd.ntmps56
  go_upto_region 1 with (fail)
  go_region
  rw [xor_bit]
  have H1 : St S w _ [_] := (H0.rowSet 0 rfl k (.int .u8 ((x ^^^ UInt8.ofNat (2 ^ j)).toNat : Nat))).drew
  go_wp2
  go_ret
  refine ⟨rfl, ?_⟩
  rw [show bvs (b.set k (x ^^^ UInt8.ofNat (2 ^ j))) = (bvs b).set k (.int .u8 ((x ^^^ UInt8.ofNat (2 ^ j)).toNat : Nat)) by simp [bvs, List.map_set, bv]]
  exact H1

end Go.Proofs.YtaafedpjifaghaaDoor

/- The walks of the rogue: New, in, lay. Conditions: its blocks lie as its maker lays them; what is handed in can be read. -/
set_option linter.unusedVariables false
set_option linter.unusedSimpArgs false
namespace Go.Proofs.YtaafedpjifaghaaDoor
open Go.RowKit

/-- The rogue's own block. -/
def RogB (b bs : Nat) (iv : Value) : SP := Blk b #[.pointer (some ⟨bs, 0, none⟩), iv] 63

theorem rogue_new (bs : Nat) (w : World) : Calls Tryd.prog 8 #[.pointer (some ⟨bs, 0, none⟩)] w fun e w' => ∃ b, e = .returned (.tuple #[.pointer (some ⟨b, 0, none⟩), .int .i64 0]) ∧ St (fun _ => False) w w' [RogB b bs (.slice none 0 0)] := by
  have H0 : St (fun _ => False) w _ [_] := (St.nil (fun _ => False) w).alloc #[.pointer (some ⟨bs, 0, none⟩), .slice none 0 0] 63
  go_enter Tryd.func8, Tryd.ntmps8
  go_wp2
  go_ret2
  exact ⟨_, rfl, H0⟩
theorem rogue_new_nil (w : World) : Calls Tryd.prog 8 #[.pointer none] w fun e w' => e = .returned (.tuple #[.pointer none, .int .i64 1]) ∧ w' = w := by
  go_enter Tryd.func8, Tryd.ntmps8
  go_wp2
  go_ret2
  exact ⟨rfl, rfl⟩
theorem rogue_images {b bs n cap : Nat} {ao : Option Addr} {w : World} {L : List SP} {S : Nat → Prop} (H : Sep w (RogB b bs (.slice ao n cap) :: L) S) : Calls Tryd.prog 16 #[.pointer (some ⟨b, 0, none⟩)] w fun e w' => e = .returned (.int .i64 n) ∧ w' = w := by
  have c1 := (St.refl H).cell 0 1 rfl rfl
  go_enter Tryd.func16, Tryd.ntmps16
  go_wp2
  go_ret
  exact ⟨rfl, rfl⟩
set_option maxHeartbeats 1000000 in
set_option maxRecDepth 100000 in
theorem rogue_in {b bs : Nat} {iv : Value} {m : StM} (at' n : Int) {w : World} {L : List SP} {S : Nat → Prop} (hg : m.Good) (H : Sep w (RogB b bs iv :: StoreAt bs m :: L) S) :
    Calls Tryd.prog 26 #[.pointer (some ⟨b, 0, none⟩), .int .i64 at', .int .i64 n] w fun e w' => e = .returned (.bool (decide (m.among at' n))) ∧ w' = w := by
  have hcnt := hg.count
  have c0 : w.cell? ⟨b, 0, none⟩ = some (.pointer (some ⟨bs, 0, none⟩)) := (St.refl H).cell 0 0 rfl rfl
  have kl := store_len ((St.refl H).front 1 rfl).sep
  obtain ⟨N, hN⟩ : ∃ N, m.last.length = N := ⟨_, rfl⟩
  have key : decide (m.among at' n) = (decide (0 ≤ at') && (decide (1 ≤ n) && decide (at' ≤ (N : Int) - n))) := by simp [StM.among, hN]
  rw [key]
  rw [hN] at kl hcnt
  clear key
  by_cases h1 : 0 ≤ at'
  · by_cases h2 : 1 ≤ n
    · by_cases h3 : n ≤ N
      · have hw : IntKind.i64.wrap ((N : Int) - n) = N - n := by rw [IntKind.wrap_i64]; omega
        have e : (decide (0 ≤ at') && (decide (1 ≤ n) && decide (at' ≤ (N : Int) - n))) = decide (at' ≤ (N : Int) - n) := by simp [h1, h2]
        rw [e]
        have d1 : decide (0 ≤ at') = true := by simpa using h1
        have d2 : decide (1 ≤ n) = true := by simpa using h2
        have d3 : decide (n ≤ (N : Int)) = true := by simpa using h3
        clear h1 h2 h3 e
        go_enter Tryd.func26, Tryd.ntmps26
        go_wp2_with (go_at_call 51; go_must (refine kl.mono ?_; rintro e w1 ⟨rfl, rfl⟩))
        go_ret
        exact ⟨rfl, rfl⟩
      · have e : (decide (0 ≤ at') && (decide (1 ≤ n) && decide (at' ≤ (N : Int) - n))) = false := by simp; omega
        rw [e]
        have d1 : decide (0 ≤ at') = true := by simpa using h1
        have d2 : decide (1 ≤ n) = true := by simpa using h2
        have d3 : decide (n ≤ (N : Int)) = false := by simpa using h3
        clear h1 h2 e
        go_enter Tryd.func26, Tryd.ntmps26
        go_wp2_with (go_at_call 51; go_must (refine kl.mono ?_; rintro e w1 ⟨rfl, rfl⟩))
        go_ret
        exact ⟨rfl, rfl⟩
    · have e : (decide (0 ≤ at') && (decide (1 ≤ n) && decide (at' ≤ (N : Int) - n))) = false := by simp [h2]
      rw [e]
      have d1 : decide (0 ≤ at') = true := by simpa using h1
      have d2 : decide (1 ≤ n) = false := by simpa using h2
      clear e
      go_enter Tryd.func26, Tryd.ntmps26
      go_wp2
      go_ret
      exact ⟨rfl, rfl⟩
  · have e : (decide (0 ≤ at') && (decide (1 ≤ n) && decide (at' ≤ (N : Int) - n))) = false := by simp [h1]
    rw [e]
    have d1 : decide (0 ≤ at') = false := by simpa using h1
    clear e
    go_enter Tryd.func26, Tryd.ntmps26
    go_wp2
    go_ret
    exact ⟨rfl, rfl⟩

theorem drop_flat {l : List (List UInt8)} (h : ∀ x ∈ l, x.length = 128) (k : Nat) : (l.drop k).flatten.length = 128 * (l.length - k) := by
  rw [flat_len (fun x hx => h x (List.mem_of_mem_drop hx)), List.length_drop, Nat.mul_comm]
theorem ro_nil (S : Nat → Prop) (w : World) (ad : Option Addr) (cap : Nat) : BytesRO S w (.slice ad 0 cap) [] := ⟨ad, cap, rfl, Nat.zero_le _, fun h => absurd rfl h⟩
theorem BytesRO.lent {S S1 : Nat → Prop} {w0 w : World} {v : Value} {bs : List UInt8} (hv : BytesRO S w0 v bs) (hk : Kept S w0 w) (hs : ∀ k, S1 k → S k ∨ w0.heap.size ≤ k) : BytesRO S1 w v bs := by
  obtain ⟨ad, cap, e1, e2, e3⟩ := hv
  refine ⟨ad, cap, e1, e2, fun hl => ?_⟩
  obtain ⟨b, o, g1, g2, g3, g4⟩ := e3 hl
  exact ⟨b, o, g1, Nat.lt_of_lt_of_le g2 hk.size, fun h => (hs b h).elim g3 (fun h => by omega), fun i hi => (World.cell?_of_block (w := w0) (hk.block b g2 g3)).trans (g4 i hi)⟩
theorem lay_ok {m : StM} {p : Int} {x : List UInt8} (h0 : 0 ≤ p) (h1 : p < m.last.length) (hx : x.length = 128) : (m.lay p x).1 = true := by
  unfold StM.lay
  rw [if_pos ⟨by simp [StM.inn, h0, h1], hx⟩]
set_option maxHeartbeats 2000000 in
set_option maxRecDepth 100000 in
theorem rogue_lay {b bs : Nat} {iv : Value} {m : StM} (p : Nat) {v : Value} {bks : List (List UInt8)} {w : World} {S : Nat → Prop} (hg : m.Good) (hf : ∀ x ∈ bks, x.length = 128) (hp : p + bks.length ≤ m.last.length) (hv : BytesRO S w v bks.flatten) (H : Sep w [RogB b bs iv, StoreAt bs m] S) :
    Calls Tryd.prog 27 #[.pointer (some ⟨b, 0, none⟩), .int .i64 p, v] w fun e w' => e = .returned (.bool true) ∧ St S w w' [RogB b bs iv, StoreAt bs (m.lays p bks)] := by
  obtain ⟨ad, cap, rfl, hcap, _⟩ := id hv
  have hl0 : bks.flatten.length = 128 * bks.length := by have := drop_flat hf 0; simpa using this
  have hvh := Lib.hid hv
  have hcnt := hg.count
  rw [hl0] at hcap ⊢
  clear hv
  go_enter Tryd.func27, Tryd.ntmps27
  go_upto_block 1 with (fail)
  go_loopw [2, 7] (fun u j wr => ∃ (k : Nat) (au : Option Addr) (cu : Nat), k ≤ bks.length ∧ j = .int .i64 k ∧ u = .slice au (128 * (bks.length - k)) cu ∧ Hid (BytesRO S w u (bks.drop k).flatten) ∧
    St S w wr [RogB b bs iv, StoreAt bs (m.lays p (bks.take k))]) (fun _ j _ => bks.length - (intOf j).toNat)
  case atStart => exact ⟨0, ad, cap, by omega, rfl, rfl, Lib.hid (by have := hvh.out; rw [hl0] at this; simpa using this), St.refl H⟩
  case round =>
    obtain ⟨k, au, cu, hk, rfl, rfl, hr, HL⟩ := hrel
    by_cases hlt : k < bks.length
    · obtain ⟨x, hx⟩ : ∃ x, bks[k]? = some x := ⟨_, List.getElem?_eq_getElem hlt⟩
      have hxl := hf x (List.mem_of_getElem? hx)
      have hcons : bks.drop k = x :: bks.drop (k + 1) := by
        rw [List.drop_eq_getElem_cons hlt]
        congr 1
        exact (List.getElem?_eq_some_iff.1 hx).2
      have hdl := drop_flat hf k
      obtain ⟨n1, hn1⟩ : ∃ n1, bks.length - k = n1 + 1 := ⟨bks.length - k - 1, by omega⟩
      have hn2 : bks.length - (k + 1) = n1 := by omega
      rw [hn1] at hr hdl ⊢
      obtain ⟨au', cu', e, hcu, hau⟩ := id hr.out
      simp only [Value.slice.injEq] at e
      obtain ⟨rfl, e0, rfl⟩ := e
      clear e0
      obtain ⟨gb, o, rfl, hgb, hgS, _⟩ := hau (by intro h; rw [h] at hdl; simp at hdl)
      clear hau
      rw [hdl] at hcu
      have r1 : BytesRO S w (.slice (some ⟨gb, o, none⟩) 128 cu) x := by
        have := BytesRO.part hr.out hdl (i := 0) (k := 128) (by omega) cu (by omega)
        rw [hcons] at this
        simpa [hxl] using this
      have hR := Lib.hid hr.out
      have hmk := lays_good p (bks.take k) m hg
      have hst : (m.lays p (bks.take k)).lay ((p : Int) + k) x = (true, m.lays p (bks.take (k + 1))) := by
        have e1 : m.lays p (bks.take (k + 1)) = ((m.lays p (bks.take k)).lay ((p : Int) + k) x).2 := by
          rw [take_snoc' hx, lays_snoc, List.length_take, Nat.min_eq_left (by omega)]
        have e2 := lay_ok (m := m.lays p (bks.take k)) (p := (p : Int) + k) (x := x) (by omega) (by rw [lays_len]; omega) hxl
        rw [e1, ← e2]
      have w1 : IntKind.i64.wrap ((p : Int) + (k : Int)) = (p : Int) + (k : Int) := by rw [IntKind.wrap_i64]; omega
      have c0 : wr.cell? ⟨b, 0, none⟩ = some (.pointer (some ⟨bs, 0, none⟩)) := HL.cell 0 0 rfl rfl
      have e5 : 128 * (n1 + 1) = 128 * n1 + 128 := by omega
      have e6 : (128 : Int) ≤ (cu : Int) := by omega
      have e7 : ((128 * (n1 + 1) : Nat) : Int) = 128 * (n1 : Int) + 128 := by omega
      clear hdl hcons hx
      go_upto_region 4 with (fail)
      refine wp_calm_tail 9 (fun w' => St S w w' [RogB b bs iv, StoreAt bs (m.lays p (bks.take k))]) (by kernel_rfl) (by kernel_rfl) (HL.drew) ?_
      simp only [List.take_succ_cons, List.take_zero, List.drop_succ_cons, List.drop_zero]
      iterate 9 first
        | (apply calm_pass
           · rfl
           intro K hK
           go_simp
           refine hK _ ?_
           clear hK K)
        | (apply calm_step
           · rfl
           · intro w1 h1
             have c0 : w1.cell? ⟨b, 0, none⟩ = some (.pointer (some ⟨bs, 0, none⟩)) := h1.cell 0 0 rfl rfl
             first
               | (go_simp
                  first
                    | rfl
                    | exact ⟨rfl, h1⟩
                 )
           intro K hK
           go_simp
           refine hK _ ?_
           clear hK K)
      refine calm_nil ?_
      intro w5 H5
      obtain ⟨S1, K1, hS1, _, G1⟩ := St.call2 (l1 := [StoreAt bs (m.lays p (bks.take k))]) (l2 := [RogB b bs iv]) (H5.pick [1, 0])
      have kl := store_lay (at' := (p : Int) + k) hmk (r1.lent H5.kept hS1) K1
      rw [hst] at kl
      have hs2 := Lib.hid hst
      clear hst
      go_wp2_with (go_at_call 23; go_must (refine kl.mono ?_; rintro e w6 ⟨rfl, H6⟩; have H7 : St S w w6 [RogB b bs iv, StoreAt bs (m.lays p (bks.take (k + 1)))] := (G1 _ _ H6).pick [1, 0]))
      go_roundw
      case rel =>
        refine ⟨k + 1, if cu = 128 then some ⟨gb, o, none⟩ else some ⟨gb, o + 128, none⟩, cu - 128, by omega, by go_num, by rw [hn2], ?_, H7⟩
        refine Lib.hid ?_
        have hd : bks.drop (k + 1) = (bks.drop k).drop 1 := by simp
        have hfl : (bks.drop (k + 1)).flatten = ((bks.drop k).flatten.drop 128).take (128 * n1) := by
          have hl := drop_flat hf k
          rw [hd, show (128 : Nat) = 1 * 128 from rfl, ← flat_drop (fun x hx => hf x (List.mem_of_mem_drop hx)), List.take_of_length_le]
          rw [← hd, drop_flat hf, hn2]
          omega
        by_cases h0 : n1 = 0
        · subst h0
          have : (bks.drop (k + 1)).flatten = [] := by rw [hfl]; simp
          rw [this]
          exact ro_nil _ _ _ _
        · rw [if_neg (by omega), hfl]
          have hl := drop_flat hf k
          rw [hn1] at hl
          exact BytesRO.part hR.out hl (by omega) _ (by omega)
      case measure => simp [intOf]; omega
    · obtain rfl : k = bks.length := by omega
      have e0 : bks.length - bks.length = 0 := by omega
      rw [e0]
      rw [List.take_length] at HL
      go_wp2
      go_ret
      exact ⟨rfl, HL⟩

end Go.Proofs.YtaafedpjifaghaaDoor

/- A region that draws its order, with calls that write or that make memory: its operations in a given order (small ones first; a call stands alone when it is ready) tell of every order. Laws over any program. -/
set_option linter.unusedVariables false
set_option linter.unusedSimpArgs false
namespace Go.Proofs.YtaafedpjifaghaaDoor
open Go.RowKit

section
variable {P : Program} {ops : Array Oper} {md : Region.Mode}

/-- The operation came to a value and a new invariant. -/
def CameV (P : Program) (V : Value → (World → Prop) → Prop) : Result Next → Prop
  | .ok (.value u) w' => ∃ I', V u I' ∧ I' w'
  | .ok .skip w' => ∃ I', V undef I' ∧ I' w'
  | .ok (.enter f args) w' => Calls P f args w' fun e w'' => ∃ v I', e = .returned v ∧ V v I' ∧ I' w''
  | _ => False
theorem cameV_value (V : Value → (World → Prop) → Prop) (u : Value) (w' : World) : CameV P V (.ok (.value u) w') = ∃ I', V u I' ∧ I' w' := rfl
theorem cameV_skip (V : Value → (World → Prop) → Prop) (w' : World) : CameV P V (.ok .skip w') = ∃ I', V undef I' ∧ I' w' := rfl
theorem cameV_enter (V : Value → (World → Prop) → Prop) (f : Nat) (args : Array Value) (w' : World) : CameV P V (.ok (.enter f args) w') = Calls P f args w' (fun e w'' => ∃ v I', e = .returned v ∧ V v I' ∧ I' w'') := rfl

def StepTo (P : Program) (ops : Array Oper) (I : World → Prop) (o : Oper) (V : Value → (World → Prop) → Prop) (a : Act) : Prop :=
  (Region.wanted o (yielded ops a.tmps) = true ∧ ∀ w, I w → CameV P V ((execOp a.eval o).run P w)) ∨ (Region.wanted o (yielded ops a.tmps) = false ∧ V undef I)
theorem StepTo.same {I : World → Prop} {o : Oper} {V : Value → (World → Prop) → Prop} {a a' : Act} (h : StepTo P ops I o V a) (he : execOp a'.eval o = execOp a.eval o) (hw : Region.wanted o (yielded ops a'.tmps) = Region.wanted o (yielded ops a.tmps)) : StepTo P ops I o V a' := by
  unfold StepTo at *
  rw [he, hw]
  exact h
theorem StepTo.op {I : World → Prop} {i : Nat} {o : Oper} {V : Value → (World → Prop) → Prop} {a : Act} {w : World} {K : Act → World → Prop} {Q : Exit → Act → World → Prop} (hi : ops[i]? = some o) (h : StepTo P ops I o V a) (hw : I w)
    (hK : ∀ v I', V v I' → ∀ w, I' w → K (a.put o.dst v) w) : wpOp P ops Q i K a w := by
  unfold wpOp
  simp only [hi]
  rcases h with ⟨h1, h2⟩ | ⟨h1, h2⟩
  · rw [if_pos h1]
    left
    have h3 := h2 w hw
    unfold Oper.wp
    generalize (execOp a.eval o).run P w = r at h3 ⊢
    cases r with
    | ok n w' =>
      cases n <;> simp only [CameV] at h3 <;> simp only [Oper.upon]
      case value u => obtain ⟨I', h4, h5⟩ := h3; exact hK _ _ h4 _ h5
      case skip => obtain ⟨I', h4, h5⟩ := h3; exact hK _ _ h4 _ h5
      case enter f args => exact h3.mono fun e w'' ⟨v, I', he, h4, h5⟩ => by subst he; exact hK _ _ h4 _ h5
    | halt x w' => simp only [CameV] at h3
  · rw [if_neg (by simp [h1])]
    exact hK _ _ h2 _ hw

/-- One value in every world of every invariant of the class. -/
def SmallOp (P : Program) (ops : Array Oper) (C : (World → Prop) → Prop) (o : Oper) (v : Value) (a : Act) : Prop :=
  (Region.wanted o (yielded ops a.tmps) = true ∧ ∀ I, C I → ∀ w, I w → CameTo P I v ((execOp a.eval o).run P w)) ∨ (Region.wanted o (yielded ops a.tmps) = false ∧ v = undef)
theorem SmallOp.same {C : (World → Prop) → Prop} {o : Oper} {v : Value} {a a' : Act} (h : SmallOp P ops C o v a) (he : execOp a'.eval o = execOp a.eval o) (hw : Region.wanted o (yielded ops a'.tmps) = Region.wanted o (yielded ops a.tmps)) : SmallOp P ops C o v a' := by
  unfold SmallOp at *
  rw [he, hw]
  exact h
theorem SmallOp.step {C : (World → Prop) → Prop} {o : Oper} {v : Value} {a : Act} (h : SmallOp P ops C o v a) {I : World → Prop} (hI : C I) : StepTo P ops I o (fun u I' => u = v ∧ I' = I) a := by
  rcases h with ⟨h1, h2⟩ | ⟨h1, rfl⟩
  · refine .inl ⟨h1, fun w hw => ?_⟩
    have h3 := h2 I hI w hw
    generalize (execOp a.eval o).run P w = r at h3 ⊢
    cases r with
    | ok n w' =>
      cases n <;> simp only [CameTo] at h3 <;> simp only [CameV]
      case value u => exact ⟨I, ⟨h3.1, rfl⟩, h3.2⟩
      case skip => exact ⟨I, ⟨h3.1.symm, rfl⟩, h3.2⟩
      case enter f args => exact h3.mono fun e w'' ⟨he, hi⟩ => ⟨v, I, he, ⟨rfl, rfl⟩, hi⟩
    | halt x w' => simp only [CameTo] at h3
  · exact .inr ⟨h1, rfl, rfl⟩

def AnyI (P : Program) (md : Region.Mode) (ops : Array Oper) (Q : Act → World → Prop) (C : (World → Prop) → Prop) : Nat → Array Bool → Act → (World → Prop) → Prop
  | 0, listed, a, I => Region.ready md ops listed = [] ∧ ∀ w, I w → Q a w
  | n + 1, listed, a, I => (Region.ready md ops listed = [] → ∀ w, I w → Q a w) ∧
    ∀ i ∈ Region.ready md ops listed, ∃ o V, ops[i]? = some o ∧ StepTo P ops I o V a ∧ ∀ v I', V v I' → C I' ∧ AnyI P md ops Q C n (listed.setIfInBounds i true) (a.put o.dst v) I'
theorem AnyI.any {Q : Act → World → Prop} {Q' : Exit → Act → World → Prop} {C : (World → Prop) → Prop} (hQ : ∀ a w, Q a w → Q' .normal a w) : ∀ (n : Nat) (listed : Array Bool) (a : Act) (I : World → Prop) (w : World), I w → AnyI P md ops Q C n listed a I → wpAny P md ops Q' n listed a w
  | 0, _, _, _, _, hw, h => ⟨h.1, hQ _ _ (h.2 _ hw)⟩
  | n + 1, _, _, _, _, hw, h => ⟨fun h0 => hQ _ _ (h.1 h0 _ hw), fun i hi => by
      obtain ⟨o, V, h1, h2, h3⟩ := h.2 i hi
      exact h2.op h1 hw (fun v I' hv w' hw' => AnyI.any hQ n _ _ _ w' hw' (h3 v I' hv).2)⟩
theorem AnyI.mono {Q : Act → World → Prop} {C C' : (World → Prop) → Prop} (hC : ∀ I, C' I → C I) : ∀ {n : Nat} {listed : Array Bool} {a : Act} {I : World → Prop}, AnyI P md ops Q C' n listed a I → AnyI P md ops Q C n listed a I
  | 0, _, _, _, h => h
  | n + 1, _, _, _, h => ⟨h.1, fun i hi => by
      obtain ⟨o, V, h1, h2, h3⟩ := h.2 i hi
      exact ⟨o, V, h1, h2, fun v I' hv => ⟨hC _ (h3 v I' hv).1, AnyI.mono hC (h3 v I' hv).2⟩⟩⟩

/-- A small one that may come first may be taken first. -/
theorem AnyI.first {Q : Act → World → Prop} {C : (World → Prop) → Prop} {i : Nat} {oi : Oper} {v : Value} (hi : ops[i]? = some oi) (hsel : ∀ (j : Nat) (o : Oper) cs b, ops[j]? = some o → o.op ≠ .select cs b) : ∀ (n : Nat) (listed : Array Bool) (a : Act) (I : World → Prop), C I →
    (∀ j oj, ops[j]? = some oj → j ≠ i → listed.getD j true = false → (∀ e ∈ oj.after, Region.binds md e = true → e.on ≠ i) → oi.apart ops oj = true) →
    i ∈ Region.ready md ops listed → SmallOp P ops C oi v a → AnyI P md ops Q C n (listed.setIfInBounds i true) (a.put oi.dst v) I → AnyI P md ops Q C (n + 1) listed a I := by
  intro n
  induction n with
  | zero =>
    intro listed a I hI _ hr hy H
    refine ⟨fun h => (by rw [h] at hr; cases hr), fun j hj => ?_⟩
    by_cases hji : j = i
    · subst hji
      refine ⟨oi, _, hi, hy.step hI, ?_⟩
      rintro v' I' ⟨rfl, rfl⟩
      exact ⟨hI, H⟩
    · have := ready_mono hj hji
      rw [H.1] at this
      cases this
  | succ n ih =>
    intro listed a I hI hfree hr hy H
    refine ⟨fun h => (by rw [h] at hr; cases hr), fun j hj => ?_⟩
    by_cases hji : j = i
    · subst hji
      refine ⟨oi, _, hi, hy.step hI, ?_⟩
      rintro v' I' ⟨rfl, rfl⟩
      exact ⟨hI, H⟩
    · obtain ⟨oj, V, hoj, hyj, Hj⟩ := H.2 j (ready_mono hj hji)
      obtain ⟨hjun, oj', hoj', hall⟩ := mem_ready.1 hj
      obtain rfl : oj' = oj := by rw [hoj] at hoj'; exact (Option.some.inj hoj').symm
      have hnot : ∀ e ∈ oj'.after, Region.binds md e = true → e.on ≠ i := fun e he hb heq => by
        have h1 := hall e he hb
        have h0 := (mem_ready.1 hr).1
        rw [heq] at h1
        rcases Nat.lt_or_ge i listed.size with h' | h'
        · simp [h'] at h0 h1; rw [h0] at h1; cases h1
        · simp [Array.getElem?_eq_none h'] at h1
      obtain ⟨h1, h2, h3⟩ := Oper.apart_spec (hfree j oj' hoj hji hjun hnot)
      have hyj' : StepTo P ops I oj' V a := hyj.same (execOp_put oj' (fun cs b => hsel j oj' cs b hoj) a oi.dst v h1).symm (wanted_put oj' a oi.dst v h1).symm
      refine ⟨oj', V, hoj, hyj', fun u I' hu => ⟨(Hj u I' hu).1, ?_⟩⟩
      have hyi' : SmallOp P ops C oi v (a.put oj'.dst u) := hy.same (execOp_put oi (fun cs b => hsel i oi cs b hi) a oj'.dst u h3) (wanted_put oi a oj'.dst u h3)
      refine ih _ _ I' (Hj u I' hu).1 (fun k ok hk hki hun hno => ?_) (ready_mono hr (Ne.symm hji)) hyi' ?_
      · refine hfree k ok hk hki ?_ hno
        by_cases hjk : j = k
        · subst hjk; exact hjun
        · rw [getD_set_ne true hjk] at hun; exact hun
      · rw [Array.setIfInBounds_comm _ _ hji, ← Act.put_comm a v u h2]
        exact (Hj u I' hu).2

/-- The operations in this order: (i, false) small, (i, true) alone. -/
def Script (P : Program) (ops : Array Oper) (Q : Act → World → Prop) : List (Nat × Bool) → ((World → Prop) → Prop) → Act → (World → Prop) → Prop
  | [], _, a, I => ∀ w, I w → Q a w
  | (i, false) :: rest, C, a, I => ∃ o v, ops[i]? = some o ∧ SmallOp P ops C o v a ∧ Script P ops Q rest C (a.put o.dst v) I
  | (i, true) :: rest, C, a, I => ∃ o V, ops[i]? = some o ∧ StepTo P ops I o V a ∧ ∀ v I', V v I' → ∃ C', (∀ I, C' I → C I) ∧ C' I' ∧ Script P ops Q rest C' (a.put o.dst v) I'
def scriptB (md : Region.Mode) (ops : Array Oper) : List (Nat × Bool) → Array Bool → Bool
  | [], listed => (Region.ready md ops listed).isEmpty
  | (i, false) :: rest, listed => (Region.ready md ops listed).contains i && Region.free md ops listed i && scriptB md ops rest (listed.setIfInBounds i true)
  | (i, true) :: rest, listed => decide (Region.ready md ops listed = [i]) && scriptB md ops rest (listed.setIfInBounds i true)
theorem Script.any {Q : Act → World → Prop} (hs : Region.noSelect ops = true) : ∀ (l : List (Nat × Bool)) (C : (World → Prop) → Prop) (listed : Array Bool) (a : Act) (I : World → Prop), C I → scriptB md ops l listed = true → Script P ops Q l C a I → AnyI P md ops Q C l.length listed a I
  | [], _, _, _, _, _, hB, h => ⟨by simpa [scriptB] using hB, h⟩
  | (i, false) :: l, C, listed, a, I, hC, hB, ⟨o, v, h0, hy, h⟩ => by
    simp only [scriptB, Bool.and_eq_true] at hB
    obtain ⟨⟨hr, hf⟩, hB'⟩ := hB
    exact AnyI.first h0 (Region.noSelect_spec hs) l.length listed a I hC (Region.free_spec h0 hf) (by simpa using hr) hy (Script.any hs l C _ _ I hC hB' h)
  | (i, true) :: l, C, listed, a, I, hC, hB, ⟨o, V, h0, hy, h⟩ => by
    simp only [scriptB, Bool.and_eq_true, decide_eq_true_eq] at hB
    obtain ⟨hr, hB'⟩ := hB
    refine ⟨fun h => (by rw [hr] at h; cases h), fun j hj => ?_⟩
    rw [hr] at hj
    obtain rfl : j = i := by simpa using hj
    refine ⟨o, V, h0, hy, fun v I' hv => ?_⟩
    obtain ⟨C', h1, h2, h3⟩ := h v I' hv
    exact ⟨h1 _ h2, AnyI.mono h1 (Script.any hs l C' _ _ I' h2 hB' h3)⟩

/-- A REGION THAT DRAWS, by a script. -/
theorem wp_script {id : Nat} {Q : Exit → Act → World → Prop} {a : Act} {w : World} {l : List Oper} (s : List (Nat × Bool)) (C : (World → Prop) → Prop) (I : World → Prop) (hm : P.follows .mixedOrders = true) (hl : s.length = l.length) (hs : Region.noSelect l.toArray = true)
    (hB : scriptB .any l.toArray s (Array.replicate l.toArray.size false) = true) (h0 : I w.drew) (hC : C I) (h : Script P l.toArray (fun a w => Q .normal a w) s C a I) : (Code.region id l.toArray true).wp P Q a w := by
  refine wp_region_any hm ?_
  have := AnyI.any (Q' := Q) (fun _ _ h => h) _ _ _ _ _ h0 (Script.any hs s C _ a I hC hB h)
  rwa [hl] at this

variable {Q : Act → World → Prop} {rest : List (Nat × Bool)} {C : (World → Prop) → Prop} {a : Act} {I : World → Prop} {i : Nat} {o : Oper}
theorem script_nil (h : ∀ w, I w → Q a w) : Script P ops Q [] C a I := h
theorem script_step (ho : ops[i]? = some o) (hw : Region.wanted o (yielded ops a.tmps) = true) {v : Value} (h1 : ∀ I, C I → ∀ w, I w → CameTo P I v ((execOp a.eval o).run P w))
    (h : ∀ K : Act → Prop, (∀ a, Script P ops Q rest C a I → K a) → K (a.put o.dst v)) : Script P ops Q ((i, false) :: rest) C a I := ⟨o, v, ho, .inl ⟨hw, h1⟩, h _ (fun _ h => h)⟩
theorem script_pass (ho : ops[i]? = some o) (hw : Region.wanted o (yielded ops a.tmps) = false)
    (h : ∀ K : Act → Prop, (∀ a, Script P ops Q rest C a I → K a) → K (a.put o.dst undef)) : Script P ops Q ((i, false) :: rest) C a I := ⟨o, undef, ho, .inr ⟨hw, rfl⟩, h _ (fun _ h => h)⟩
theorem script_big (V : Value → (World → Prop) → Prop) (ho : ops[i]? = some o) (hw : Region.wanted o (yielded ops a.tmps) = true) (h1 : ∀ w, I w → CameV P V ((execOp a.eval o).run P w))
    (h : ∀ v I', V v I' → ∃ C', (∀ I, C' I → C I) ∧ C' I' ∧ ∀ K : Act → Prop, (∀ a, Script P ops Q rest C' a I' → K a) → K (a.put o.dst v)) : Script P ops Q ((i, true) :: rest) C a I :=
  ⟨o, V, ho, .inl ⟨hw, h1⟩, fun v I' hv => by obtain ⟨C', h2, h3, h4⟩ := h v I' hv; exact ⟨C', h2, h3, h4 _ (fun _ h => h)⟩⟩
theorem script_none (hC : C I) (ho : ops[i]? = some o) (hw : Region.wanted o (yielded ops a.tmps) = false)
    (h : ∀ K : Act → Prop, (∀ a, Script P ops Q rest C a I → K a) → K (a.put o.dst undef)) : Script P ops Q ((i, true) :: rest) C a I :=
  ⟨o, fun u I' => u = undef ∧ I' = I, ho, .inr ⟨hw, rfl, rfl⟩, fun v I' hv => by obtain ⟨rfl, rfl⟩ := hv; exact ⟨C, fun _ h => h, hC, h _ (fun _ h => h)⟩⟩
end

/-- Invariants that new memory leaves be, and under which B holds. -/
def Fam (B : World → Prop) (I : World → Prop) : Prop := (∀ w w', I w → Below w.heap.size w w' → I w') ∧ ∀ w, I w → B w
theorem Fam.mono {B B' : World → Prop} (h : ∀ w, B' w → B w) (I : World → Prop) (hI : Fam B' I) : Fam B I := ⟨hI.1, fun w hw => h w (hI.2 w hw)⟩
theorem Fam.st {S : Nat → Prop} {w0 : World} {B : World → Prop} {L : List SP} (h : ∀ w, St S w0 w L → B w) : Fam B (fun w => St S w0 w L) := ⟨fun _ _ H hb => H.past hb, h⟩
theorem Fam.call {P : Program} {B I : World → Prop} {w : World} {fid : Nat} {args : Array Value} {p : Ending → Prop} (hI : Fam B I) (h : I w) (hc : Calls P fid args w fun e w2 => p e ∧ Below w.heap.size w w2) :
    Calls P fid args w fun e w2 => p e ∧ I w2 := hc.mono fun _ _ ⟨h1, h2⟩ => ⟨h1, hI.1 _ _ h h2⟩
theorem Fam.call0 {P : Program} {I : World → Prop} {w : World} {fid : Nat} {args : Array Value} {p : Ending → Prop} (h : I w) (hc : Calls P fid args w fun e w2 => p e ∧ w2 = w) :
    Calls P fid args w fun e w2 => p e ∧ I w2 := hc.mono fun _ _ ⟨h1, h2⟩ => ⟨h1, h2 ▸ h⟩

theorem hide_rel (R : Value → (World → Prop) → Prop) : ∃ V : Value → (World → Prop) → Prop, Hid (∀ v I', V v I' ↔ R v I') := ⟨R, Lib.hid fun _ _ => Iff.rfl⟩

attribute [go_sem] cameV_value cameV_skip cameV_enter
end Go.Proofs.YtaafedpjifaghaaDoor

/- A region that draws its order, by a plan: small operations first, a call alone, or two that may come in either order. Laws over any program. -/
set_option linter.unusedVariables false
set_option linter.unusedSimpArgs false
namespace Go.Proofs.YtaafedpjifaghaaDoor
open Go.RowKit

inductive Plan where
  | nil
  | small (i : Nat) (rest : Plan)
  | alone (i : Nat) (rest : Plan)
  | fork (i j : Nat) (pi pj : Plan)
def Plan.count : Plan → Nat
  | .nil => 0
  | .small _ r => r.count + 1
  | .alone _ r => r.count + 1
  | .fork _ _ a _ => a.count + 1
/-- Small ones, one behind the other. -/
def Plan.smalls (is : List Nat) (r : Plan) : Plan := is.foldr Plan.small r

section
variable {P : Program} {ops : Array Oper} {md : Region.Mode}
def PlanS (P : Program) (ops : Array Oper) (Q : Act → World → Prop) : Plan → ((World → Prop) → Prop) → Act → (World → Prop) → Prop
  | .nil, _, a, I => ∀ w, I w → Q a w
  | .small i rest, C, a, I => ∃ o v, ops[i]? = some o ∧ SmallOp P ops C o v a ∧ PlanS P ops Q rest C (a.put o.dst v) I
  | .alone i rest, C, a, I => ∃ o V, ops[i]? = some o ∧ StepTo P ops I o V a ∧ ∀ v I', V v I' → ∃ C', (∀ I, C' I → C I) ∧ C' I' ∧ PlanS P ops Q rest C' (a.put o.dst v) I'
  | .fork i j pi pj, C, a, I => (∃ o V, ops[i]? = some o ∧ StepTo P ops I o V a ∧ ∀ v I', V v I' → ∃ C', (∀ I, C' I → C I) ∧ C' I' ∧ PlanS P ops Q pi C' (a.put o.dst v) I') ∧
      ∃ o V, ops[j]? = some o ∧ StepTo P ops I o V a ∧ ∀ v I', V v I' → ∃ C', (∀ I, C' I → C I) ∧ C' I' ∧ PlanS P ops Q pj C' (a.put o.dst v) I'
def planB (md : Region.Mode) (ops : Array Oper) : Plan → Array Bool → Bool
  | .nil, listed => (Region.ready md ops listed).isEmpty
  | .small i rest, listed => (Region.ready md ops listed).contains i && Region.free md ops listed i && planB md ops rest (listed.setIfInBounds i true)
  | .alone i rest, listed => decide (Region.ready md ops listed = [i]) && planB md ops rest (listed.setIfInBounds i true)
  | .fork i j pi pj, listed => decide (Region.ready md ops listed = [i, j]) && decide (pi.count = pj.count) && planB md ops pi (listed.setIfInBounds i true) && planB md ops pj (listed.setIfInBounds j true)
theorem PlanS.any {Q : Act → World → Prop} (hs : Region.noSelect ops = true) : ∀ (p : Plan) (C : (World → Prop) → Prop) (listed : Array Bool) (a : Act) (I : World → Prop), C I → planB md ops p listed = true → PlanS P ops Q p C a I → AnyI P md ops Q C p.count listed a I
  | .nil, _, _, _, _, _, hB, h => ⟨by simpa [planB] using hB, h⟩
  | .small i l, C, listed, a, I, hC, hB, ⟨o, v, h0, hy, h⟩ => by
    simp only [planB, Bool.and_eq_true] at hB
    obtain ⟨⟨hr, hf⟩, hB'⟩ := hB
    exact AnyI.first h0 (Region.noSelect_spec hs) l.count listed a I hC (Region.free_spec h0 hf) (by simpa using hr) hy (PlanS.any hs l C _ _ I hC hB' h)
  | .alone i l, C, listed, a, I, hC, hB, ⟨o, V, h0, hy, h⟩ => by
    simp only [planB, Bool.and_eq_true, decide_eq_true_eq] at hB
    obtain ⟨hr, hB'⟩ := hB
    refine ⟨fun h => (by rw [hr] at h; cases h), fun j hj => ?_⟩
    rw [hr] at hj
    obtain rfl : j = i := by simpa using hj
    refine ⟨o, V, h0, hy, fun v I' hv => ?_⟩
    obtain ⟨C', h1, h2, h3⟩ := h v I' hv
    exact ⟨h1 _ h2, AnyI.mono h1 (PlanS.any hs l C' _ _ I' h2 hB' h3)⟩
  | .fork i j pi pj, C, listed, a, I, hC, hB, ⟨hi, hj⟩ => by
    simp only [planB, Bool.and_eq_true, decide_eq_true_eq] at hB
    obtain ⟨⟨⟨hr, hcnt⟩, hBi⟩, hBj⟩ := hB
    refine ⟨fun h => (by rw [hr] at h; cases h), fun k hk => ?_⟩
    rw [hr] at hk
    rcases (show k = i ∨ k = j by simpa using hk) with rfl | rfl
    · obtain ⟨o, V, h0, hy, h⟩ := hi
      refine ⟨o, V, h0, hy, fun v I' hv => ?_⟩
      obtain ⟨C', h1, h2, h3⟩ := h v I' hv
      exact ⟨h1 _ h2, AnyI.mono h1 (PlanS.any hs pi C' _ _ I' h2 hBi h3)⟩
    · obtain ⟨o, V, h0, hy, h⟩ := hj
      refine ⟨o, V, h0, hy, fun v I' hv => ?_⟩
      obtain ⟨C', h1, h2, h3⟩ := h v I' hv
      refine ⟨h1 _ h2, AnyI.mono h1 ?_⟩
      rw [hcnt]
      exact PlanS.any hs pj C' _ _ I' h2 hBj h3

/-- A REGION THAT DRAWS, by a plan. -/
theorem wp_plan {id : Nat} {Q : Exit → Act → World → Prop} {a : Act} {w : World} {l : List Oper} (s : Plan) (C : (World → Prop) → Prop) (I : World → Prop) (hm : P.follows .mixedOrders = true) (hl : s.count = l.length) (hs : Region.noSelect l.toArray = true)
    (hB : planB .any l.toArray s (Array.replicate l.toArray.size false) = true) (h0 : I w.drew) (hC : C I) (h : PlanS P l.toArray (fun a w => Q .normal a w) s C a I) : (Code.region id l.toArray true).wp P Q a w := by
  refine wp_region_any hm ?_
  have := AnyI.any (Q' := Q) (fun _ _ h => h) _ _ _ _ _ h0 (PlanS.any hs s C _ a I hC hB h)
  rwa [hl] at this

variable {Q : Act → World → Prop} {rest pj : Plan} {C : (World → Prop) → Prop} {a : Act} {I : World → Prop} {i j : Nat} {o o' : Oper}
theorem plan_nil (h : ∀ w, I w → Q a w) : PlanS P ops Q .nil C a I := h
theorem plan_step (ho : ops[i]? = some o) (hw : Region.wanted o (yielded ops a.tmps) = true) {v : Value} (h1 : ∀ I, C I → ∀ w, I w → CameTo P I v ((execOp a.eval o).run P w))
    (h : ∀ K : Act → Prop, (∀ a, PlanS P ops Q rest C a I → K a) → K (a.put o.dst v)) : PlanS P ops Q (.small i rest) C a I := ⟨o, v, ho, .inl ⟨hw, h1⟩, h _ (fun _ h => h)⟩
theorem plan_pass (ho : ops[i]? = some o) (hw : Region.wanted o (yielded ops a.tmps) = false)
    (h : ∀ K : Act → Prop, (∀ a, PlanS P ops Q rest C a I → K a) → K (a.put o.dst undef)) : PlanS P ops Q (.small i rest) C a I := ⟨o, undef, ho, .inr ⟨hw, rfl⟩, h _ (fun _ h => h)⟩
theorem plan_alone (V : Value → (World → Prop) → Prop) (ho : ops[i]? = some o) (hw : Region.wanted o (yielded ops a.tmps) = true) (h1 : ∀ w, I w → CameV P V ((execOp a.eval o).run P w))
    (h : ∀ v I', V v I' → ∃ C', (∀ I, C' I → C I) ∧ C' I' ∧ ∀ K : Act → Prop, (∀ a, PlanS P ops Q rest C' a I' → K a) → K (a.put o.dst v)) : PlanS P ops Q (.alone i rest) C a I :=
  ⟨o, V, ho, .inl ⟨hw, h1⟩, fun v I' hv => by obtain ⟨C', h2, h3, h4⟩ := h v I' hv; exact ⟨C', h2, h3, h4 _ (fun _ h => h)⟩⟩
theorem plan_fork (V V' : Value → (World → Prop) → Prop) (ho : ops[i]? = some o) (ho' : ops[j]? = some o') (hw : Region.wanted o (yielded ops a.tmps) = true) (hw' : Region.wanted o' (yielded ops a.tmps) = true)
    (h1 : ∀ w, I w → CameV P V ((execOp a.eval o).run P w)) (h1' : ∀ w, I w → CameV P V' ((execOp a.eval o').run P w))
    (h : ∀ v I', V v I' → ∃ C', (∀ I, C' I → C I) ∧ C' I' ∧ ∀ K : Act → Prop, (∀ a, PlanS P ops Q rest C' a I' → K a) → K (a.put o.dst v))
    (h' : ∀ v I', V' v I' → ∃ C', (∀ I, C' I → C I) ∧ C' I' ∧ ∀ K : Act → Prop, (∀ a, PlanS P ops Q pj C' a I' → K a) → K (a.put o'.dst v)) : PlanS P ops Q (.fork i j rest pj) C a I :=
  ⟨⟨o, V, ho, .inl ⟨hw, h1⟩, fun v I' hv => by obtain ⟨C', h2, h3, h4⟩ := h v I' hv; exact ⟨C', h2, h3, h4 _ (fun _ h => h)⟩⟩,
    ⟨o', V', ho', .inl ⟨hw', h1'⟩, fun v I' hv => by obtain ⟨C', h2, h3, h4⟩ := h' v I' hv; exact ⟨C', h2, h3, h4 _ (fun _ h => h)⟩⟩⟩
end

end Go.Proofs.YtaafedpjifaghaaDoor
