/- The walks of the store: Len, in, Off, Write, Read. Conditions: the store's blocks lie as its maker lays them. -/
import Derived.Test.YtbikjhmdpgoofabStoreM
import Derived.Test.YtbikjhmdpgoofabStoreZ
import Derived.Test.YtbikjhmdpgoofabArr
import Derived.Test.YtbikjhmdpgoofabGen
namespace Go.Proofs.Ytbikjhmdpgoofab
open Go.RowKit

/-- The parts of a store. -/
def storeParts (b bl br : Nat) (vw : Value) (m : StM) : List SP :=
  [StoreB b (.slice (some ⟨bl, 0, none⟩) m.last.length m.last.length) vw (.slice (some ⟨br, 0, none⟩) m.last.length m.last.length) m.calls,
   Blk bl (lastCells m.last).toArray 98, Blk br (intCells m.reads).toArray 3, Row 100 129 vw m.waits.length (waitCells m.waits)]
def StoreAt (b : Nat) (m : StM) : SP := SP.ex fun x : Nat × Nat × Value => SP.all (storeParts b x.1 x.2.1 x.2.2 m)

theorem StoreAt.out {b : Nat} {m : StM} {w : World} {l : List SP} {S : Nat → Prop} (H : Sep w (StoreAt b m :: l) S) : ∃ bl br vw, Sep w (storeParts b bl br vw m ++ l) S := by
  obtain ⟨⟨bl, br, vw⟩, H⟩ := Sep.ex_iff.1 H
  exact ⟨bl, br, vw, Sep.all_iff.1 H⟩
theorem StoreAt.mk {b : Nat} {m : StM} {w0 w : World} {l : List SP} {S : Nat → Prop} {bl br : Nat} {vw : Value} (H : St S w0 w (storeParts b bl br vw m ++ l)) : St S w0 w (StoreAt b m :: l) :=
  St.ex_iff.2 ⟨(bl, br, vw), St.all_iff.2 H⟩

theorem store_len {b : Nat} {m : StM} {w : World} {l : List SP} {S : Nat → Prop} (H : Sep w (StoreAt b m :: l) S) :
    Calls Try.prog 50 #[.pointer (some ⟨b, 0, none⟩)] w fun e w' => e = .returned (.int .i64 m.last.length) ∧ w = w' := by
  obtain ⟨bl, br, vw, H⟩ := StoreAt.out H
  have c0 := cell_blk' (H.blk 0 rfl) (i := 0) rfl
  clear H
  go_enter Try.func50, Try.ntmps50
  go_wp2
  go_ret
  exact ⟨rfl, rfl⟩

theorem store_in {b : Nat} {m : StM} {at' : Int} {w : World} {l : List SP} {S : Nat → Prop} (H : Sep w (StoreAt b m :: l) S) :
    Calls Try.prog 75 #[.pointer (some ⟨b, 0, none⟩), .int .i64 at'] w fun e w' => e = .returned (.bool (m.inn at')) ∧ w = w' := by
  by_cases h0 : 0 ≤ at'
  · have e0 : decide (0 ≤ at') = true := by simpa using h0
    have e1 : m.inn at' = decide (at' < m.last.length) := by simp [StM.inn, h0]
    rw [e1]
    clear e1
    go_enter Try.func75, Try.ntmps75
    go_wp2_with (go_at_call 50; refine (store_len H).mono ?_; rintro e w' ⟨rfl, rfl⟩)
    go_ret
    exact ⟨rfl, rfl⟩
  · have e0 : decide (0 ≤ at') = false := by simpa using h0
    have e1 : m.inn at' = false := by simp [StM.inn, h0]
    rw [e1]
    clear e1
    go_enter Try.func75, Try.ntmps75
    go_wp2
    go_ret
    exact ⟨rfl, rfl⟩

theorem store_off {b : Nat} {m : StM} {w : World} {l : List SP} {S : Nat → Prop} (H : Sep w (StoreAt b m :: l) S) :
    Calls Try.prog 53 #[.pointer (some ⟨b, 0, none⟩)] w fun e w' => e = .returned (.bool (m.calls == 0)) ∧ w = w' := by
  obtain ⟨bl, br, vw, H⟩ := StoreAt.out H
  have c0 := cell_blk' (H.blk 0 rfl) (i := 3) rfl
  clear H
  go_enter Try.func53, Try.ntmps53
  go_wp2
  go_ret
  exact ⟨rfl, rfl⟩

theorem Try.info100 : (Try.prog.info? 100).map (fun i => (i.zero, i.size, i.bytes)) = some (some (.agg ((Value.int .i64 0) :: List.replicate 128 (.int .u8 0)).toArray), 129, 136) := by kernel_rfl

def zeroWait : Value := .agg ((Value.int .i64 0) :: List.replicate 128 (.int .u8 0)).toArray
theorem size_zeroWait : zeroWait.cells.size = 129 := by
  show ((Value.int .i64 0) :: List.replicate 128 (Value.int .u8 0)).toArray.size = 129
  simp
theorem run_load128 {a : Act} {w : World} {dst : Option Tmp} {ty' : TypeId} {pos : String} {after : Array Edge} {g : Option (Nat × Bool)} {x : Operand}
    (hp : plainPtr (a.eval x) = true) (hc : hasCells w (blockOf (a.eval x)) (placeOf (a.eval x)) 128 = true) :
    (execOp a.eval ⟨dst, .load 98 x, ty', pos, after, g⟩).run Try.prog w = .ok (.value (.agg (cellsAt w (blockOf (a.eval x)) (placeOf (a.eval x)) 128).toArray)) w :=
  run_load_at Try.underlying98 rfl (by kernel_rfl) hp hc
theorem run_store128 {a : Act} {w : World} {dst : Option Tmp} {ty' : TypeId} {pos : String} {after : Array Edge} {g : Option (Nat × Bool)} {x y : Operand}
    (hp : plainPtr (a.eval x) = true) (ho : placeOf (a.eval x) = 0) (hr : rowSize w (blockOf (a.eval x)) = 128) (hv : isAggV (a.eval y) = true) (hs : (aggOf (a.eval y)).size = 128) (h1 : allOne (aggOf (a.eval y)) = true) :
    (execOp a.eval ⟨dst, .store 98 x y, ty', pos, after, g⟩).run Try.prog w = .ok .skip (w.setRow (blockOf (a.eval x)) (aggOf (a.eval y))) :=
  run_store_at (by kernel_rfl) (by omega) hp ho hr hv hs h1
theorem run_store129 {a : Act} {w : World} {dst : Option Tmp} {ty' : TypeId} {pos : String} {after : Array Edge} {g : Option (Nat × Bool)} {x y : Operand}
    (hp : plainPtr (a.eval x) = true) (ho : placeOf (a.eval x) = 0) (hr : rowSize w (blockOf (a.eval x)) = 129) (hv : isAggV (a.eval y) = true) (hs : (aggOf (a.eval y)).size = 129) (h1 : allOne (aggOf (a.eval y)) = true) :
    (execOp a.eval ⟨dst, .store 100 x y, ty', pos, after, g⟩).run Try.prog w = .ok .skip (w.setRow (blockOf (a.eval x)) (aggOf (a.eval y))) :=
  run_store_at (by kernel_rfl) (by omega) hp ho hr hv hs h1
theorem run_load129 {a : Act} {w : World} {dst : Option Tmp} {ty' : TypeId} {pos : String} {after : Array Edge} {g : Option (Nat × Bool)} {x : Operand}
    (hp : plainPtr (a.eval x) = true) (hc : hasCells w (blockOf (a.eval x)) (placeOf (a.eval x)) 129 = true) :
    (execOp a.eval ⟨dst, .load 100 x, ty', pos, after, g⟩).run Try.prog w = .ok (.value (.agg (cellsAt w (blockOf (a.eval x)) (placeOf (a.eval x)) 129).toArray)) w :=
  run_load_at Try.underlying100 rfl (by kernel_rfl) hp hc
theorem size_zero128 : Try.zeroCells98.size = 128 := by kernel_rfl
theorem size_zero129 : Try.zeroCells100.size = 129 := by kernel_rfl
theorem all_wait (x : Int × List UInt8) : allOne (waitCell x).toArray = true := Array.all_eq_true_iff_forall_mem.2 (fun v hv => by
  have hv : v ∈ waitCell x := by simpa using hv
  rcases List.mem_cons.1 hv with rfl | hv
  · rfl
  · exact one_bvs v hv)
theorem fold_wait (v : Value) (cs : List Value) (h : cs.length = 128) : List.foldl (fun (cs : Array Value) (x : Value × Nat) => cs.setIfInBounds (1 + x.snd) x.fst) (Try.zeroCells100.setIfInBounds 0 v) cs.zipIdx = (v :: cs).toArray := by
  obtain ⟨g1, g2⟩ := Great.foldl_set 1 cs 0 (Try.zeroCells100.setIfInBounds 0 v)
  have hz : Try.zeroCells100 = zeroWait.cells := by kernel_rfl
  have hs : Try.zeroCells100.size = 129 := by rw [hz]; exact size_zeroWait
  apply Array.ext_getElem?
  intro k
  rw [g2 k]
  simp only [Array.size_setIfInBounds, hs, List.getElem?_toArray, Nat.add_zero, h]
  by_cases h0 : k = 0
  · subst h0
    simp [hs]
  · by_cases h1 : k < 129
    · rw [if_pos ⟨by omega, by omega, h1⟩]
      obtain ⟨k, rfl⟩ : ∃ j, k = j + 1 := ⟨k - 1, by omega⟩
      simp
    · rw [if_neg (by omega), List.getElem?_eq_none (by simp [h]; omega), Array.getElem?_eq_none (by simp [hs]; omega)]
theorem run_one_wait {a : Act} {w : World} {dst : Option Tmp} {ty' : TypeId} {pos : String} {after : Array Edge} {g : Option (Nat × Bool)} {x : Operand}
    (hx : (aggOf (a.eval x)).size = 129) : (execOp a.eval ⟨dst, .buildSlice 93 1 #[(0, x)], ty', pos, after, g⟩).run Try.prog w = .ok (.value (.slice (some ⟨w.heap.size, 0, none⟩) 1 1)) (w.alloc (.cells (aggOf (a.eval x)) 100)) :=
  run_one_at Try.underlying93 Try.info100 (by omega) hx
attribute [local go_sem ↓] run_load128 run_one_wait
attribute [local go_sem] Value.oneCell'

set_option maxHeartbeats 1000000 in
set_option maxRecDepth 100000 in
theorem store_write {b : Nat} {m : StM} {at' : Int} {v : Value} {l : List UInt8} {w : World} {S : Nat → Prop} (hg : m.Good) (hw : m.waits.length < 1000000) (hv : BytesRO S w v l) (H : Sep w [StoreAt b m] S) :
    Calls Try.prog 47 #[.pointer (some ⟨b, 0, none⟩), .int .i64 at', v] w fun e w' => e = .returned (.int .i64 (m.write at' l).1) ∧ St S w w' [StoreAt b (m.write at' l).2] := by
  obtain ⟨ad, cap, rfl, hcap, hcell⟩ := hv
  by_cases h1 : m.inn at' = false
  · have hfin : m.write at' l = (32, m) := by simp [StM.write, h1]
    rw [hfin]
    go_enter Try.func47, Try.ntmps47
    go_wp2_with (go_at_call 75; refine (store_in H).mono ?_; rintro e w' ⟨rfl, rfl⟩)
    go_ret
    exact ⟨rfl, St.refl H⟩
  · have h1' : m.inn at' = true := by simpa using h1
    by_cases h2 : l.length ≠ 128
    · have hfin : m.write at' l = (2, m) := by simp [StM.write, h1', h2]
      rw [hfin]
      have e2 : ((l.length : Int) != 128) = true := by simp; omega
      clear h1 h2
      go_enter Try.func47, Try.ntmps47
      go_wp2_with (go_at_call 75; refine (store_in H).mono ?_; rintro e w' ⟨rfl, rfl⟩)
      go_ret
      exact ⟨rfl, St.refl H⟩
    · have h2' : l.length = 128 := by simpa using h2
      obtain ⟨cb, co, rfl, hcb, hS, hc⟩ := hcell (by rintro rfl; simp at h2')
      obtain ⟨bl, br, vw, H⟩ := StoreAt.out H
      by_cases h3 : m.calls = 0
      · have hfin : m.write at' l = (31, m) := by simp [StM.write, h1', h2', h3]
        rw [hfin]
        have he : ((spendE m.calls) == 0) = false := by simp [spendE, h3]
        have he2 : ((spendE m.calls) != 0) = true := by simp [spendE, h3]
        have e3 : spendE m.calls = 31 := by simp [spendE, h3]
        have e4 : spendC m.calls = m.calls := by simp [spendC, h3]
        have hs0 := hg.calls
        have hH := Lib.hid (StoreAt.mk (St.refl H) (l := []))
        obtain ⟨S1, K1, G1⟩ := St.call (l1 := [_]) (St.refl H)
        have hl : l.length ≤ 128 := by omega
        have hl' : 128 ≤ l.length := by omega
        have e3' := Lib.hid e3
        have e4' := Lib.hid e4
        clear h1 h2 h3 hfin h2' e3 e4
        go_enter Try.func47, Try.ntmps47
        go_wp2_with (first
          | (go_at_call 75; go_must (refine (store_in hH.out.sep).mono ?_; rintro e w' ⟨rfl, rfl⟩))
          | (go_at_call 49; go_must (refine (store_spend hs0 K1).mono ?_; rintro e w1 ⟨rfl, H2⟩; have H3 := G1 _ _ H2)))
        go_ret
        rw [e4'.out] at H3
        exact ⟨by rw [e3'.out]; rfl, StoreAt.mk H3⟩
      · have hfin : m.write at' l = (0, { m with calls := spendC m.calls, waits := m.waits ++ [(at', l)] }) := by simp [StM.write, h1', h2', h3]
        rw [hfin]
        have he : ((spendE m.calls) == 0) = true := by simp [spendE, h3]
        have he2 : ((spendE m.calls) != 0) = false := by simp [spendE, h3]
        have hs0 := hg.calls
        have hH := Lib.hid (StoreAt.mk (St.refl H) (l := []))
        obtain ⟨S1, K1, G1⟩ := St.call (l1 := [_]) (St.refl H)
        have hl : l.length ≤ 128 := by omega
        have hl' : 128 ≤ l.length := by omega
        clear h1 h2 h3 hfin h2'
        go_enter Try.func47, Try.ntmps47
        go_wp2_with (first
          | (go_at_call 75; go_must (refine (store_in hH.out.sep).mono ?_; rintro e w' ⟨rfl, rfl⟩))
          | (go_at_call 49; go_must (refine (store_spend hs0 K1).mono ?_; rintro e w1 ⟨rfl, H2⟩; have H3 : St _ _ _ [_, _, _, _] := G1 _ _ H2)))
        have hz := H3.blk_lt 0 rfl
        have c1 := H3.cell 0 1 rfl rfl
        have f1 := H3.free 0 1 rfl
        have hu := Try.underlying98
        have hlen : (bvs l).length = 128 := by rw [length_bvs]; omega
        have hi : (Try.prog.info? 98).map (·.size) = some (bvs l).length := by rw [hlen]; kernel_rfl
        have hRO : ∀ w', Kept S w w' → w'.rangeAt cb co (bvs l) := fun w' hk j u hu => by
          have hj : j < (bvs l).length := (List.getElem?_eq_some_iff.1 hu).1
          rw [length_bvs] at hj
          rw [World.cell?_of_block (w := w) (hk.block cb hcb hS), hc j hj, ← hu]
          simp [bvs, hj]
        have hr1 := hRO _ H3.kept
        have r32 := fun (w' : World) => run_arrayAt (P := Try.prog) w' 98 _ 128 (some ⟨cb, co, none⟩) l.length cap hu (by omega)
        obtain ⟨r33, r33'⟩ := cellsAt_of_range hr1 hlen
        have r34 := fold_wait (.int .i64 at') (bvs l) hlen
        have hone : ∀ u ∈ waitCell (at', l), u.oneCell' = true := by
          intro u hu
          rcases List.mem_cons.1 hu with rfl | hu
          · rfl
          · exact one_bvs u hu
        have hwl : (waitCell (at', l)).length = 1 * 129 := by simp [waitCell, hlen]
        have hcl : (Value.agg (waitCell (at', l)).toArray).cells = (waitCell (at', l)).toArray := rfl
        have hlen1 : (bvs l).length + 1 = 129 := by omega
        go_region_law (refine St.step_app (H3.skip _).drew 3 rfl rfl (.tmp 29) (.tmp 35) 93 rfl Try.underlying93 Try.info100 ⟨size_zeroWait, by omega, by omega⟩ rfl (waitCell (at', l)) rfl hwl (new_cells (waitCell (at', l)).toArray _) hone (by omega) (by omega) ?_; intro g cap2 w3 H4 hz4; have c5 := H4.cell 0 1 rfl rfl; have f5 := H4.free 0 1 rfl)
        all_goals
          have H5 := H4.set 0 rfl 1 (.slice (some ⟨g, 0, none⟩) (m.waits.length + 1) cap2)
          go_wp2
          go_ret
          refine ⟨rfl, StoreAt.mk (bl := bl) (br := br) (vw := .slice (some ⟨g, 0, none⟩) (m.waits.length + 1) cap2) ?_⟩
          simp only [storeParts, List.length_append, List.length_singleton, waitCells_snoc]
          exact H5

end Go.Proofs.Ytbikjhmdpgoofab
