/- StoreLasts: what is asked first; a store stays a store. Plain laws, and a walk without condition. -/
import Derived.Test.YtbikjhmdpgoofabStoreG
namespace Go.Proofs.Ytbikjhmdpgoofab
open Go.RowKit

theorem write_good {m : StM} (hg : m.Good) (hw : m.waits.length < 1000000) (at' : Int) (b : List UInt8) : (m.write at' b).2.Good := by
  unfold StM.write
  split
  · exact hg
  · rename_i h1
    split
    · exact hg
    · rename_i h2
      split
      · exact hg
      · obtain ⟨hA, hB⟩ : 0 ≤ at' ∧ at' < m.last.length := by simpa [StM.inn] using h1
        refine ⟨hg.count, hg.full, hg.reads, fun x hx => ?_, ?_, ?_⟩
        · rcases List.mem_append.1 hx with h | h
          · exact hg.waits x h
          · obtain rfl := List.mem_singleton.1 h
            exact ⟨hA, hB, by simpa using h2⟩
        · simp; omega
        · have := hg.calls
          simp only [spendC]
          split <;> omega
theorem write_waits {m : StM} (at' : Int) (b : List UInt8) : (m.write at' b).2.waits.length ≤ m.waits.length + 1 := by
  unfold StM.write
  repeat' split
  all_goals simp
theorem read_good {m : StM} (hg : m.Good) (at' : Int) : (m.read at').2.2.Good := by
  unfold StM.read
  split
  · exact hg
  · split
    · exact hg
    · exact ⟨hg.count, hg.full, by simpa using hg.reads, hg.waits, hg.room, hg.calls⟩
theorem settle_good {m : StM} (hg : m.Good) {lasts : Nat → Nat} (hl : ∀ i, lasts i ≤ 128) : (m.settle lasts).Good := by
  obtain ⟨h1, h2⟩ := settleFrom_good lasts m.last.length m.waits 0 m.last hg.waits rfl hg.full hl
  exact ⟨by simp only [StM.settle, h1]; exact hg.count, h2, by simp only [StM.settle, h1]; exact hg.reads, fun x hx => by simp [StM.settle] at hx, by simp [StM.settle], hg.calls⟩
theorem sync_good {m : StM} (hg : m.Good) : m.sync.2.Good := by
  unfold StM.sync
  split
  · exact hg
  · exact settle_good (spend_good hg) (fun _ => by omega)
theorem crash_good {m : StM} (hg : m.Good) (keep : List Bool) (torn cut : Int) : (m.crash keep torn cut).Good := by
  have := settle_good hg (lasts := crashLasts keep torn cut) (lastOne_le keep torn (by unfold cutOf; split <;> omega))
  exact ⟨this.count, this.full, this.reads, this.waits, this.room, by simp [StM.crash]⟩

def bb12 : List UInt8 := 7 :: (List.replicate 126 0 ++ [9])
def m12a : StM := ((newStore 2).write 1 bb12).2
def m12b : StM := m12a.crash [] 0 1
def m12c : StM := (m12b.read 1).2.2
def m12d : StM := (m12c.write 1 bb12).2
def m12e : StM := m12d.sync.2
def m12f : StM := m12e.crash [] (-1) 0
def m12g : StM := (m12f.read 1).2.2
theorem g12 : m12a.Good ∧ m12b.Good ∧ m12c.Good ∧ m12d.Good ∧ m12e.Good ∧ m12f.Good ∧ m12g.Good := by
  have ha : m12a.Good := write_good (newStore_good (by omega) (by omega)) (by decide) _ _
  have hb : m12b.Good := crash_good ha _ _ _
  have hc : m12c.Good := read_good hb _
  have hd : m12d.Good := write_good hc (by decide +kernel) _ _
  have he : m12e.Good := sync_good hd
  have hf : m12f.Good := crash_good he _ _ _
  exact ⟨ha, hb, hc, hd, he, hf, read_good hf _⟩
def r12c : List UInt8 := (m12b.read 1).1
def r12g : List UInt8 := (m12f.read 1).1
theorem e12 : ((newStore 2).write 1 bb12).1 = 0 ∧ (m12b.read 1).2.1 = 0 ∧ (m12c.write 1 bb12).1 = 0 ∧ m12d.sync.1 = 0 ∧ (m12f.read 1).2.1 = 0 ∧ m12g.last.length = 2 ∧ (m12g.calls == 0) = false ∧
    r12c.length = 128 ∧ r12c[0]? = some 7 ∧ r12c[127]? = some 0 ∧ r12g.length = 128 ∧ r12g[127]? = some 9 := by decide +kernel

theorem store_new_bad {n : Int} (h : n < 1 ∨ 4096 < n) (w : World) : Calls Try.prog 12 #[.int .i64 n] w fun e w' => e = .returned (.tuple #[.pointer none, .int .i64 2]) ∧ w' = w := by
  rcases h with h | h
  · go_enter Try.func12, Try.ntmps12
    go_wp2
    go_ret2
    exact ⟨rfl, rfl⟩
  · have h0 : ¬ n < 1 := by omega
    go_enter Try.func12, Try.ntmps12
    go_wp2
    go_ret2
    exact ⟨rfl, rfl⟩

/-- 128 bytes of noughts, made. -/
theorem make128 : ∃ a0 : Array Value, a0 = (bvs (List.replicate 128 0)).toArray ∧ ∀ w, (Instr.makeSlice 29 (.int .i64 128) (.int .i64 128)).run Try.prog w = .ok (.slice (some ⟨w.heap.size, 0, none⟩) 128 128) (w.alloc (.cells a0 5)) := by
  obtain ⟨i5, hi5, hz5, hs5, hb5⟩ := info_parts Try.info5
  refine ⟨_, rfl, fun w => ?_⟩
  have hm1 := run_make (P := Try.prog) w 29 5 i5 _ Try.underlying29 hi5 hz5 .i64 .i64 128 128 (by omega) (by omega) (by rw [hb5]; omega) (by omega)
  rw [hm1]
  rw [made_all (.int .u8 0) _ _ (fun i hi => by
      have hi' : i = 0 := by simpa [Value.cells] using hi
      subst hi'; simp [Value.cells]) (by simp [Value.cells]), hs5]
  congr 3
theorem bb12_cells : ((bvs (List.replicate 128 0)).toArray.setIfInBounds 0 (.int .u8 7)).setIfInBounds 127 (.int .u8 9) = (bvs bb12).toArray := by
  simp [bvs, bv, bb12]

set_option maxHeartbeats 2000000 in
set_option maxRecDepth 100000 in
theorem first12 (w : World) : Calls Try.prog 44 #[] w fun e w' => e = .returned (.bool true) ∧ Below w.heap.size w w' := by
  obtain ⟨ha, hb, hc, hd, he, hf, hgg⟩ := g12
  obtain ⟨e1, e2, e3, e4, e5, e6, e7, e8, e9, e10, e11, e12⟩ := e12
  obtain ⟨a0, ha0, hm1⟩ := make128
  have hA1 : a0[0]? = some (.int .u8 0) := by subst ha0; rfl
  have hA2 : (a0.setIfInBounds 0 (.int .u8 7))[127]? = some (.int .u8 0) := by subst ha0; rfl
  have hA3 := Lib.hid ha0
  clear ha0
  go_enter Try.func44, Try.ntmps44
  go_wp2_with fail
  refine (store_made 2 (by omega) (by omega) w).mono ?_
  rintro e w1 ⟨b, rfl, H1⟩
  go_wp2_with fail
  have H2 : St _ _ _ [_, _] := (H1.allocAt rfl ((a0.setIfInBounds 0 (.int .u8 7)).setIfInBounds 127 (.int .u8 9)) 5).pick [1, 0]
  rw [hA3.out, bb12_cells] at H2 ⊢
  obtain ⟨S1, K1, R1, G1⟩ := St.lend (l1 := [_]) H2 (n := 128) (by rfl)
  refine (store_write (newStore_good (by omega) (by omega)) (by decide) R1 K1).mono ?_
  rintro e w2 ⟨rfl, H3⟩
  have H4 : St _ w w2 [StoreAt b m12a, _] := G1 _ _ H3
  rw [e1]
  clear K1 R1 G1 H3 H2 H1
  go_wp2_with fail
  obtain ⟨S1, K1, G1⟩ := St.call (l1 := [_]) H4
  refine (store_crash ha (noBools _ _) K1).mono ?_
  rintro e w3 ⟨rfl, H3⟩
  have H5 : St _ w w3 [StoreAt b m12b, _] := G1 _ _ H3
  clear K1 G1 H3 H4
  go_wp2_with fail
  obtain ⟨S1, K1, G1⟩ := St.call (l1 := [_]) H5
  refine (store_read hb K1).mono ?_
  rintro e w4 ⟨v1, rfl, H3⟩
  have H6 : St _ w w4 [BytesAt v1 r12c, StoreAt b m12c, _] := G1 _ _ H3
  obtain ⟨gx, tx, rfl, H6a⟩ := BytesAt.out H6 e8 (by omega)
  have H6 : St _ w w4 [StoreAt b m12c, _, Blk gx _ _] := H6a.pick [1, 2, 0]
  rw [e2]
  clear K1 G1 H3 H5
  go_wp2_with fail
  obtain ⟨S1, K1, R1, G1⟩ := St.lend (l1 := [_]) H6 (n := 128) (by rfl)
  refine (store_write hc (by decide +kernel) R1 K1).mono ?_
  rintro e w5 ⟨rfl, H3⟩
  have H7 : St _ w w5 [StoreAt b m12d, _, _] := G1 _ _ H3
  rw [e3]
  clear K1 R1 G1 H3 H6
  go_wp2_with fail
  obtain ⟨S1, K1, G1⟩ := St.call (l1 := [_]) H7
  refine (store_sync hd K1).mono ?_
  rintro e w6 ⟨rfl, H3⟩
  have H8 : St _ w w6 [StoreAt b m12e, _, _] := G1 _ _ H3
  rw [e4]
  clear K1 G1 H3 H7
  go_wp2_with fail
  obtain ⟨S1, K1, G1⟩ := St.call (l1 := [_]) H8
  refine (store_crash he (noBools _ _) K1).mono ?_
  rintro e w7 ⟨rfl, H3⟩
  have H9 : St _ w w7 [StoreAt b m12f, _, _] := G1 _ _ H3
  clear K1 G1 H3 H8
  go_wp2_with fail
  obtain ⟨S1, K1, G1⟩ := St.call (l1 := [_]) H9
  refine (store_read hf K1).mono ?_
  rintro e w8 ⟨v2, rfl, H3⟩
  have H10 : St _ w w8 [BytesAt v2 r12g, StoreAt b m12g, _, _] := G1 _ _ H3
  obtain ⟨gy, ty, rfl, H10a⟩ := BytesAt.out H10 e11 (by omega)
  have H10 : St _ w w8 [StoreAt b m12g, _, Blk gx _ _, Blk gy _ _] := H10a.pick [1, 2, 3, 0]
  rw [e5]
  clear K1 G1 H3 H9
  go_wp2_with fail
  refine (store_new_bad (.inl (by omega)) _).mono ?_
  rintro e w9 ⟨rfl, rfl⟩
  have cx0 := H10.cell 2 0 rfl (v := .int .u8 7) (by simp [bvs, e9, bv])
  have cx1 := H10.cell 2 127 rfl (v := .int .u8 0) (by simp [bvs, e10, bv])
  have cy1 := H10.cell 3 127 rfl (v := .int .u8 9) (by simp [bvs, e12, bv])
  obtain ⟨S1, K1, G1⟩ := St.call (l1 := [_]) H10
  have e6' : (m12g.last.length : Int) = 2 := by omega
  go_wp2_with (first
    | (go_at_call 50; go_must (refine (store_len K1).mono ?_; rintro e w10 ⟨rfl, rfl⟩))
    | (go_at_call 53; go_must (refine (store_off K1).mono ?_; rintro e w10 ⟨rfl, rfl⟩))
    | (go_at_call 51; go_must (refine (store_image hgg K1).mono ?_; rintro e w10 ⟨v3, rfl, H11⟩; obtain ⟨g3, cap3, rfl⟩ := row_form (H11.row 0 rfl) (N := 256) (by omega) (by omega); have H12 := G1 _ _ H11)))
  go_ret
  exact ⟨rfl, H12.below (Nat.le_refl _) (fun _ h => h.elim)⟩

end Go.Proofs.Ytbikjhmdpgoofab
