/- The walks of the store: Waits; a new one. Conditions: the store's blocks lie as its maker lays them. -/
import Derived.Test.YtbikjhmdpgoofabStoreD
import Derived.Test.YtbikjhmdpgoofabStoreZ
namespace Go.Proofs.Ytbikjhmdpgoofab
open Go.RowKit
attribute [local go_sem ↓] run_load128 run_load129 run_store128 run_store129
attribute [local go_sem] size_zero128 size_zero129

theorem store_waits_nil (w : World) : Calls Try.prog 17 #[.pointer none] w fun e w' => e = .returned (.slice none 0 0) ∧ w' = w := by
  go_enter Try.func17, Try.ntmps17
  go_wp2
  go_ret
  exact ⟨rfl, rfl⟩

set_option maxHeartbeats 2000000 in
set_option maxRecDepth 100000 in
theorem store_waits {b : Nat} {m : StM} {w : World} {S : Nat → Prop} (hg : m.Good) (H : Sep w [StoreAt b m] S) :
    Calls Try.prog 17 #[.pointer (some ⟨b, 0, none⟩)] w fun e w' => ∃ v, e = .returned v ∧ St S w w' [Row 3 1 v m.waits.length (intCells (m.waits.map (·.1))), StoreAt b m] := by
  obtain ⟨bl, br, vw, H⟩ := StoreAt.out H
  have H := St.refl H
  have hrow := H.row 3 rfl
  have hwl := hg.room
  obtain ⟨ao, cap, hvw, hao⟩ : ∃ ao cap, vw = .slice ao m.waits.length cap ∧ (m.waits.length ≠ 0 → ∃ g, ao = some ⟨g, 0, none⟩) := by
    rcases own_shape hrow with ⟨h, h'⟩ | ⟨g, cap, h, _⟩
    · exact ⟨none, 0, by rw [h, h'], fun hn => absurd h' hn⟩
    · exact ⟨_, cap, h, fun _ => ⟨g, rfl⟩⟩
  clear hrow
  subst hvw
  have hb := H.blk_lt 0 rfl
  have c1 := H.cell 0 1 rfl rfl
  by_cases hw0 : m.waits.length = 0
  · have hw0' : m.waits = [] := List.eq_nil_of_length_eq_zero hw0
    have hw1 := Lib.hid hw0
    have hwn := Lib.hid hw0'
    clear hw0 hw0'
    go_enter Try.func17, Try.ntmps17
    go_wp2
    refine wp_loop_rounds 1 ?_
    rw [rounds_succ]
    have hw2 := hw1.out
    go_wp2
    go_ret
    have H2 : St S w _ (StoreAt b m :: []) := StoreAt.mk (bl := bl) (br := br) (vw := .slice ao m.waits.length cap) H
    refine ⟨_, rfl, ?_⟩
    have H3 := H2.row_nil 3 1
    rw [hwn.out]
    exact H3
  · obtain ⟨gw, rfl⟩ := hao hw0
    go_enter Try.func17, Try.ntmps17
    go_wp2
    go_loopw [3, 5, 13] (fun v _ j wr => ∃ k : Nat, k ≤ m.waits.length ∧ j = .int .i64 k ∧ St S w wr [Row 3 1 v k (intCells ((m.waits.take k).map (·.1))),
      StoreB b (.slice (some ⟨bl, 0, none⟩) m.last.length m.last.length) (.slice (some ⟨gw, 0, none⟩) m.waits.length cap) (.slice (some ⟨br, 0, none⟩) m.last.length m.last.length) m.calls,
      Blk bl (lastCells m.last).toArray 98, Blk br (intCells m.reads).toArray 3, Row 100 129 (.slice (some ⟨gw, 0, none⟩) m.waits.length cap) m.waits.length (waitCells m.waits)])
      (fun _ _ j _ => m.waits.length - (intOf j).toNat)
    case atStart => exact ⟨0, by omega, rfl, H.row_nil 3 1⟩
    case round =>
      clear c1 hb
      obtain ⟨k, hk, rfl, HL⟩ := hrel
      by_cases hlt : k < m.waits.length
      · obtain ⟨y, hy⟩ : ∃ y, m.waits[k]? = some y := ⟨_, List.getElem?_eq_getElem hlt⟩
        have hyl := hg.waits y (List.mem_of_getElem? hy)
        obtain ⟨q1, q2⟩ := own_at (ls := m.waits.map waitCell) (HL.row 4 rfl) (wait_full hg.waits) (i := k) (x := waitCell y) (by simp [hy])
        have HA : St S w _ [_, _, _, _, _, _] := HL.alloc (waitCell y).toArray 100
        have hys : (waitCell y).length = 129 := by simp [waitCell, length_bvs, hyl.2.2]
        have ha1 := all_wait y
        have hsn := Lib.hid (take_snoc' hy)
        have hc6 := HA.cell 0 0 rfl (v := .int .i64 y.1) (by simp [waitCell])
        have hbytes : (k + 1) * 8 ≤ 140737488355328 := by omega
        clear hyl
        go_wp2_with (at_builtin; go_must (refine St.list_app (HA.skip _) 1 rfl rfl (.tmp 17) (.tmp 20) 39 rfl Try.underlying39 Try.info3 (by decide) rfl [.int .i64 y.1] rfl rfl (new_at (by simp) #[.int .i64 y.1] _) (by simp [Value.oneCell']) (by omega) hbytes ?_; intro g2 cap2 w3 H3 hz3))
        go_roundw
        case rel => exact ⟨k + 1, by omega, by go_num, by rw [hsn.out, List.map_append]; simpa [intCells] using H3.tail⟩
        case measure => simp [intOf]; omega
      · obtain rfl : k = m.waits.length := by omega
        rw [List.take_length] at HL
        go_wp2
        go_ret
        have H2 : St S w _ (StoreAt b m :: [_]) := StoreAt.mk (bl := bl) (br := br) (vw := .slice (some ⟨gw, 0, none⟩) m.waits.length cap) (HL.pick [1, 2, 3, 4, 0])
        exact ⟨_, rfl, H2.pick [1, 0]⟩

/-- A new store, as plain data. -/
def newStore (n : Nat) : StM := ⟨List.replicate n (List.replicate 128 0), [], List.replicate n 0, -1⟩

theorem replicate_flat {α : Type} (n k : Nat) (x : α) : (List.replicate n (List.replicate k x)).flatten = List.replicate (n * k) x := by
  induction n with
  | zero => simp
  | succ n ih => rw [List.replicate_succ, List.flatten_cons, ih, List.replicate_append_replicate, Nat.succ_mul, Nat.add_comm]
theorem made_all (v : Value) (cs : Array Value) (n : Nat) (h : ∀ i, i < cs.size → cs[i]? = some v) (hs : 0 < cs.size) : madeCells cs n = (List.replicate n v).toArray := by
  apply Array.ext_getElem?
  intro i
  unfold madeCells
  by_cases hi : i < n
  · have h1 := h (i % cs.size) (Nat.mod_lt _ hs)
    have h2 : cs[i % cs.size]! = v := by simp only [getElem!_def, h1]
    simp [hi, h2]
  · rw [Array.getElem?_eq_none (by simp; omega), Array.getElem?_eq_none (by simp; omega)]
theorem noughtCells_eq (n : Nat) : noughtCells n = (lastCells (newStore n).last).toArray := by
  unfold noughtCells lastCells newStore
  rw [made_all (.int .u8 0) _ _ (fun i hi => by
    have hi' : i < 128 := by simpa [Value.cells] using hi
    simp [Value.cells, hi']) (by simp [Value.cells])]
  simp only [List.map_replicate, bvs]
  rw [replicate_flat]
  rfl
theorem zeroCells_eq (n : Nat) : zeroCells n = (intCells (newStore n).reads).toArray := by
  unfold zeroCells intCells newStore
  rw [made_all (.int .i64 0) _ _ (fun i hi => by
    have hi' : i = 0 := by simpa [Value.cells] using hi
    subst hi'; simp [Value.cells]) (by simp [Value.cells])]
  simp

theorem newStore_good {n : Nat} (h1 : 1 ≤ n) (h2 : n ≤ 4096) : (newStore n).Good :=
  ⟨by simp [newStore]; omega, fun x hx => by simp only [newStore, List.mem_replicate] at hx; rw [hx.2]; simp, by simp [newStore], fun x hx => by simp [newStore] at hx, by simp [newStore], by simp [newStore]⟩

theorem store_made (n : Nat) (h1 : 1 ≤ n) (h2 : n ≤ 4096) (w : World) :
    Calls Try.prog 12 #[.int .i64 n] w fun e w' => ∃ b, e = .returned (.tuple #[.pointer (some ⟨b,0,none⟩), .int .i64 0]) ∧ St (fun _ => False) w w' [StoreAt b (newStore n)] := by
  refine (store_new n h1 h2 w).mono fun e w' ⟨b, bl, br, he, H⟩ => ⟨b, he, ?_⟩
  rw [noughtCells_eq, zeroCells_eq] at H
  refine StoreAt.mk (bl := bl) (br := br) (vw := .slice none 0 0) ?_
  have H2 := (H.row_nil 100 129).pick [1, 2, 3, 0]
  simpa [storeParts, newStore, waitCells] using H2

end Go.Proofs.Ytbikjhmdpgoofab
