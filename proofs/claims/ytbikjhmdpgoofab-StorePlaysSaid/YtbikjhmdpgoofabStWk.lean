/- The walk of StorePlays. Condition: the ops can be read. -/
import Derived.Test.YtbikjhmdpgoofabStPd
namespace Go.Proofs.Ytbikjhmdpgoofab
open Go.RowKit

/-! No store at all. -/
theorem nil_read (w : World) (n : Int) : Calls Try.prog 45 #[.pointer none, .int .i64 n] w fun e w' => e = .returned (.tuple #[.slice none 0 0, .int .i64 1]) ∧ w' = w := by
  go_enter Try.func45, Try.ntmps45
  go_wp2
  go_ret2
  exact ⟨rfl, rfl⟩
theorem nil_limit (w : World) (n : Int) : Calls Try.prog 14 #[.pointer none, .int .i64 n] w fun e w' => e = .returned (.tuple #[]) ∧ w' = w := by
  go_enter Try.func14, Try.ntmps14
  go_wp2
  go_end0
  exact ⟨rfl, rfl⟩
theorem nil_crash (w : World) (n k : Int) : Calls Try.prog 46 #[.pointer none, .slice none 0 0, .int .i64 n, .int .i64 k] w fun e w' => e = .returned (.tuple #[]) ∧ Below w.heap.size w w' := by
  have H0 : St (fun _ => False) w _ [_, _, _] := (((St.nil (fun _ => False) w).alloc #[.slice none 0 0] 84).alloc #[.int .i64 n] 3).alloc #[.int .i64 k] 3
  go_enter Try.func46, Try.ntmps46
  go_wp2
  try simp only [Exit.inBlock, Exit.then]
  refine bodyPost_ret (results_none rfl _ _ _) rfl ?_
  exact ⟨rfl, H0.below (Nat.le_refl _) (fun _ h => h.elim)⟩
theorem nil_write (w : World) (n : Int) (v : Value) : Calls Try.prog 47 #[.pointer none, .int .i64 n, v] w fun e w' => e = .returned (.int .i64 1) ∧ w' = w := by
  go_enter Try.func47, Try.ntmps47
  go_wp2
  go_ret
  exact ⟨rfl, rfl⟩
theorem nil_spend (w : World) : Calls Try.prog 49 #[.pointer none] w fun e w' => e = .returned (.int .i64 1) ∧ w' = w := by
  go_enter Try.func49, Try.ntmps49
  go_wp2
  go_ret
  exact ⟨rfl, rfl⟩
theorem nil_sync (w : World) : Calls Try.prog 48 #[.pointer none] w fun e w' => e = .returned (.int .i64 1) ∧ w' = w := by
  go_enter Try.func48, Try.ntmps48
  go_wp2_with (go_at_call 49; go_must (refine (nil_spend _).mono ?_; rintro e w' ⟨rfl, rfl⟩))
  go_ret
  exact ⟨rfl, rfl⟩
theorem nil_len (w : World) : Calls Try.prog 50 #[.pointer none] w fun e w' => e = .returned (.int .i64 0) ∧ w' = w := by
  go_enter Try.func50, Try.ntmps50
  go_wp2
  go_ret
  exact ⟨rfl, rfl⟩
theorem nil_image (w : World) : Calls Try.prog 51 #[.pointer none] w fun e w' => e = .returned (.slice none 0 0) ∧ w' = w := by
  go_enter Try.func51, Try.ntmps51
  go_wp2
  go_ret
  exact ⟨rfl, rfl⟩
theorem nil_reads (w : World) : Calls Try.prog 52 #[.pointer none] w fun e w' => e = .returned (.slice none 0 0) ∧ w' = w := by
  go_enter Try.func52, Try.ntmps52
  go_wp2
  go_ret
  exact ⟨rfl, rfl⟩
theorem nil_off (w : World) : Calls Try.prog 53 #[.pointer none] w fun e w' => e = .returned (.bool false) ∧ w' = w := by
  go_enter Try.func53, Try.ntmps53
  go_wp2
  go_ret
  exact ⟨rfl, rfl⟩
theorem nil_in (w : World) : Calls Try.prog 75 #[.pointer none, .int .i64 0] w fun e w' => e = .returned (.bool false) ∧ w' = w := by
  go_enter Try.func75, Try.ntmps75
  go_wp2_with (go_at_call 50; go_must (refine (nil_len _).mono ?_; rintro e w' ⟨rfl, rfl⟩))
  go_ret
  exact ⟨rfl, rfl⟩
theorem nil_lay (w : World) : Calls Try.prog 54 #[.pointer none, .int .i64 0, .slice none 0 0] w fun e w' => e = .returned (.bool false) ∧ w' = w := by
  go_enter Try.func54, Try.ntmps54
  go_wp2_with (go_at_call 75; go_must (refine (nil_in _).mono ?_; rintro e w' ⟨rfl, rfl⟩))
  go_ret
  exact ⟨rfl, rfl⟩
theorem nil_load (w : World) : Calls Try.prog 55 #[.pointer none, .slice none 0 0] w fun e w' => e = .returned (.bool false) ∧ w' = w := by
  go_enter Try.func55, Try.ntmps55
  go_wp2
  go_ret
  exact ⟨rfl, rfl⟩

theorem BytesRO.fresh {S1 : Nat → Prop} {w0 w : World} {v : Value} {bs : List UInt8} (hv : BytesRO (fun _ => False) w0 v bs) (hk : Kept (fun _ => False) w0 w) (hs : ∀ k, S1 k → False ∨ w0.heap.size ≤ k) : BytesRO S1 w v bs := by
  obtain ⟨ad, cap, e1, e2, e3⟩ := hv
  refine ⟨ad, cap, e1, e2, fun hl => ?_⟩
  obtain ⟨b, o, g1, g2, _, g4⟩ := e3 hl
  exact ⟨b, o, g1, Nat.lt_of_lt_of_le g2 hk.size, fun h => (hs b h).elim id (fun h => by omega), fun i hi => (World.cell?_of_block (w := w0) (hk.block b g2 id)).trans (g4 i hi)⟩
theorem BoolsRO.fresh {S1 : Nat → Prop} {w0 w : World} {v : Value} {bs : List Bool} (hv : BoolsRO (fun _ => False) w0 v bs) (hk : Kept (fun _ => False) w0 w) (hs : ∀ k, S1 k → False ∨ w0.heap.size ≤ k) : BoolsRO S1 w v bs := by
  obtain ⟨ad, cap, e1, e2, e3⟩ := hv
  refine ⟨ad, cap, e1, e2, fun hl => ?_⟩
  obtain ⟨b, o, g1, g2, _, g4⟩ := e3 hl
  exact ⟨b, o, g1, Nat.lt_of_lt_of_le g2 hk.size, fun h => (hs b h).elim id (fun h => by omega), fun i hi => (World.cell?_of_block (w := w0) (hk.block b g2 id)).trans (g4 i hi)⟩
section
attribute [local go_sem ↓] run_load128
set_option maxHeartbeats 8000000 in
set_option maxRecDepth 100000 in
theorem plays_walk {lv : Value} {n : Int} {ops : List OpV} (w : World) (hl : OpsRO w lv ops) :
    Calls Try.prog 8 #[.int .i64 n, lv] w fun e w' => e = .returned (.bool true) ∧ Below w.heap.size w w' := by
  obtain ⟨ad, cap, rfl, hlen, hops, hl⟩ := hl
  go_enter Try.func8, Try.ntmps8
  go_upto_region 3 with (go_at_call 44; go_must (refine (St.callPast (first12 _) (St.nil (fun _ => False) w)).mono ?_; rintro e w1 ⟨rfl, H1⟩))
  by_cases hbad : n < 1 ∨ 4096 < n
  · have hn0 : (decide (n < 1) || decide (4096 < n)) = true := by simpa using hbad
    have hcase : (n < 1 ∧ decide (n < 1) = true) ∨ (¬ n < 1 ∧ 4096 < n ∧ decide (n < 1) = false ∧ decide (4096 < n) = true) := by
      by_cases h : n < 1
      · exact .inl ⟨h, by simpa using h⟩
      · exact .inr ⟨h, by omega, by simpa using h, by simp; omega⟩
    go_upto_region 4 with (go_at_call 12; go_must (refine (store_new_bad hbad _).mono ?_; rintro e w2 ⟨rfl, hw2⟩; have hw2 := hw2.symm; subst hw2))
    clear hn0 hbad
    rcases hcase with ⟨hc, z1⟩ | ⟨hc, hc2, z1, z2⟩
    case' inl => go_upto_region 5 with (fail)
    case' inr => go_upto_region 5 with (fail)
    all_goals
      go_upto_region 8 with (first
      | (go_at_call 45; go_must (refine (nil_read _ _).mono ?_; rintro e w' ⟨rfl, rfl⟩))
      | (go_at_call 14; go_must (refine (nil_limit _ _).mono ?_; rintro e w' ⟨rfl, rfl⟩))
      | (go_at_call 47; go_must (refine (nil_write _ _ _).mono ?_; rintro e w' ⟨rfl, rfl⟩))
      | (go_at_call 48; go_must (refine (nil_sync _).mono ?_; rintro e w' ⟨rfl, rfl⟩))
      | (go_at_call 49; go_must (refine (nil_spend _).mono ?_; rintro e w' ⟨rfl, rfl⟩))
      | (go_at_call 50; go_must (refine (nil_len _).mono ?_; rintro e w' ⟨rfl, rfl⟩))
      | (go_at_call 17; go_must (refine (store_waits_nil _).mono ?_; rintro e w' ⟨rfl, rfl⟩))
      | (go_at_call 51; go_must (refine (nil_image _).mono ?_; rintro e w' ⟨rfl, rfl⟩))
      | (go_at_call 52; go_must (refine (nil_reads _).mono ?_; rintro e w' ⟨rfl, rfl⟩))
      | (go_at_call 53; go_must (refine (nil_off _).mono ?_; rintro e w' ⟨rfl, rfl⟩))
      | (go_at_call 54; go_must (refine (nil_lay _).mono ?_; rintro e w' ⟨rfl, rfl⟩))
      | (go_at_call 55; go_must (refine (nil_load _).mono ?_; rintro e w' ⟨rfl, rfl⟩))
      | (go_at_call 46; go_must (refine (St.callPast (nil_crash _ _ _) H1).mono ?_; rintro e w3 ⟨rfl, H3⟩)))
      go_wp2_with (first
      | (go_at_call 45; go_must (refine (nil_read _ _).mono ?_; rintro e w' ⟨rfl, rfl⟩))
      | (go_at_call 14; go_must (refine (nil_limit _ _).mono ?_; rintro e w' ⟨rfl, rfl⟩))
      | (go_at_call 47; go_must (refine (nil_write _ _ _).mono ?_; rintro e w' ⟨rfl, rfl⟩))
      | (go_at_call 48; go_must (refine (nil_sync _).mono ?_; rintro e w' ⟨rfl, rfl⟩))
      | (go_at_call 49; go_must (refine (nil_spend _).mono ?_; rintro e w' ⟨rfl, rfl⟩))
      | (go_at_call 50; go_must (refine (nil_len _).mono ?_; rintro e w' ⟨rfl, rfl⟩))
      | (go_at_call 17; go_must (refine (store_waits_nil _).mono ?_; rintro e w' ⟨rfl, rfl⟩))
      | (go_at_call 51; go_must (refine (nil_image _).mono ?_; rintro e w' ⟨rfl, rfl⟩))
      | (go_at_call 52; go_must (refine (nil_reads _).mono ?_; rintro e w' ⟨rfl, rfl⟩))
      | (go_at_call 53; go_must (refine (nil_off _).mono ?_; rintro e w' ⟨rfl, rfl⟩))
      | (go_at_call 54; go_must (refine (nil_lay _).mono ?_; rintro e w' ⟨rfl, rfl⟩))
      | (go_at_call 55; go_must (refine (nil_load _).mono ?_; rintro e w' ⟨rfl, rfl⟩)))
      go_ret
      exact ⟨rfl, H3.below (Nat.le_refl _) (fun _ h => h.elim)⟩
  · have hn1 : 1 ≤ n := by omega
    obtain ⟨N, rfl⟩ : ∃ N : Nat, n = N := ⟨n.toNat, by omega⟩
    have z1 : decide ((N : Int) < 1) = false := by simp; omega
    have z2 : decide ((4096 : Int) < (N : Int)) = false := by simp; omega
    have hN1 : 1 ≤ N := by omega
    have hN2 : N ≤ 4096 := by omega
    clear hbad hn1
    go_upto_region 9 with (go_at_call 12; go_must (refine (store_made N hN1 hN2 _).mono ?_; rintro e w2 ⟨b, rfl, K2⟩; have H2 : St (fun _ => False) w w2 [StoreAt b (newStore N)] := H1.call0 K2))
    have hg0 := newStore_good hN1 hN2
    have hl0 : (newStore N).last.length = N := by simp [newStore]
    by_cases h20 : 20 < N
    · have z3 : decide ((20 : Int) < (N : Int)) = true := by simp; omega
      obtain ⟨S1, K1, G1⟩ := St.call (l1 := [_]) H2
      have kl := store_len K1
      rw [hl0] at kl
      have hnn : ((N : Int) == (N : Int)) = true := by simp
      go_wp2_with (go_at_call 50; go_must (refine kl.mono ?_; rintro e w3 ⟨rfl, rfl⟩))
      go_ret
      exact ⟨rfl, H2.below (Nat.le_refl _) (fun _ h => h.elim)⟩
    · have z3 : decide ((20 : Int) < (N : Int)) = false := by simp; omega
      have hN20 : N ≤ 20 := by omega
      go_upto_region 12 with (go_at_call 13; go_must (refine (ref_made N hN2 _).mono ?_; rintro e w3 ⟨b2, rfl, K3⟩; have H3 : St (fun _ => False) w w3 [RefAt b2 (newStore N), StoreAt b (newStore N)] := H2.call0 K3))
      obtain ⟨S1, K1, G1⟩ := St.call (l1 := [_]) H3
      have ki := ref_image hg0 K1
      have hil0 : (newStore N).image.length = 128 * N := by rw [StM.image_len hg0, hl0]; omega
      obtain ⟨X, hX⟩ : ∃ X, (newStore N).image = X := ⟨_, rfl⟩
      rw [hX] at ki hil0
      clear hX G1 K1 H1 H2 K2 K3 h20
      unfold textV at ki
      go_upto_region 13 with (go_at_call 56; go_must (refine (St.callPast ki H3).mono ?_; rintro e w4 ⟨rfl, H4⟩))
      have HX : St (fun _ => False) w _ [_, _, _] := H4.allocAt rfl #[.string ⟨X.toArray⟩] 9
      have HY : St (fun _ => False) w _ [Row 9 1 _ 1 (texts [X]), RefAt b2 (newStore N), StoreAt b (newStore N)] := St.blkRow (n := 1) (size := 1) HX rfl (by decide)
      clear H3 H4 ki HX
      go_upto_block 1 with (fail)
      go_loopw [10, 107] (fun iv j wr => ∃ (k : Nat) (m : StM) (imgs : List (List UInt8)), k ≤ ops.length ∧ k ≤ 40 ∧ j = .int .i64 k ∧ m.Good ∧ m.waits.length ≤ k ∧ m.last.length = N ∧ imgs ≠ [] ∧ imgs.length ≤ k + 1 ∧ (∀ y ∈ imgs, y.length = 128 * N) ∧
        St (fun _ => False) w wr [StoreAt b m, RefAt b2 m, Row 9 1 iv imgs.length (texts imgs)]) (fun _ j _ => 41 - (intOf j).toNat)
      case atStart => exact ⟨0, newStore N, [X], by omega, by omega, rfl, hg0, by simp [newStore], hl0, by simp, by simp, by simpa using hil0, HY.pick [2, 1, 0]⟩
      case round =>
        clear HY hil0 hg0 hl0
        obtain ⟨k, m, imgs, hk1, hk2, rfl, hg, hwk, hmN, hi0, hil, hi, HL⟩ := hrel
        by_cases hlt : k < ops.length
        · obtain ⟨x, hx⟩ : ∃ x, ops[k]? = some x := ⟨_, List.getElem?_eq_getElem hlt⟩
          obtain ⟨hf1, hf2, hf3, hB, hBl, hB5⟩ := hops x (List.mem_of_getElem? hx)
          obtain ⟨bo, o, rfl, hbo, hcells⟩ := hl (by rintro rfl; simp at hlt)
          obtain ⟨q0, q1⟩ : cellsAt wr bo (o + k * 5) 5 = (opCells x.kind x.at' x.n x.Bv x.kv).toList ∧ hasCells wr bo (o + k * 5) 5 = true := cellsAt_of_range (fun j v hj => (World.cell?_of_block (w := w) (HL.kept.block bo hbo id)).trans (hcells k x hx j v hj)) rfl
          have c0 := (World.cell?_of_block (w := w) (a := ⟨bo, o + k * 5, none⟩) (HL.kept.block bo hbo id)).trans (hcells k x hx 0 _ rfl)
          have c1 := (World.cell?_of_block (w := w) (a := ⟨bo, o + k * 5 + 1, none⟩) (HL.kept.block bo hbo id)).trans (hcells k x hx 1 _ rfl)
          have c2 := (World.cell?_of_block (w := w) (a := ⟨bo, o + k * 5 + 2, none⟩) (HL.kept.block bo hbo id)).trans (hcells k x hx 2 _ rfl)
          have c3 := (World.cell?_of_block (w := w) (a := ⟨bo, o + k * 5 + 3, none⟩) (HL.kept.block bo hbo id)).trans (hcells k x hx 3 _ rfl)
          have c4 := (World.cell?_of_block (w := w) (a := ⟨bo, o + k * 5 + 4, none⟩) (HL.kept.block bo hbo id)).trans (hcells k x hx 4 _ rfl)
          clear q0 q1 hcells hops hl hx
          obtain ⟨kind, at', n5, x4, x5, B, keep⟩ := x
          simp only at hf1 hf2 hf3 hB hBl hB5 c0 c1 c2 c3 c4
          obtain ⟨ad4, cap4, rfl, hB4⟩ := id hB
          obtain ⟨ad5, cap5, rfl, _⟩ := id hB5
          have HA : St (fun _ => False) w _ [_, _, _, _] := HL.allocAt rfl (opCells kind at' n5 (.slice ad4 B.length cap4) (.slice ad5 keep.length cap5)) 86
          go_upto_region 16 with (fail)
          obtain ⟨wa, hwa⟩ : ∃ wa, wr.alloc (.cells (opCells kind at' n5 (.slice ad4 B.length cap4) (.slice ad5 keep.length cap5)) 86) = wa := ⟨_, rfl⟩
          obtain ⟨ob, hob⟩ : ∃ ob, wr.heap.size = ob := ⟨_, rfl⟩
          rw [hwa, hob] at HA
          try rw [hwa]
          try simp only [hob]
          have HA : St (fun _ => False) w wa [Blk ob (opCells kind at' n5 (.slice ad4 B.length cap4) (.slice ad5 keep.length cap5)) 86, StoreAt b m, RefAt b2 m, Row 9 1 u10 imgs.length (texts imgs)] := HA
          clear hwa hob c0 c1 c2 c3 c4 HL
          by_cases h40 : k = 40
          · subst h40
            go_wp2
            go_ret
            exact ⟨rfl, HA.below (Nat.le_refl _) (fun _ h => h.elim)⟩
          have z4 : decide ((40 : Int) ≤ (k : Int)) = false := by simp; omega
          go_upto_region 18 with (fail)
          have kp := fun (w' : World) (h : St (fun _ => False) w w' [Blk ob (opCells kind at' n5 (.slice ad4 B.length cap4) (.slice ad5 keep.length cap5)) 86, StoreAt b m, RefAt b2 m, Row 9 1 u10 imgs.length (texts imgs)]) => show Calls Try.prog 57 #[.pointer (some ⟨b, 0, none⟩), .pointer (some ⟨b2, 0, none⟩), .agg (opCells kind at' n5 (.slice ad4 B.length cap4) (.slice ad5 keep.length cap5)), u10] w' fun e w2 => e = .returned (.bool true) ∧ ∃ m2 vl aw cw vc, Next m m2 ∧ St (fun _ => False) w w2 [Blk ob (opCells kind at' n5 (.slice ad4 B.length cap4) (.slice ad5 keep.length cap5)) 86, StoreAt b m2, Blk b2 #[vl, .slice aw m2.waits.length cw, .int .i64 m2.calls, vc] 41, Row 9 1 vl m2.last.length (texts m2.last), Row 46 2 (.slice aw m2.waits.length cw) m2.waits.length (refWaits m2.waits), Row 3 1 vc m2.reads.length (intCells m2.reads), Row 9 1 u10 imgs.length (texts imgs)] by
            obtain ⟨S1, K1, hS1, _, G1⟩ := St.call2 (l1 := [StoreAt b m, RefAt b2 m, Row 9 1 u10 imgs.length (texts imgs)]) (l2 := [Blk ob (opCells kind at' n5 (.slice ad4 B.length cap4) (.slice ad5 keep.length cap5)) 86]) (h.pick [1, 2, 3, 0])
            refine (st_played (x := ⟨kind, at', n5, .slice ad4 B.length cap4, .slice ad5 keep.length cap5, B, keep⟩) hg (by omega) hf3 (hB.fresh h.kept hS1) hBl (hB5.fresh h.kept hS1) hi0 (by omega) (by rw [hmN]; exact hi) K1).mono ?_
            rintro e w2 ⟨rfl, m2, hnx, h2⟩
            obtain ⟨vl, vw, vc, h3⟩ := RefAt.open ((G1 _ _ h2).pick [1, 0, 2, 3])
            obtain ⟨aw, cw, rfl, _, _⟩ := slice_form' (h3.row 2 rfl)
            exact ⟨rfl, m2, vl, aw, cw, vc, hnx, h3.pick [6, 4, 0, 1, 2, 3, 5]⟩
          refine wp_script [(0, false), (1, false), (2, false), (3, false), (4, true), (5, false), (6, false), (7, false), (8, false), (9, false), (10, false), (11, false), (12, false), (13, false), (14, false), (15, false), (16, false), (17, false), (20, false), (21, false), (22, false), (23, false), (24, false), (18, true), (19, false), (25, false), (26, false), (27, false), (28, false), (31, false), (29, true), (30, false), (32, false), (33, false), (34, false)] (Fam fun w' => St (fun _ => False) w w' [Blk ob (opCells kind at' n5 (.slice ad4 B.length cap4) (.slice ad5 keep.length cap5)) 86]) (fun w' => St (fun _ => False) w w' [Blk ob (opCells kind at' n5 (.slice ad4 B.length cap4) (.slice ad5 keep.length cap5)) 86, StoreAt b m, RefAt b2 m, Row 9 1 u10 imgs.length (texts imgs)]) (by kernel_rfl) (by rfl) (by kernel_rfl) (by kernel_rfl) HA.drew (Fam.st (fun _ h => h.pick [0])) ?_
          iterate 4 first
            | (apply script_pass
               · rfl
               · rfl
               intro K hK
               go_simp
               refine hK _ ?_
               clear hK K)
            | (apply script_step
               · rfl
               · rfl
               · intro I hI w1 h1'
                 have h1 := hI.2 _ h1'
                 have d0 := h1.cell 0 0 rfl rfl
                 have d1 := h1.cell 0 1 rfl rfl
                 have d2 := h1.cell 0 2 rfl rfl
                 have d3 := h1.cell 0 3 rfl rfl
                 have d4 := h1.cell 0 4 rfl rfl
                 first
                   | (go_simp
                      first
                        | rfl
                        | exact ⟨rfl, h1'⟩
                     )
               intro K hK
               go_simp
               refine hK _ ?_
               clear hK K)
          obtain ⟨V1, hV1⟩ := hide_rel (fun v I' => ∃ m2 vl aw cw vc, v = .bool true ∧ Next m m2 ∧ I' = fun w' => St (fun _ => False) w w' [Blk ob (opCells kind at' n5 (.slice ad4 B.length cap4) (.slice ad5 keep.length cap5)) 86, StoreAt b m2, Blk b2 #[vl, .slice aw m2.waits.length cw, .int .i64 m2.calls, vc] 41, Row 9 1 vl m2.last.length (texts m2.last), Row 46 2 (.slice aw m2.waits.length cw) m2.waits.length (refWaits m2.waits), Row 3 1 vc m2.reads.length (intCells m2.reads), Row 9 1 u10 imgs.length (texts imgs)])
          refine script_big V1 rfl rfl ?_ ?_
          · intro w3 h3
            go_simp
            refine (kp w3 h3).mono ?_
            rintro e w4 ⟨rfl, m2, vl, aw, cw, vc, hnx, h4⟩
            exact ⟨_, rfl, _, (hV1.out _ _).2 ⟨m2, vl, aw, cw, vc, rfl, hnx, rfl⟩, h4⟩
          intro v I' hvI
          obtain ⟨m2, vl, aw, cw, vc, rfl, hnx, rfl⟩ := (hV1.out _ _).1 hvI
          clear hvI hV1 kp
          obtain ⟨hg2, hw2, hN2'⟩ := hnx
          have hN2h := Lib.hid (hN2'.trans hmN)
          clear hN2'
          refine ⟨Fam fun w' => St (fun _ => False) w w' [Blk ob (opCells kind at' n5 (.slice ad4 B.length cap4) (.slice ad5 keep.length cap5)) 86, StoreAt b m2, Blk b2 #[vl, .slice aw m2.waits.length cw, .int .i64 m2.calls, vc] 41, Row 9 1 vl m2.last.length (texts m2.last), Row 46 2 (.slice aw m2.waits.length cw) m2.waits.length (refWaits m2.waits), Row 3 1 vc m2.reads.length (intCells m2.reads), Row 9 1 u10 imgs.length (texts imgs)], Fam.mono (fun _ h => h.pick [0]), Fam.st (fun _ h => h), ?_⟩
          intro K hK
          go_simp
          refine hK _ ?_
          clear hK K
          iterate 18 first
            | (apply script_pass
               · rfl
               · rfl
               intro K hK
               go_simp
               refine hK _ ?_
               clear hK K)
            | (apply script_step
               · rfl
               · rfl
               · intro I hI w1 h1'
                 have h1 := hI.2 _ h1'
                 have n1 : Calls Try.prog 53 #[.pointer (some ⟨b, 0, none⟩)] w1 fun e w2 => e = .returned (.bool (m2.calls == 0)) ∧ w2 = w1 := (store_off (h1.pick [1]).sep).mono fun _ _ h => ⟨h.1, h.2.symm⟩
                 have s1 := h1.cell 2 1 rfl rfl
                 have s2 := h1.cell 2 2 rfl rfl
                 first
                   | (go_simp
                      first
                        | rfl
                        | exact ⟨rfl, h1'⟩
                        | (go_at_call 53; with_reducible exact Fam.call0 h1' n1)
                     )
               intro K hK
               go_simp
               refine hK _ ?_
               clear hK K)
          obtain ⟨V2, hV2⟩ := hide_rel (fun v I' => ∃ a c, v = .slice a m2.waits.length c ∧ I' = fun w' => St (fun _ => False) w w' [Blk ob (opCells kind at' n5 (.slice ad4 B.length cap4) (.slice ad5 keep.length cap5)) 86, StoreAt b m2, Blk b2 #[vl, .slice aw m2.waits.length cw, .int .i64 m2.calls, vc] 41, Row 9 1 vl m2.last.length (texts m2.last), Row 46 2 (.slice aw m2.waits.length cw) m2.waits.length (refWaits m2.waits), Row 3 1 vc m2.reads.length (intCells m2.reads), Row 9 1 u10 imgs.length (texts imgs)])
          refine script_big V2 rfl rfl ?_ ?_
          · intro w3 h3
            obtain ⟨S1, K1, G1⟩ := St.call (l1 := [_]) (h3.pick [1, 0, 2, 3, 4, 5, 6])
            go_simp
            refine (store_waits hg2 K1).mono ?_
            rintro e w4 ⟨v4, rfl, K4⟩
            have H4 : St (fun _ => False) w w4 [Row 3 1 v4 m2.waits.length (intCells (m2.waits.map (·.1))), StoreAt b m2, Blk ob (opCells kind at' n5 (.slice ad4 B.length cap4) (.slice ad5 keep.length cap5)) 86, Blk b2 #[vl, .slice aw m2.waits.length cw, .int .i64 m2.calls, vc] 41, Row 9 1 vl m2.last.length (texts m2.last), Row 46 2 (.slice aw m2.waits.length cw) m2.waits.length (refWaits m2.waits), Row 3 1 vc m2.reads.length (intCells m2.reads), Row 9 1 u10 imgs.length (texts imgs)] := G1 _ _ K4
            obtain ⟨a4, c4, rfl, _, _⟩ := slice_form' (H4.row 0 rfl)
            exact ⟨_, rfl, _, (hV2.out _ _).2 ⟨a4, c4, rfl, rfl⟩, H4.pick [2, 1, 3, 4, 5, 6, 7]⟩
          intro v I' hvI
          obtain ⟨a4, c4, rfl, rfl⟩ := (hV2.out _ _).1 hvI
          clear hvI hV2
          refine ⟨_, fun _ h => h, Fam.st (fun _ h => h), ?_⟩
          intro K hK
          go_simp
          refine hK _ ?_
          clear hK K
          iterate 6 first
            | (apply script_pass
               · rfl
               · rfl
               intro K hK
               go_simp
               refine hK _ ?_
               clear hK K)
            | (apply script_step
               · rfl
               · rfl
               · intro I hI w1 h1'
                 have h1 := hI.2 _ h1'
                 first
                   | (go_simp
                      first
                        | rfl
                        | exact ⟨rfl, h1'⟩
                     )
               intro K hK
               go_simp
               refine hK _ ?_
               clear hK K)
          obtain ⟨V3, hV3⟩ := hide_rel (fun v I' => ∃ a c, v = .slice a (m2.last.length * 128) c ∧ I' = fun w' => St (fun _ => False) w w' [Row 5 1 (.slice a (m2.last.length * 128) c) (m2.last.length * 128) (bvs m2.last.flatten), Blk ob (opCells kind at' n5 (.slice ad4 B.length cap4) (.slice ad5 keep.length cap5)) 86, StoreAt b m2, Blk b2 #[vl, .slice aw m2.waits.length cw, .int .i64 m2.calls, vc] 41, Row 9 1 vl m2.last.length (texts m2.last), Row 46 2 (.slice aw m2.waits.length cw) m2.waits.length (refWaits m2.waits), Row 3 1 vc m2.reads.length (intCells m2.reads), Row 9 1 u10 imgs.length (texts imgs)])
          refine script_big V3 rfl rfl ?_ ?_
          · intro w3 h3
            obtain ⟨S1, K1, G1⟩ := St.call (l1 := [_]) (h3.pick [1, 0, 2, 3, 4, 5, 6])
            go_simp
            refine (store_image hg2 K1).mono ?_
            rintro e w4 ⟨v4, rfl, K4⟩
            have H4 : St (fun _ => False) w w4 [Row 5 1 v4 (m2.last.length * 128) (bvs m2.last.flatten), StoreAt b m2, Blk ob (opCells kind at' n5 (.slice ad4 B.length cap4) (.slice ad5 keep.length cap5)) 86, Blk b2 #[vl, .slice aw m2.waits.length cw, .int .i64 m2.calls, vc] 41, Row 9 1 vl m2.last.length (texts m2.last), Row 46 2 (.slice aw m2.waits.length cw) m2.waits.length (refWaits m2.waits), Row 3 1 vc m2.reads.length (intCells m2.reads), Row 9 1 u10 imgs.length (texts imgs)] := G1 _ _ K4
            obtain ⟨a5, c5, rfl, _, _⟩ := slice_form' (H4.row 0 rfl)
            exact ⟨_, rfl, _, (hV3.out _ _).2 ⟨a5, c5, rfl, rfl⟩, H4.pick [0, 2, 1, 3, 4, 5, 6, 7]⟩
          intro v I' hvI
          obtain ⟨a5, c5, rfl, rfl⟩ := (hV3.out _ _).1 hvI
          clear hvI hV3
          refine ⟨Fam fun w' => St (fun _ => False) w w' [Row 5 1 (.slice a5 (m2.last.length * 128) c5) (m2.last.length * 128) (bvs m2.last.flatten), Blk ob (opCells kind at' n5 (.slice ad4 B.length cap4) (.slice ad5 keep.length cap5)) 86, StoreAt b m2, Blk b2 #[vl, .slice aw m2.waits.length cw, .int .i64 m2.calls, vc] 41, Row 9 1 vl m2.last.length (texts m2.last), Row 46 2 (.slice aw m2.waits.length cw) m2.waits.length (refWaits m2.waits), Row 3 1 vc m2.reads.length (intCells m2.reads), Row 9 1 u10 imgs.length (texts imgs)], Fam.mono (fun _ h => h.pick [1, 2, 3, 4, 5, 6, 7]), Fam.st (fun _ h => h), ?_⟩
          intro K hK
          go_simp
          refine hK _ ?_
          clear hK K
          iterate 4 first
            | (apply script_pass
               · rfl
               · rfl
               intro K hK
               go_simp
               refine hK _ ?_
               clear hK K)
            | (apply script_step
               · rfl
               · rfl
               · intro I hI w1 h1'
                 have h1 := hI.2 _ h1'
                 have hcv := own_text' (h1.row 0 rfl)
                 have n1 := ref_image hg2 (RefAt.mk (l := []) (h1.pick [3, 4, 5, 6])).sep
                 unfold textV StM.image at n1
                 first
                   | (go_simp
                      first
                        | rfl
                        | exact ⟨rfl, h1'⟩
                        | (go_at_call 56; with_reducible exact Fam.call hI h1' n1)
                     )
               intro K hK
               go_simp
               refine hK _ ?_
               clear hK K)
          refine script_nil ?_
          intro w9 H9
          have H9 : St (fun _ => False) w w9 [Blk ob (opCells kind at' n5 (.slice ad4 B.length cap4) (.slice ad5 keep.length cap5)) 86, StoreAt b m2, Blk b2 #[vl, .slice aw m2.waits.length cw, .int .i64 m2.calls, vc] 41, Row 9 1 vl m2.last.length (texts m2.last), Row 46 2 (.slice aw m2.waits.length cw) m2.waits.length (refWaits m2.waits), Row 3 1 vc m2.reads.length (intCells m2.reads), Row 9 1 u10 imgs.length (texts imgs)] := H9.pick [1, 2, 3, 4, 5, 6, 7]
          have kwt := fun (w' : World) (h : St (fun _ => False) w w' [Blk ob (opCells kind at' n5 (.slice ad4 B.length cap4) (.slice ad5 keep.length cap5)) 86, StoreAt b m2, Blk b2 #[vl, .slice aw m2.waits.length cw, .int .i64 m2.calls, vc] 41, Row 9 1 vl m2.last.length (texts m2.last), Row 46 2 (.slice aw m2.waits.length cw) m2.waits.length (refWaits m2.waits), Row 3 1 vc m2.reads.length (intCells m2.reads), Row 9 1 u10 imgs.length (texts imgs)]) => show Calls Try.prog 17 #[.pointer (some ⟨b, 0, none⟩)] w' fun e w2 => ∃ a c, e = .returned (.slice a m2.waits.length c) ∧ St (fun _ => False) w w2 [Row 3 1 (.slice a m2.waits.length c) m2.waits.length (intCells (m2.waits.map (·.1))), StoreAt b m2, Blk b2 #[vl, .slice aw m2.waits.length cw, .int .i64 m2.calls, vc] 41, Row 9 1 vl m2.last.length (texts m2.last), Row 46 2 (.slice aw m2.waits.length cw) m2.waits.length (refWaits m2.waits), Row 3 1 vc m2.reads.length (intCells m2.reads), Row 9 1 u10 imgs.length (texts imgs)] by
            obtain ⟨S1, K1, G1⟩ := St.call (l1 := [_]) (h.pick [1, 2, 3, 4, 5, 6])
            refine (store_waits hg2 K1).mono ?_
            rintro e w4 ⟨v4, rfl, K4⟩
            have H4 : St (fun _ => False) w w4 [Row 3 1 v4 m2.waits.length (intCells (m2.waits.map (·.1))), StoreAt b m2, Blk b2 #[vl, .slice aw m2.waits.length cw, .int .i64 m2.calls, vc] 41, Row 9 1 vl m2.last.length (texts m2.last), Row 46 2 (.slice aw m2.waits.length cw) m2.waits.length (refWaits m2.waits), Row 3 1 vc m2.reads.length (intCells m2.reads), Row 9 1 u10 imgs.length (texts imgs)] := G1 _ _ K4
            obtain ⟨a4, c4, rfl, _, _⟩ := slice_form' (H4.row 0 rfl)
            exact ⟨a4, c4, rfl, H4⟩
          have hw2k : m2.waits.length ≤ k + 1 := by omega
          have hrm := hg2.room
          go_upto_block 3 with (go_at_call 17; go_must (refine (kwt w9 H9).mono ?_; rintro e w10 ⟨ga0, gc, rfl, H10⟩))
          clear kwt H9 HA
          go_loopw [13, 14, 152] (fun _ _ j wr => ∃ (q : Nat), q ≤ m2.waits.length ∧ j = .int .i64 q ∧ St (fun _ => False) w wr [Row 3 1 (.slice ga0 m2.waits.length gc) m2.waits.length (intCells (m2.waits.map (·.1))), StoreAt b m2, Blk b2 #[vl, .slice aw m2.waits.length cw, .int .i64 m2.calls, vc] 41, Row 9 1 vl m2.last.length (texts m2.last), Row 46 2 (.slice aw m2.waits.length cw) m2.waits.length (refWaits m2.waits), Row 3 1 vc m2.reads.length (intCells m2.reads), Row 9 1 u10 imgs.length (texts imgs)]) (fun _ _ j _ => m2.waits.length - (intOf j).toNat)
          case atStart => exact ⟨0, by omega, rfl, H10⟩
          case round =>
            clear H10
            obtain ⟨q, hq, rfl, HB2⟩ := hrel
            by_cases hql : q < m2.waits.length
            · obtain ⟨_, _, e1, _, hga⟩ := slice_form' (HB2.row 0 rfl)
              cases e1
              obtain ⟨ga, rfl⟩ := hga (by omega)
              obtain ⟨_, _, e2, _, hgw⟩ := slice_form' (HB2.row 4 rfl)
              cases e2
              obtain ⟨gw, rfl⟩ := hgw (by omega)
              obtain ⟨y, hy⟩ : ∃ y, m2.waits[q]? = some y := ⟨_, List.getElem?_eq_getElem hql⟩
              have p0 := HB2.rowCell 0 q rfl (u := .int .i64 y.1) (by simp [intCells, hy])
              have p1 := HB2.cell 2 1 rfl rfl
              have p2 := HB2.rowCell 4 (q * 2) rfl (refWaits_at hy).1
              clear hy
              go_wp2
              go_roundw
              case rel => exact ⟨q + 1, by omega, by go_num, HB2⟩
              case measure => simp [intOf]; omega
            · obtain rfl : q = m2.waits.length := by omega
              have n1 := ref_image hg2 (RefAt.mk (l := []) (HB2.pick [2, 3, 4, 5])).sep
              have hXl : m2.image.length = 128 * N := by rw [StM.image_len hg2, hN2h.out]; omega
              obtain ⟨X, hX⟩ : ∃ X, m2.image = X := ⟨_, rfl⟩
              rw [hX] at n1 hXl
              have hXh := Lib.hid hXl
              unfold textV at n1
              obtain ⟨_, _, e3, _, _⟩ := slice_form' (HB2.row 6 rfl)
              subst e3
              clear hX hXl
              go_wp2_with (first
                | (go_at_call 56; go_must (refine (St.callPast n1 HB2).mono ?_; rintro e w11 ⟨rfl, H11⟩))
                | (at_builtin; go_must (refine St.list_app (H11.skip _) 6 rfl rfl (.tmp 168) (.tmp 171) 37 rfl Try.underlying37 Try.info9 (by decide) rfl [.string ⟨X.toArray⟩] rfl rfl (new_cells #[.string ⟨X.toArray⟩] _) (by simp [Value.oneCell']) (by omega) (by omega) ?_; intro g12 cap12 w12 H12 hz12)))
              go_roundw
              case rel =>
                refine ⟨k + 1, m2, imgs ++ [X], by omega, by omega, by go_num, hg2, by omega, hN2h.out, by simp, by simp; omega, ?_, ?_⟩
                · intro y hy
                  rcases List.mem_append.1 hy with hy | hy
                  · exact hi y hy
                  · obtain rfl : y = X := by simpa using hy
                    exact hXh.out
                · have H13 : St (fun _ => False) w w12 [StoreAt b m2, RefAt b2 m2, _] := (RefAt.mk (l := [StoreAt b m2, _]) (H12.pick [2, 3, 4, 5, 1, 6])).pick [1, 0, 2]
                  rw [List.length_append]
                  have et : texts (imgs ++ [X]) = texts imgs ++ [.string ⟨X.toArray⟩] := by simp [texts, textV]
                  rw [et]
                  exact H13
              case measure => simp [intOf]; omega
        · obtain rfl : k = ops.length := by omega
          go_wp2
          go_ret
          exact ⟨rfl, HL.below (Nat.le_refl _) (fun _ h => h.elim)⟩
end

end Go.Proofs.Ytbikjhmdpgoofab
