/- The walk of RogueBack. Conditions: the moves, and the move, can be read; the library's variables hold what its text lays. -/
import Derived.Test.YtaafedpjifaghaaDoorGp8
import Derived.Test.YtaafedpjifaghaaDoorGp9
import Derived.Test.YtaafedpjifaghaaDoorRbM
set_option linter.unusedVariables false
set_option linter.unusedSimpArgs false
namespace Go.Proofs.YtaafedpjifaghaaDoor
open Go.RowKit

theorem MvsRO.lent {S S1 : Nat → Prop} {w0 w : World} {v : Value} {l : List (Mv × Value)} (h : MvsRO S w0 v l) (hk : Kept S w0 w) (hs : ∀ k, S1 k → S k ∨ w0.heap.size ≤ k) : MvsRO S1 w v l := by
  obtain ⟨ad, cap, rfl, hlen, hbs, hcells⟩ := h
  refine ⟨ad, cap, rfl, hlen, fun y hy => ⟨(hbs y hy).1.lent hk hs, (hbs y hy).2⟩, fun hne => ?_⟩
  obtain ⟨b, o, e, hb, hS, hc⟩ := hcells hne
  exact ⟨b, o, e, Nat.lt_of_lt_of_le hb hk.size, fun h => (hs b h).elim hS (fun h => by omega), fun i y hi j u hj => (World.cell?_of_block (w := w0) (hk.block b hb hS)).trans (hc i y hi j u hj)⟩
theorem byte_wrap {i : Nat} (h : i < 6) : ∃ cb : UInt8, IntKind.u8.wrap (9 + (i : Int)) = ((cb.toNat : Nat) : Int) := by
  refine ⟨UInt8.ofNat (9 + i), ?_⟩
  rcases (show i = 0 ∨ i = 1 ∨ i = 2 ∨ i = 3 ∨ i = 4 ∨ i = 5 by omega) with rfl | rfl | rfl | rfl | rfl | rfl <;> rfl
set_option maxHeartbeats 8000000 in
set_option maxRecDepth 100000 in
theorem rogue_back {k at' tt n : Int} {bb : List UInt8} {lv x : Value} {l : List (Mv × Value)} {w : World} (hl : MvsRO (fun _ => False) w lv l) (hx : BytesRO (fun _ => False) w x bb) (hbl : bb.length ≤ 9223372036854775807) (hVar : Vars w) :
    Calls Tryd.prog 5 #[lv, .agg (mvCells ⟨k, at', tt, n, bb⟩ x)] w fun e w' => e = .returned (.bool true) ∧ Below w.heap.size w w' := by
  obtain ⟨ad, cap, rfl, hlen, _⟩ := id hl
  have kf := fun (w' : World) (h : Vars w') => first24 h
  have hlh := Lib.hid hl
  have hxh := Lib.hid hx
  clear hl hx
  obtain ⟨mb, hmb⟩ : ∃ g, w.heap.size = g := ⟨_, rfl⟩
  have HA : St (fun _ => False) w _ [Blk mb (mvCells ⟨k, at', tt, n, bb⟩ x) 40] := (St.nil (fun _ => False) w).allocAt hmb (mvCells ⟨k, at', tt, n, bb⟩ x) 40
  have hv1 := hVar.st HA
  go_enter Tryd.func5, Tryd.ntmps5
  go_upto_region 3 with (go_at_call 6; go_must (refine (St.callPast (kf _ hv1) HA).mono ?_; rintro e w1 ⟨rfl, H1⟩))
  clear hv1 HA
  by_cases hbad : 40 < l.length
  · have z3 : decide ((40 : Int) < (l.length : Int)) = true := by simp; omega
    go_wp2
    go_ret
    exact ⟨rfl, H1.below (Nat.le_refl _) (fun _ h => h.elim)⟩
  have z3 : decide ((40 : Int) < (l.length : Int)) = false := by simp; omega
  clear hbad
  go_upto_region 6 with (go_at_call 7; go_must (refine (store_made 6 (by omega) (by omega) w1).mono ?_; rintro e w2 ⟨bs, rfl, H2⟩; have H3 := H1.call0 H2))
  go_upto_region 7 with (go_at_call 8; go_must (refine (rogue_new bs _).mono ?_; rintro e w3 ⟨b, rfl, H4⟩; have H5 := H3.call0 H4))
  have g0 : (newStore 6).Good := newStore_good (by omega) (by omega)
  have n0 : (newStore 6).last.length = 6 := by decide +kernel
  obtain ⟨s0, hs0⟩ : ∃ s, newStore 6 = s := ⟨_, rfl⟩
  rw [hs0] at g0 n0 H5
  have hm : ∀ w, (Instr.makeSlice 38 (.int .i64 128) (.int .i64 128)).run Tryd.prog w = .ok (.slice (some ⟨w.heap.size, 0, none⟩) 128 128) (w.alloc (.cells (bvs (List.replicate 128 0)).toArray 5)) := fun w => make_bytes 128 (by omega) w
  obtain ⟨gb, hgb⟩ : ∃ g, w3.heap.size = g := ⟨_, rfl⟩
  obtain ⟨C0, hC0⟩ : ∃ C0, (bvs (List.replicate 128 0)).toArray = C0 := ⟨_, rfl⟩
  rw [hC0] at hm
  have H6 : St (fun _ => False) w (w3.alloc (.cells C0 5)) [StoreAt bs s0, Blk gb C0 5, RogB b bs (.slice none 0 0), Imgs (.slice none 0 0) [], Blk mb (mvCells ⟨k, at', tt, n, bb⟩ x) 40] := St.pick (l := [Imgs (.slice none 0 0) [], Blk gb C0 5, RogB b bs (.slice none 0 0), StoreAt bs s0, Blk mb (mvCells ⟨k, at', tt, n, bb⟩ x) 40]) (Stack.nil (H5.allocAt hgb C0 5)) [3, 1, 2, 0, 4]
  go_upto_region 8 with (fail)
  obtain ⟨w5, hw5⟩ : ∃ w5, w3.alloc (.cells C0 5) = w5 := ⟨_, rfl⟩
  rw [hw5] at H6
  rw [hw5]
  try rw [hgb]
  clear hw5 hgb H5 H4 H3 H2 kf hm hs0
  go_upto_block 1 with (fail)
  go_loopw [30] (fun j wr => ∃ (i : Nat) (m : StM) (c : List UInt8), i ≤ 6 ∧ j = .int .i64 i ∧ m.Good ∧ m.last.length = 6 ∧ c.length = 128 ∧ St (fun _ => False) w wr [StoreAt bs m, Blk gb (bvs c).toArray 5, RogB b bs (.slice none 0 0), Imgs (.slice none 0 0) [], Blk mb (mvCells ⟨k, at', tt, n, bb⟩ x) 40]) (fun j _ => 6 - (intOf j).toNat)
  case atStart => exact ⟨0, s0, List.replicate 128 0, by omega, rfl, g0, n0, by simp, by rw [hC0]; exact H6⟩
  case round =>
    clear H6 g0 n0 hC0
    obtain ⟨i, m, c, hi, rfl, hg, hm6, hc, HL⟩ := hrel
    by_cases hlt : i < 6
    · have z6 : (i : Int) < 6 := by omega
      have zi : (i : Int) < 128 := by omega
      have f1 := HL.free 1 i rfl
      obtain ⟨cb, hbw⟩ := byte_wrap hlt
      have c1 : wr.cell? ⟨gb, i, none⟩ = some (.int .u8 (c[i].toNat : Nat)) := HL.cell 1 i rfl (v := bv c[i]) (by simp [bvs, hc, show i < 128 by omega])
      have H7 : St (fun _ => False) w (wr.setCell ⟨gb, i, none⟩ (.int .u8 ((cb.toNat : Nat) : Int))) [StoreAt bs m, Blk gb (bvs (c.set i cb)).toArray 5, RogB b bs (.slice none 0 0), Imgs (.slice none 0 0) [], Blk mb (mvCells ⟨k, at', tt, n, bb⟩ x) 40] := by
        have := HL.set 1 rfl i (bv cb)
        have e : (bvs (c.set i cb)).toArray = (bvs c).toArray.setIfInBounds i (bv cb) := by simp [bvs, List.map_set]
        rw [e]
        exact this
      go_upto_region 12 with (fail)
      obtain ⟨wa, hwa⟩ : ∃ wa, wr.setCell ⟨gb, i, none⟩ (.int .u8 ((cb.toNat : Nat) : Int)) = wa := ⟨_, rfl⟩
      rw [hwa] at H7
      try rw [hwa]
      clear hwa hbw f1 c1 HL
      obtain ⟨S1, K1, R1, G1⟩ := St.lend (l1 := [StoreAt bs m]) H7 (n := 128) (by simpa using hc)
      have hg2 := hg.lay i (c.set i cb)
      have hl2 : (m.lay i (c.set i cb)).2.last.length = 6 := (lays_len (i : Int) [c.set i cb] m).trans hm6
      go_wp2_with (go_at_call 23; go_must (refine (store_lay hg R1 K1).mono ?_; rintro e w6 ⟨rfl, H8⟩; have H9 := G1 _ _ H8))
      go_roundw
      case rel => exact ⟨i + 1, _, c.set i cb, by omega, by go_num, hg2, hl2, by simpa using hc, H9⟩
      case measure => simp [intOf]; omega
    · obtain rfl : i = 6 := by omega
      clear hi hlt
      obtain ⟨L0, hL0⟩ : ∃ L0, m.last = L0 := ⟨_, rfl⟩
      have HL1 := HL.pick [2, 0, 3, 4]
      have hg0 : (RogM.mk m []).Good := ⟨hg, by simp, by simp⟩
      obtain ⟨S1, K1, G1⟩ := St.call (l1 := [RogB b bs (.slice none 0 0), StoreAt bs m, Imgs (.slice none 0 0) []]) HL1
      have kn := rogue_note hg0 K1
      have hg1 := hg0.note
      have en : (RogM.mk m []).note = ⟨m, [L0]⟩ := by rw [← hL0]; rfl
      rw [en] at kn hg1
      go_upto_region 15 with (go_at_call 10; go_must (refine kn.mono ?_; rintro e w6 ⟨iv, rfl, H2⟩; have H10 : St (fun _ => False) w w6 [RogB b bs iv, StoreAt bs m, Imgs iv [L0], Blk mb (mvCells ⟨k, at', tt, n, bb⟩ x) 40] := G1 _ _ H2))
      clear kn K1 G1 HL HL1
      obtain ⟨S1, K1, G1⟩ := St.call (l1 := [StoreAt bs m]) (H10.pick [1, 0, 2, 3])
      have ki := store_image hg K1
      rw [hL0] at ki
      go_upto_region 16 with (go_at_call 14; go_must (refine ki.mono ?_; rintro e w7 ⟨v1, rfl, H3⟩; have H11 : St (fun _ => False) w w7 [Row 5 1 v1 (L0.length * 128) (bvs L0.flatten), StoreAt bs m, RogB b bs iv, Imgs iv [L0], Blk mb (mvCells ⟨k, at', tt, n, bb⟩ x) 40] := G1 _ _ H3; have hcv := own_text' (H11.row 0 rfl); obtain ⟨a1, c1, rfl, _, _⟩ := slice_form' (H11.row 0 rfl)))
      clear ki K1 G1 H10 hcv
      obtain ⟨S1, K1, hS1, _, G1⟩ := St.call2 (l1 := [RogB b bs iv, StoreAt bs m, Imgs iv [L0]]) (H11.pick [2, 1, 3, 4])
      have kr := rogue_run (hlh.out.lent H11.kept hS1) hg1 K1
      obtain ⟨hg2, _⟩ := runM_good hg1 (l.map (·.1))
      have hims := (runM_imgs ⟨m, [L0]⟩ (l.map (·.1))).1
      have hlen2 := (runM_imgs ⟨m, [L0]⟩ (l.map (·.1))).2 hg1
      obtain ⟨⟨N, r2⟩, hR⟩ : ∃ R, runM (l.map (·.1)) ⟨m, [L0]⟩ = R := ⟨_, rfl⟩
      rw [hR] at kr hg2 hims hlen2
      obtain ⟨s2, ims2⟩ := r2
      simp only at hims hlen2 kr
      subst hims
      clear hR
      go_upto_region 17 with (go_at_call 17; go_must (refine kr.mono ?_; rintro e w8 ⟨rfl, H3⟩; have H12 : St (fun _ => False) w w8 [RogB b bs iv, StoreAt bs s2, Imgs iv [L0], Blk mb (mvCells ⟨k, at', tt, n, bb⟩ x) 40] := G1 _ _ H3))
      clear kr K1 G1 H11 hS1
      obtain ⟨L2, hL2⟩ : ∃ L2, s2.last = L2 := ⟨_, rfl⟩
      obtain ⟨S1, K1, G1⟩ := St.call (l1 := [StoreAt bs s2]) (H12.pick [1, 0, 2, 3])
      have ki := store_image hg2.s K1
      simp only at ki
      rw [hL2] at ki
      go_upto_region 18 with (go_at_call 14; go_must (refine ki.mono ?_; rintro e w9 ⟨v1, rfl, H3⟩; have H13 : St (fun _ => False) w w9 [Row 5 1 v1 (L2.length * 128) (bvs L2.flatten), StoreAt bs s2, RogB b bs iv, Imgs iv [L0], Blk mb (mvCells ⟨k, at', tt, n, bb⟩ x) 40] := G1 _ _ H3; have hcv := own_text' (H13.row 0 rfl); obtain ⟨a2, c2, rfl, _, _⟩ := slice_form' (H13.row 0 rfl)))
      clear ki K1 G1 H12 hcv
      obtain ⟨S1, K1, G1⟩ := St.call (l1 := [RogB b bs iv, StoreAt bs s2, Imgs iv [L0]]) (H13.pick [2, 1, 3, 4])
      have kn := rogue_note hg2 K1
      have hg3 := hg2.note
      have en : (RogM.mk s2 [L0]).note = ⟨s2, [L0, L2]⟩ := by rw [← hL2]; rfl
      rw [en] at kn hg3
      go_upto_region 19 with (go_at_call 10; go_must (refine kn.mono ?_; rintro e wa ⟨iv2, rfl, H2⟩; have H14 : St (fun _ => False) w wa [RogB b bs iv2, StoreAt bs s2, Imgs iv2 [L0, L2], Blk mb (mvCells ⟨k, at', tt, n, bb⟩ x) 40] := G1 _ _ H2))
      clear kn K1 G1 H13
      have e0 := back_last (r := ⟨s2, [L0, L2]⟩) (k := 0) (y := L0) rfl (hg3.imgs L0 (by simp)) 0 0 []
      have hg4 := hg3.do ⟨4, 0, 0, (0 : Nat), []⟩
      have hi0 := do_imgs ⟨s2, [L0, L2]⟩ ⟨4, 0, 0, (0 : Nat), []⟩
      have kd0 := fun (w' : World) (S : Nat → Prop) (K : Sep w' [RogB b bs iv2, StoreAt bs s2, Imgs iv2 [L0, L2]] S) => rogue_do (r := ⟨s2, [L0, L2]⟩) ⟨4, 0, 0, (0 : Nat), []⟩ (x := .slice none 0 0) (nil_ro _) (by simp) hg3 K
      obtain ⟨⟨ok, s3, ims⟩, hR⟩ : ∃ R, RogM.do ⟨s2, [L0, L2]⟩ ⟨4, 0, 0, (0 : Nat), []⟩ = R := ⟨_, rfl⟩
      rw [hR] at e0 hg4 hi0
      simp only [hR] at kd0
      simp only at e0 hi0
      obtain ⟨rfl, hL3⟩ := e0
      subst hi0
      clear hR
      unfold mvCells at kd0
      simp only at kd0
      have kd0 := fun (w' : World) (h : St (fun _ => False) w w' [RogB b bs iv2, StoreAt bs s2, Imgs iv2 [L0, L2], Blk mb (mvCells ⟨k, at', tt, n, bb⟩ x) 40]) => show Calls Tryd.prog 12 #[.pointer (some ⟨b, 0, none⟩), .agg #[.int .i64 4, .int .i64 0, .int .i64 0, .int .i64 0, .slice none 0 0]] w' fun e w2 => e = .returned (.bool true) ∧ St (fun _ => False) w w2 [RogB b bs iv2, StoreAt bs s3, Imgs iv2 [L0, L2], Blk mb (mvCells ⟨k, at', tt, n, bb⟩ x) 40] by
        obtain ⟨S1, K1, G1⟩ := St.call (l1 := [RogB b bs iv2, StoreAt bs s2, Imgs iv2 [L0, L2]]) h
        refine (kd0 _ _ K1).mono ?_
        rintro e w2 ⟨rfl, H2⟩
        exact ⟨rfl, G1 _ _ H2⟩
      have ki0 := fun (w' : World) (h : St (fun _ => False) w w' [RogB b bs iv2, StoreAt bs s3, Imgs iv2 [L0, L2], Blk mb (mvCells ⟨k, at', tt, n, bb⟩ x) 40]) => show Calls Tryd.prog 14 #[.pointer (some ⟨bs, 0, none⟩)] w' fun e w2 => ∃ ai ci, e = .returned (.slice ai (L0.length * 128) ci) ∧ St (fun _ => False) w w2 [RogB b bs iv2, StoreAt bs s3, Imgs iv2 [L0, L2], Blk mb (mvCells ⟨k, at', tt, n, bb⟩ x) 40] ∧ (convert 38 9 (.slice ai (L0.length * 128) ci)).run Tryd.prog w2 = .ok (.string ⟨L0.flatten.toArray⟩) w2 by
        obtain ⟨S1, K1, G1⟩ := St.call (l1 := [StoreAt bs s3]) (h.pick [1, 0, 2, 3])
        have ki := store_image hg4.s K1
        simp only at ki
        rw [hL3] at ki
        refine ki.mono ?_
        rintro e w2 ⟨v1, rfl, H2⟩
        have H3 : St (fun _ => False) w w2 [Row 5 1 v1 (L0.length * 128) (bvs L0.flatten), StoreAt bs s3, RogB b bs iv2, Imgs iv2 [L0, L2], Blk mb (mvCells ⟨k, at', tt, n, bb⟩ x) 40] := G1 _ _ H2
        obtain ⟨ai, ci, rfl, _, _⟩ := slice_form' (H3.row 0 rfl)
        exact ⟨ai, ci, rfl, H3.pick [2, 1, 3, 4], own_text' (H3.row 0 rfl)⟩
      have e1 := back_last (r := ⟨s3, [L0, L2]⟩) (k := 1) (y := L2) rfl (hg4.imgs L2 (by simp)) 0 0 []
      have hg5 := hg4.do ⟨4, 0, 0, (1 : Nat), []⟩
      have hi1 := do_imgs ⟨s3, [L0, L2]⟩ ⟨4, 0, 0, (1 : Nat), []⟩
      have kd1 := fun (w' : World) (S : Nat → Prop) (K : Sep w' [RogB b bs iv2, StoreAt bs s3, Imgs iv2 [L0, L2]] S) => rogue_do (r := ⟨s3, [L0, L2]⟩) ⟨4, 0, 0, (1 : Nat), []⟩ (x := .slice none 0 0) (nil_ro _) (by simp) hg4 K
      obtain ⟨⟨ok, s4, ims⟩, hR⟩ : ∃ R, RogM.do ⟨s3, [L0, L2]⟩ ⟨4, 0, 0, (1 : Nat), []⟩ = R := ⟨_, rfl⟩
      rw [hR] at e1 hg5 hi1
      simp only [hR] at kd1
      simp only at e1 hi1
      obtain ⟨rfl, hL4⟩ := e1
      subst hi1
      clear hR
      unfold mvCells at kd1
      simp only at kd1
      have kd1 := fun (w' : World) (h : St (fun _ => False) w w' [RogB b bs iv2, StoreAt bs s3, Imgs iv2 [L0, L2], Blk mb (mvCells ⟨k, at', tt, n, bb⟩ x) 40]) => show Calls Tryd.prog 12 #[.pointer (some ⟨b, 0, none⟩), .agg #[.int .i64 4, .int .i64 0, .int .i64 0, .int .i64 1, .slice none 0 0]] w' fun e w2 => e = .returned (.bool true) ∧ St (fun _ => False) w w2 [RogB b bs iv2, StoreAt bs s4, Imgs iv2 [L0, L2], Blk mb (mvCells ⟨k, at', tt, n, bb⟩ x) 40] by
        obtain ⟨S1, K1, G1⟩ := St.call (l1 := [RogB b bs iv2, StoreAt bs s3, Imgs iv2 [L0, L2]]) h
        refine (kd1 _ _ K1).mono ?_
        rintro e w2 ⟨rfl, H2⟩
        exact ⟨rfl, G1 _ _ H2⟩
      have ki1 := fun (w' : World) (h : St (fun _ => False) w w' [RogB b bs iv2, StoreAt bs s4, Imgs iv2 [L0, L2], Blk mb (mvCells ⟨k, at', tt, n, bb⟩ x) 40]) => show Calls Tryd.prog 14 #[.pointer (some ⟨bs, 0, none⟩)] w' fun e w2 => ∃ ai ci, e = .returned (.slice ai (L2.length * 128) ci) ∧ St (fun _ => False) w w2 [RogB b bs iv2, StoreAt bs s4, Imgs iv2 [L0, L2], Blk mb (mvCells ⟨k, at', tt, n, bb⟩ x) 40] ∧ (convert 38 9 (.slice ai (L2.length * 128) ci)).run Tryd.prog w2 = .ok (.string ⟨L2.flatten.toArray⟩) w2 by
        obtain ⟨S1, K1, G1⟩ := St.call (l1 := [StoreAt bs s4]) (h.pick [1, 0, 2, 3])
        have ki := store_image hg5.s K1
        simp only at ki
        rw [hL4] at ki
        refine ki.mono ?_
        rintro e w2 ⟨v1, rfl, H2⟩
        have H3 : St (fun _ => False) w w2 [Row 5 1 v1 (L2.length * 128) (bvs L2.flatten), StoreAt bs s4, RogB b bs iv2, Imgs iv2 [L0, L2], Blk mb (mvCells ⟨k, at', tt, n, bb⟩ x) 40] := G1 _ _ H2
        obtain ⟨ai, ci, rfl, _, _⟩ := slice_form' (H3.row 0 rfl)
        exact ⟨ai, ci, rfl, H3.pick [2, 1, 3, 4], own_text' (H3.row 0 rfl)⟩
      clear hg3 hg4 hL3
      go_upto_region 21 with (first
        | (go_at_call 12; go_must (first
            | (refine (kd1 _ H16).mono ?_; rintro e wd ⟨rfl, H17⟩)
            | (refine (kd0 _ H14).mono ?_; rintro e wb ⟨rfl, H15⟩)))
        | (go_at_call 14; go_must (first
            | (refine (ki1 _ H17).mono ?_; rintro e we ⟨a4, c4, rfl, H18, hcv2⟩)
            | (refine (ki0 _ H15).mono ?_; rintro e wc ⟨a3, c3, rfl, H16, hcv1⟩))))
      clear H14 H15 H16 H17 kd0 kd1 ki0 ki1
      have m0 : we.cell? ⟨mb, 0, none⟩ = some (.int .i64 k) := H18.cell 3 0 rfl rfl
      by_cases hk : k = 1 ∨ k = 5
      · have und := undone hg5 (v := ⟨k, at', tt, n, bb⟩) hk
        have mk1 : (if k = 1 then false else true) = !decide (k = 1) := by by_cases h : k = 1 <;> simp [h]
        have hg6 := hg5.do ⟨k, at', tt, n, bb⟩
        have hi6 := do_imgs ⟨s4, [L0, L2]⟩ ⟨k, at', tt, n, bb⟩
        have kd3 := fun (w' : World) (h : St (fun _ => False) w w' [RogB b bs iv2, StoreAt bs s4, Imgs iv2 [L0, L2], Blk mb (mvCells ⟨k, at', tt, n, bb⟩ x) 40]) => show Calls Tryd.prog 12 #[.pointer (some ⟨b, 0, none⟩), .agg #[.int .i64 k, .int .i64 at', .int .i64 tt, .int .i64 n, x]] w' fun e w2 => e = .returned (.bool (RogM.do ⟨s4, [L0, L2]⟩ ⟨k, at', tt, n, bb⟩).1) ∧ St (fun _ => False) w w2 [RogB b bs iv2, StoreAt bs (RogM.do ⟨s4, [L0, L2]⟩ ⟨k, at', tt, n, bb⟩).2.s, Imgs iv2 (RogM.do ⟨s4, [L0, L2]⟩ ⟨k, at', tt, n, bb⟩).2.imgs, Blk mb (mvCells ⟨k, at', tt, n, bb⟩ x) 40] by
          obtain ⟨S1, K1, hS1, _, G1⟩ := St.call2 (l1 := [RogB b bs iv2, StoreAt bs s4, Imgs iv2 [L0, L2]]) h
          refine (rogue_do (r := ⟨s4, [L0, L2]⟩) ⟨k, at', tt, n, bb⟩ (hxh.out.lent h.kept hS1) hbl hg5 K1).mono ?_
          rintro e w2 ⟨rfl, H2⟩
          exact ⟨rfl, G1 _ _ H2⟩
        obtain ⟨⟨d, s5, ims⟩, hR⟩ : ∃ R, RogM.do ⟨s4, [L0, L2]⟩ ⟨k, at', tt, n, bb⟩ = R := ⟨_, rfl⟩
        rw [hR] at und hg6 hi6
        simp only [hR] at kd3
        simp only at hi6
        subst hi6
        clear hR
        have hi7 := do_imgs ⟨s5, [L0, L2]⟩ ⟨k, at', tt, n, bb⟩
        have hg7 := hg6.do ⟨k, at', tt, n, bb⟩
        have kd4 := fun (w' : World) (h : St (fun _ => False) w w' [RogB b bs iv2, StoreAt bs s5, Imgs iv2 [L0, L2], Blk mb (mvCells ⟨k, at', tt, n, bb⟩ x) 40]) => show Calls Tryd.prog 12 #[.pointer (some ⟨b, 0, none⟩), .agg #[.int .i64 k, .int .i64 at', .int .i64 tt, .int .i64 n, x]] w' fun e w2 => e = .returned (.bool (RogM.do ⟨s5, [L0, L2]⟩ ⟨k, at', tt, n, bb⟩).1) ∧ St (fun _ => False) w w2 [RogB b bs iv2, StoreAt bs (RogM.do ⟨s5, [L0, L2]⟩ ⟨k, at', tt, n, bb⟩).2.s, Imgs iv2 (RogM.do ⟨s5, [L0, L2]⟩ ⟨k, at', tt, n, bb⟩).2.imgs, Blk mb (mvCells ⟨k, at', tt, n, bb⟩ x) 40] by
          obtain ⟨S1, K1, hS1, _, G1⟩ := St.call2 (l1 := [RogB b bs iv2, StoreAt bs s5, Imgs iv2 [L0, L2]]) h
          refine (rogue_do (r := ⟨s5, [L0, L2]⟩) ⟨k, at', tt, n, bb⟩ (hxh.out.lent h.kept hS1) hbl hg6 K1).mono ?_
          rintro e w2 ⟨rfl, H2⟩
          exact ⟨rfl, G1 _ _ H2⟩
        obtain ⟨⟨d', s6, ims⟩, hR⟩ : ∃ R, RogM.do ⟨s5, [L0, L2]⟩ ⟨k, at', tt, n, bb⟩ = R := ⟨_, rfl⟩
        rw [hR] at und hg7 hi7
        simp only [hR] at kd4
        simp only at hi7 und
        subst hi7
        obtain ⟨rfl, hL6⟩ := und
        clear hR
        rw [hL4] at hL6
        have ki6 := fun (w' : World) (h : St (fun _ => False) w w' [RogB b bs iv2, StoreAt bs s6, Imgs iv2 [L0, L2], Blk mb (mvCells ⟨k, at', tt, n, bb⟩ x) 40]) => show Calls Tryd.prog 14 #[.pointer (some ⟨bs, 0, none⟩)] w' fun e w2 => ∃ ai ci, e = .returned (.slice ai (L2.length * 128) ci) ∧ St (fun _ => False) w w2 [RogB b bs iv2, StoreAt bs s6, Imgs iv2 [L0, L2], Blk mb (mvCells ⟨k, at', tt, n, bb⟩ x) 40] ∧ (convert 38 9 (.slice ai (L2.length * 128) ci)).run Tryd.prog w2 = .ok (.string ⟨L2.flatten.toArray⟩) w2 by
          obtain ⟨S1, K1, G1⟩ := St.call (l1 := [StoreAt bs s6]) (h.pick [1, 0, 2, 3])
          have ki := store_image hg7.s K1
          simp only at ki
          rw [hL6] at ki
          refine ki.mono ?_
          rintro e w2 ⟨v1, rfl, H2⟩
          have H3 : St (fun _ => False) w w2 [Row 5 1 v1 (L2.length * 128) (bvs L2.flatten), StoreAt bs s6, RogB b bs iv2, Imgs iv2 [L0, L2], Blk mb (mvCells ⟨k, at', tt, n, bb⟩ x) 40] := G1 _ _ H2
          obtain ⟨ai, ci, rfl, _, _⟩ := slice_form' (H3.row 0 rfl)
          exact ⟨ai, ci, rfl, H3.pick [2, 1, 3, 4], own_text' (H3.row 0 rfl)⟩
        have hdd : (d' == d') = true := by simp
        clear m0
        have m0 : we.cell? ⟨mb, 0, none⟩ = some (.int .i64 k) := H18.cell 3 0 rfl rfl
        have m1 : we.cell? ⟨mb, 1, none⟩ = some (.int .i64 at') := H18.cell 3 1 rfl rfl
        have m2 : we.cell? ⟨mb, 2, none⟩ = some (.int .i64 tt) := H18.cell 3 2 rfl rfl
        have m3 : we.cell? ⟨mb, 3, none⟩ = some (.int .i64 n) := H18.cell 3 3 rfl rfl
        have m4 : we.cell? ⟨mb, 4, none⟩ = some (x) := H18.cell 3 4 rfl rfl
        rcases hk with hk | hk
        case' inl =>
          have z1 : (k != 1) = false := by simp [hk]
          go_upto_region 23 with (fail)
        case' inr =>
          have z1 : (k != 1) = true := by simp [hk]
          have z5 : (k != 5) = false := by simp [hk]
          go_upto_region 23 with (fail)
        all_goals
          clear z1 hk
          go_wp2_with (first
            | (go_at_call 12; go_must (first
                | (refine (kd4 _ H19).mono ?_; rintro e wg ⟨rfl, H20⟩)
                | (refine (kd3 _ H18).mono ?_; rintro e wf ⟨rfl, H19⟩; clear m0 m1 m2 m3 m4; have n0 : wf.cell? ⟨mb, 0, none⟩ = some (.int .i64 k) := H19.cell 3 0 rfl rfl; have n1 : wf.cell? ⟨mb, 1, none⟩ = some (.int .i64 at') := H19.cell 3 1 rfl rfl; have n2 : wf.cell? ⟨mb, 2, none⟩ = some (.int .i64 tt) := H19.cell 3 2 rfl rfl; have n3 : wf.cell? ⟨mb, 3, none⟩ = some (.int .i64 n) := H19.cell 3 3 rfl rfl; have n4 : wf.cell? ⟨mb, 4, none⟩ = some (x) := H19.cell 3 4 rfl rfl)))
            | (go_at_call 14; go_must (refine (ki6 _ H20).mono ?_; rintro e wh ⟨a5, c5, rfl, H21, hcv3⟩)))
          go_ret
          exact ⟨rfl, H21.below (Nat.le_refl _) (fun _ h => h.elim)⟩
      · have z1 : (k != 1) = true := by simp; omega
        have z5 : (k != 5) = true := by simp; omega
        go_wp2
        go_ret
        exact ⟨rfl, H18.below (Nat.le_refl _) (fun _ h => h.elim)⟩

end Go.Proofs.YtaafedpjifaghaaDoor
