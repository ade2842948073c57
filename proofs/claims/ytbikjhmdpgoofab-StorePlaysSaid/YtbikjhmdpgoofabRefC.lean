/- The walks of the reference's store: Sync, Crash. Conditions: its blocks lie as its maker lays them. -/
import Derived.Test.YtbikjhmdpgoofabRefB
import Derived.Test.YtbikjhmdpgoofabStP
import Derived.Test.YtbikjhmdpgoofabStoreD
import Derived.Test.YtbikjhmdpgoofabApp
namespace Go.Proofs.Ytbikjhmdpgoofab
open Go.RowKit

theorem texts_at {l : List (List UInt8)} {k : Nat} {x : List UInt8} (h : l[k]? = some x) : (texts l)[k]? = some (textV x) := by simp [texts, h]
theorem texts_set (l : List (List UInt8)) (k : Nat) (x : List UInt8) : (texts l).set k (textV x) = texts (l.set k x) := by simp [texts, List.map_set]
theorem take_set_len {α : Type} (l : List α) (k : Nat) : (l.take k).length ≤ l.length := by rw [List.length_take]; omega

theorem St.textSet {S : Nat → Prop} {w0 w : World} {l : List SP} (H : St S w0 w l) (i : Nat) {g n c : Nat} {L : List (List UInt8)} (hi : l[i]? = some (Row 9 1 (.slice (some ⟨g, 0, none⟩) n c) n (texts L))) (p : Nat) (X : List UInt8) {v : Value} (hv : textV X = v) :
    St S w0 (w.setCell ⟨g, p, none⟩ v) (l.set i (Row 9 1 (.slice (some ⟨g, 0, none⟩) n c) n (texts (L.set p X)))) := by
  have h := H.rowSet i hi p (textV X)
  rw [texts_set, hv] at h
  exact h
set_option maxHeartbeats 2000000 in
set_option maxRecDepth 100000 in
theorem ref_sync {b : Nat} {m : StM} {w : World} {S : Nat → Prop} (hg : m.Good) (H : Sep w [RefAt b m] S) :
    Calls Try.prog 80 #[.pointer (some ⟨b, 0, none⟩)] w fun e w' => e = .returned (.int .i64 m.sync.1) ∧ St S w w' [RefAt b m.sync.2] := by
  have hcal := hg.calls
  by_cases h3 : m.calls = 0
  · have hfin : m.sync = (31, m) := by simp [StM.sync, h3]
    have hE : spendE m.calls = 31 := by simp [spendE, h3]
    have hM : m.spend = m := by simp only [StM.spend, spendC, h3]; simp [← h3]
    have hh := Lib.hid (And.intro hE hM)
    rw [hfin]
    clear hfin hE hM h3
    go_enter Try.func80, Try.ntmps80
    go_wp2_with (go_at_call 84; go_must (refine (refAt_spend hcal H).mono ?_; rintro e w1 ⟨rfl, H2⟩; rw [hh.out.1]; rw [hh.out.2] at H2))
    go_ret
    exact ⟨rfl, H2⟩
  · have hfin : m.sync = (0, m.spend.settle fun _ => 128) := by simp [StM.sync, h3]
    have hE : spendE m.calls = 0 := by simp [spendE, h3]
    have hh := Lib.hid hE
    have hcnt := hg.count
    have hwl := hg.room
    rw [hfin]
    clear hfin hE h3
    go_enter Try.func80, Try.ntmps80
    go_upto_region 3 with (go_at_call 84; go_must (refine (refAt_spend hcal H).mono ?_; rintro e w1 ⟨rfl, H2⟩; rw [hh.out]; obtain ⟨vl, vw, vc, H3⟩ := RefAt.open H2))
    have H3 : St S w w1 [Blk b #[vl, vw, .int .i64 m.spend.calls, vc] 41, Row 9 1 vl m.last.length (texts m.last), Row 46 2 vw m.waits.length (refWaits m.waits), Row 3 1 vc m.reads.length (intCells m.reads)] := H3
    obtain ⟨cl, hcl⟩ : ∃ c, m.spend.calls = c := ⟨_, rfl⟩
    rw [hcl] at H3
    clear H2
    obtain ⟨gl, ll, rfl⟩ := row_form (H3.row 1 rfl) (N := m.last.length) rfl (by omega)
    obtain ⟨aw, cw, rfl, _, haw⟩ := slice_form' (H3.row 2 rfl)
    have c1 := H3.cell 0 1 rfl rfl
    go_upto_block 1 with (fail)
    clear c1
    go_loopw [15] (fun j wr => ∃ (k : Nat) (L : List (List UInt8)), k ≤ m.waits.length ∧ j = .int .i64 k ∧ L = settleFrom (fun _ => 128) 0 (m.waits.take k) m.last ∧
      St S w wr [Blk b #[.slice (some ⟨gl, 0, none⟩) m.last.length ll, .slice aw m.waits.length cw, .int .i64 cl, vc] 41, Row 9 1 (.slice (some ⟨gl, 0, none⟩) m.last.length ll) m.last.length (texts L), Row 46 2 (.slice aw m.waits.length cw) m.waits.length (refWaits m.waits), Row 3 1 vc m.reads.length (intCells m.reads)]) (fun j _ => m.waits.length - (intOf j).toNat)
    case atStart => exact ⟨0, m.last, by omega, rfl, rfl, H3⟩
    case round =>
      clear H3
      obtain ⟨k, L, hk, rfl, hL, HL⟩ := hrel
      by_cases hlt : k < m.waits.length
      · obtain ⟨gw, rfl⟩ := haw (by omega)
        obtain ⟨y, hy⟩ : ∃ y, m.waits[k]? = some y := ⟨_, List.getElem?_eq_getElem hlt⟩
        obtain ⟨hy0, hy1, hy2⟩ := hg.waits y (List.mem_of_getElem? hy)
        have hLl : L.length = m.last.length := by rw [hL, settle_len]
        have hLf : ∀ x ∈ L, x.length = 128 := by rw [hL]; exact settle_full _ _ _ _ rfl hg.full (fun x hx => hg.waits x (List.mem_of_mem_take hx))
        have hst := Lib.hid (show settleFrom (fun _ => 128) 0 (m.waits.take (k + 1)) m.last = L.set y.1.toNat y.2 by
          rw [take_snoc' hy, settle_snoc, ← hL, settle_whole (Nat.le_refl _) hy2 hLf])
        have q1 := HL.rowCell 2 (k * 2) rfl (refWaits_at hy).1
        have q2 := HL.rowCell 2 (k * 2 + 1) rfl (refWaits_at hy).2
        have hgw := HL.row_lt 2 rfl
        clear hy hL hLf
        obtain ⟨y1, y2⟩ := y
        simp only at hy0 hy1 hy2 hst q1 q2
        obtain ⟨p, rfl⟩ := Int.eq_ofNat_of_zero_le hy0
        have hpl : p < m.last.length := by omega
        have hpt : (p : Int).toNat = p := by omega
        rw [hpt] at hst
        obtain ⟨z, hz⟩ : ∃ z, L[p]? = some z := ⟨_, List.getElem?_eq_getElem (by omega)⟩
        unfold textV at q2
        have HA : St S w _ [_, _, _, _, _] := HL.allocAt rfl #[.int .i64 p, .string ⟨y2.toArray⟩] 46
        go_upto_region 6 with (fail)
        obtain ⟨wa, hwa⟩ : ∃ wa, wr.alloc (.cells #[.int .i64 p, .string ⟨y2.toArray⟩] 46) = wa := ⟨_, rfl⟩
        obtain ⟨ob, hob⟩ : ∃ ob, wr.heap.size = ob := ⟨_, rfl⟩
        rw [hwa, hob] at HA
        try rw [hwa]
        try simp only [hob]
        clear hwa hob q1 q2 HL
        have d0 := HA.cell 0 0 rfl rfl
        have d1 := HA.cell 0 1 rfl rfl
        have s0 := HA.cell 1 0 rfl rfl
        have r0 := HA.rowCell 2 p rfl (texts_at hz)
        unfold textV at r0
        have f0 := HA.rowFree 2 p rfl
        have H6 : St S w _ [_, _, _, _, _] := HA.rowSet 2 rfl p (textV y2)
        rw [texts_set] at H6
        unfold textV at H6
        have hpc : (p : Int) < (m.last.length : Int) := by omega
        clear hz
        go_region
        go_wp2
        go_roundw
        case rel => exact ⟨k + 1, L.set p y2, by omega, by go_num, hst.out.symm, (H6.drew).pick [1, 2, 3, 4]⟩
        case measure => simp [intOf]; omega
      · obtain rfl : k = m.waits.length := by omega
        rw [List.take_length] at hL
        have hLh := Lib.hid hL
        have hLl := Lib.hid (show L.length = m.last.length by rw [hL, settle_len])
        clear hL
        have s1 := HL.cell 0 1 rfl rfl
        have f1 := HL.free 0 1 rfl
        have H6 : St S w _ [_, _, _, _] := HL.set 0 rfl 1 (.slice none 0 0)
        go_wp2
        go_ret
        refine ⟨rfl, RefAt.mk (l := []) (m := m.spend.settle fun _ => 128) (vl := .slice (some ⟨gl, 0, none⟩) m.last.length ll) (vw := .slice none 0 0) (vc := vc) ?_⟩
        have H7 := ((H6.pick [0, 1, 3]).row_nil 46 2).pick [1, 2, 0, 3]
        have e1 : (m.spend.settle fun _ => 128).last = L := hLh.out.symm
        have e2 : (m.spend.settle fun _ => 128).waits = [] := rfl
        have e3 : (m.spend.settle fun _ => 128).reads = m.reads := rfl
        have e4 : (m.spend.settle fun _ => 128).calls = cl := hcl
        unfold refParts
        rw [e1, e2, e3, e4, hLl.out]
        exact H7

theorem text_cut (y z : List UInt8) (n : Nat) (hz : z.length = 128) : textV (y.take n ++ z.drop n) = .string ((⟨y.toArray⟩ : ByteArray).extract 0 n ++ (⟨z.toArray⟩ : ByteArray).extract n 128) := by
  unfold textV
  congr 1
  apply ByteArray.ext
  rw [ByteArray.data_append, ByteArray.data_extract, ByteArray.data_extract]
  apply Array.ext'
  rw [Array.toList_append, Array.toList_extract, Array.toList_extract]
  simp only [List.extract_eq_take_drop, Nat.sub_zero, List.drop_zero]
  rw [List.take_of_length_le (l := z.drop n) (by rw [List.length_drop, hz]; omega)]
theorem text_cut128 (y z : List UInt8) (hz : z.length = 128) : textV (y.take 128 ++ z.drop 128) = .string ((⟨y.toArray⟩ : ByteArray).extract 0 128) := by
  rw [List.drop_of_length_le (by omega), List.append_nil]
  unfold textV
  congr 1
  apply ByteArray.ext
  rw [ByteArray.data_extract]
  apply Array.ext'
  rw [Array.toList_extract]
  simp [List.extract_eq_take_drop]
set_option maxHeartbeats 4000000 in
set_option maxRecDepth 100000 in
theorem ref_crash {b : Nat} {m : StM} {torn cut : Int} {keep : List Bool} {kv : Value} {w : World} {S : Nat → Prop} (hg : m.Good) (hk : BoolsRO S w kv keep) (H : Sep w [RefAt b m] S) :
    Calls Try.prog 81 #[.pointer (some ⟨b, 0, none⟩), kv, .int .i64 torn, .int .i64 cut] w fun e w' => e = .returned (.tuple #[]) ∧ St S w w' [RefAt b (m.crash keep torn cut)] := by
  have hcnt := hg.count
  have hwl := hg.room
  obtain ⟨vl, vw, vc, H3⟩ := RefAt.open (St.refl H)
  have H3 : St S w w [Blk b #[vl, vw, .int .i64 m.calls, vc] 41, Row 9 1 vl m.last.length (texts m.last), Row 46 2 vw m.waits.length (refWaits m.waits), Row 3 1 vc m.reads.length (intCells m.reads)] := H3
  obtain ⟨cl, hcl⟩ : ∃ c, m.calls = c := ⟨_, rfl⟩
  rw [hcl] at H3
  clear hcl
  obtain ⟨gl, ll, rfl⟩ := row_form (H3.row 1 rfl) (N := m.last.length) rfl (by omega)
  obtain ⟨aw, cw, rfl, _, haw⟩ := slice_form' (H3.row 2 rfl)
  obtain ⟨ka, kcap, rfl, hkl, hkc⟩ := id hk
  have c1 := H3.cell 0 1 rfl rfl
  go_enter Try.func81, Try.ntmps81
  go_upto_block 1 with (fail)
  clear c1
  go_loopw [3, 15] (fun cv j wr => ∃ (k : Nat) (c : Int) (L : List (List UInt8)), k ≤ m.waits.length ∧ j = .int .i64 k ∧ cv = .int .i64 c ∧ Hid (cutOf c = cutOf cut) ∧ L = settleFrom (crashLasts keep torn cut) 0 (m.waits.take k) m.last ∧
      St S w wr [Blk b #[.slice (some ⟨gl, 0, none⟩) m.last.length ll, .slice aw m.waits.length cw, .int .i64 cl, vc] 41, Row 9 1 (.slice (some ⟨gl, 0, none⟩) m.last.length ll) m.last.length (texts L), Row 46 2 (.slice aw m.waits.length cw) m.waits.length (refWaits m.waits), Row 3 1 vc m.reads.length (intCells m.reads)]) (fun _ j _ => m.waits.length - (intOf j).toNat)
  case atStart => exact ⟨0, cut, m.last, by omega, rfl, rfl, Lib.hid rfl, rfl, H3⟩
  case round =>
    clear H3
    obtain ⟨k, c, L, hkw, rfl, rfl, hcc, hL, HL⟩ := hrel
    by_cases hlt : k < m.waits.length
    · obtain ⟨gw, rfl⟩ := haw (by omega)
      obtain ⟨y, hy⟩ : ∃ y, m.waits[k]? = some y := ⟨_, List.getElem?_eq_getElem hlt⟩
      obtain ⟨hy0, hy1, hy2⟩ := hg.waits y (List.mem_of_getElem? hy)
      have hLl : L.length = m.last.length := by rw [hL, settle_len]
      have hLf : ∀ x ∈ L, x.length = 128 := by rw [hL]; exact settle_full _ _ _ _ rfl hg.full (fun x hx => hg.waits x (List.mem_of_mem_take hx))
      have hst : settleFrom (crashLasts keep torn cut) 0 (m.waits.take (k + 1)) m.last = settleOne (crashLasts keep torn cut) k y L := by
        rw [take_snoc' hy, settle_snoc, ← hL, List.length_take, Nat.zero_add, Nat.min_eq_left (by omega)]
      have q1 := HL.rowCell 2 (k * 2) rfl (refWaits_at hy).1
      have q2 := HL.rowCell 2 (k * 2 + 1) rfl (refWaits_at hy).2
      have hgw := HL.row_lt 2 rfl
      clear hy hL
      obtain ⟨y1, y2⟩ := y
      simp only at hy0 hy1 hy2 q1 q2
      obtain ⟨p, rfl⟩ := Int.eq_ofNat_of_zero_le hy0
      have hpl : p < m.last.length := by omega
      have hpt : (p : Int).toNat = p := by omega
      obtain ⟨z, hz⟩ : ∃ z, L[p]? = some z := ⟨_, List.getElem?_eq_getElem (by omega)⟩
      have hzl := hLf z (List.mem_of_getElem? hz)
      have hgd : L.getD p [] = z := by rw [List.getD_eq_getElem?_getD, hz]; rfl
      unfold textV at q2
      have HA : St S w _ [_, _, _, _, _] := HL.allocAt rfl #[.int .i64 p, .string ⟨y2.toArray⟩] 46
      have hsy : (⟨y2.toArray⟩ : ByteArray).size = 128 := by simp [ByteArray.size, hy2]
      have hsz : (⟨z.toArray⟩ : ByteArray).size = 128 := by simp [ByteArray.size, hzl]
      go_upto_region 3 with (fail)
      obtain ⟨wa, hwa⟩ : ∃ wa, wr.alloc (.cells #[.int .i64 p, .string ⟨y2.toArray⟩] 46) = wa := ⟨_, rfl⟩
      obtain ⟨ob, hob⟩ : ∃ ob, wr.heap.size = ob := ⟨_, rfl⟩
      rw [hwa, hob] at HA
      try rw [hwa]
      try simp only [hob]
      clear hwa hob q1 q2 HL
      have d0 := HA.cell 0 0 rfl rfl
      have d1 := HA.cell 0 1 rfl rfl
      have s0 := HA.cell 1 0 rfl rfl
      have r0 := HA.rowCell 2 p rfl (texts_at hz)
      unfold textV at r0
      have f0 := HA.rowFree 2 p rfl
      have hpc : (p : Int) < (m.last.length : Int) := by omega
      by_cases ht : (k : Int) = torn
      · have y1 : ((k : Int) == torn) = true := by simpa using ht
        obtain ⟨n, hn, hn2⟩ : ∃ n : Nat, cutOf cut = n ∧ n ≤ 128 := ⟨_, rfl, by unfold cutOf; split <;> omega⟩
        have hst2 := Lib.hid (show settleFrom (crashLasts keep torn cut) 0 (m.waits.take (k + 1)) m.last = L.set p (y2.take n ++ z.drop n) by
          rw [hst, settleOne, crashLasts, if_pos ht, hn]
          simp only [hpt, hgd])
        clear hst hz hgd hLf
        have hcn : cutOf c = n := hcc.out.trans hn
        clear hcc
        by_cases hbad : c < 0 ∨ 128 < c
        · obtain rfl : n = 128 := by unfold cutOf at hcn; rw [if_pos hbad] at hcn; omega
          have hcch := Lib.hid (show cutOf 128 = cutOf cut by rw [hn]; rfl)
          have H6 : St S w (wa.setCell ⟨gl, p, none⟩ (.string ((⟨y2.toArray⟩ : ByteArray).extract 0 128))) [_, _, _, _, _] := HA.textSet 2 rfl p (y2.take 128 ++ z.drop 128) (text_cut128 y2 z hzl)
          clear hn
          by_cases hb1 : c < 0
          · have z1 : decide (c < 0) = true := by simpa using hb1
            clear hbad hcn ht hb1
            go_upto_region 6 with (fail)
            go_region
            go_wp2
            go_roundw
            case rel => exact ⟨k + 1, 128, L.set p (y2.take 128 ++ z.drop 128), by omega, by go_num, rfl, hcch, hst2.out.symm, (H6.drew).pick [1, 2, 3, 4]⟩
            case measure => simp [intOf]; omega
          · have z1 : decide (c < 0) = false := by simpa using hb1
            have z2 : decide (128 < c) = true := by simp; omega
            clear hbad hcn ht hb1
            go_upto_region 6 with (fail)
            go_region
            go_wp2
            go_roundw
            case rel => exact ⟨k + 1, 128, L.set p (y2.take 128 ++ z.drop 128), by omega, by go_num, rfl, hcch, hst2.out.symm, (H6.drew).pick [1, 2, 3, 4]⟩
            case measure => simp [intOf]; omega
        · obtain rfl : c = (n : Int) := by unfold cutOf at hcn; rw [if_neg hbad] at hcn; omega
          have z1 : decide ((n : Int) < 0) = false := by simp
          have z2 : decide ((128 : Int) < (n : Int)) = false := by simp; omega
          have hcch := Lib.hid (show cutOf (n : Int) = cutOf cut by rw [hcn, hn])
          have H6 : St S w (wa.setCell ⟨gl, p, none⟩ (.string ((⟨y2.toArray⟩ : ByteArray).extract 0 n ++ (⟨z.toArray⟩ : ByteArray).extract n 128))) [_, _, _, _, _] := HA.textSet 2 rfl p (y2.take n ++ z.drop n) (text_cut y2 z n hzl)
          clear hbad hcn ht hn
          go_upto_region 6 with (fail)
          go_region
          go_wp2
          go_roundw
          case rel => exact ⟨k + 1, n, L.set p (y2.take n ++ z.drop n), by omega, by go_num, rfl, hcch, hst2.out.symm, (H6.drew).pick [1, 2, 3, 4]⟩
          case measure => simp [intOf]; omega
      · have y1 : ((k : Int) == torn) = false := by simpa using ht
        by_cases hkk : k < keep.length
        · obtain ⟨kb, ko, rfl, hkb, hkS, hkcc⟩ := hkc (by rintro rfl; simp at hkk)
          have q4 : wa.cell? ⟨kb, ko + k, none⟩ = some (.bool keep[k]) := (World.cell?_of_block (w := w) (HA.kept.block kb hkb hkS)).trans (hkcc k hkk)
          by_cases h3 : keep[k] = true
          · have hst2 := Lib.hid (show settleFrom (crashLasts keep torn cut) 0 (m.waits.take (k + 1)) m.last = L.set p y2 by
              rw [hst, settle_whole (by rw [crashLasts, if_neg ht]; simp [List.getD, hkk, h3]) hy2 hLf]
              simp only [hpt])
            rw [h3] at q4
            have H6 : St S w (wa.setCell ⟨gl, p, none⟩ (.string ⟨y2.toArray⟩)) [_, _, _, _, _] := HA.textSet 2 rfl p y2 rfl
            clear hst hz hgd hLf ht h3 hkcc hkc
            go_upto_region 8 with (fail)
            go_region
            go_wp2
            go_roundw
            case rel => exact ⟨k + 1, c, L.set p y2, by omega, by go_num, rfl, hcc, hst2.out.symm, (H6.drew).pick [1, 2, 3, 4]⟩
            case measure => simp [intOf]; omega
          · have h3' : keep[k] = false := by simpa using h3
            have hst2 := Lib.hid (show settleFrom (crashLasts keep torn cut) 0 (m.waits.take (k + 1)) m.last = L by
              rw [hst, settle_none (by rw [crashLasts, if_neg ht]; simp [List.getD, hkk, h3'])])
            rw [h3'] at q4
            clear hst hz hgd hLf ht h3 h3' hkcc hkc
            go_wp2
            go_roundw
            case rel => exact ⟨k + 1, c, L, by omega, by go_num, rfl, hcc, hst2.out.symm, HA.pick [1, 2, 3, 4]⟩
            case measure => simp [intOf]; omega
        · have e2 : decide ((k : Int) < keep.length) = false := by simp; omega
          have hst2 := Lib.hid (show settleFrom (crashLasts keep torn cut) 0 (m.waits.take (k + 1)) m.last = L by
            rw [hst, settle_none (by rw [crashLasts, if_neg ht]; simp [List.getD, List.getElem?_eq_none (show keep.length ≤ k by omega)])])
          clear hst hz hgd hLf ht hkc
          go_wp2
          go_roundw
          case rel => exact ⟨k + 1, c, L, by omega, by go_num, rfl, hcc, hst2.out.symm, HA.pick [1, 2, 3, 4]⟩
          case measure => simp [intOf]; omega
    · obtain rfl : k = m.waits.length := by omega
      rw [List.take_length] at hL
      have hLh := Lib.hid hL
      have hLl := Lib.hid (show L.length = m.last.length by rw [hL, settle_len])
      clear hL
      have s1 := HL.cell 0 1 rfl rfl
      have f1 := HL.free 0 1 rfl
      have s2 := HL.cell 0 2 rfl rfl
      have f2 := HL.free 0 2 rfl
      have H6 : St S w _ [_, _, _, _] := (HL.set 0 rfl 1 (.slice none 0 0)).set 0 rfl 2 (.int .i64 (-1))
      go_wp2
      go_end0
      refine ⟨rfl, RefAt.mk (l := []) (m := m.crash keep torn cut) (vl := .slice (some ⟨gl, 0, none⟩) m.last.length ll) (vw := .slice none 0 0) (vc := vc) ?_⟩
      have H7 := ((H6.pick [0, 1, 3]).row_nil 46 2).pick [1, 2, 0, 3]
      have e1 : (m.crash keep torn cut).last = L := hLh.out.symm
      have e2 : (m.crash keep torn cut).waits = [] := rfl
      have e3 : (m.crash keep torn cut).reads = m.reads := rfl
      have e4 : (m.crash keep torn cut).calls = -1 := rfl
      unfold refParts
      rw [e1, e2, e3, e4, hLl.out]
      exact H7

end Go.Proofs.Ytbikjhmdpgoofab
