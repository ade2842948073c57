/- The walk of the document's Of: the levels by the records. Condition: so many records. -/
import Derived.Test.YtbikjhmdpgoofaaIdxT
import Derived.Test.YtbikjhmdpgoofaaIdxS
namespace Go.Proofs.Ytbikjhmdpgoofaa
open Go.RowKit

theorem rcs_part {w : World} {ao : Option Addr} {cap : Nat} {l : List Rcd} {b o : Nat} (hv : RcsRO w (.slice ao l.length cap) l) (ha : ao = some ⟨b, o, none⟩) (i k : Nat) (hk : i + k ≤ l.length) : RcsRO w (.slice (some ⟨b, o + i * 36, none⟩) k (cap - i)) ((l.drop i).take k) := by
  obtain ⟨ad, c, e1, e2, e3, e4⟩ := hv
  cases e1
  subst ha
  have hl : ((l.drop i).take k).length = k := by rw [List.length_take, List.length_drop]; omega
  refine ⟨_, _, by rw [hl], by omega, fun r hr => e3 r (List.mem_of_mem_drop (List.mem_of_mem_take hr)), fun hne => ?_⟩
  obtain ⟨b', o', g1, g2, g4⟩ := e4 (by rintro rfl; simp at hne)
  cases g1
  refine ⟨b, o + i * 36, rfl, g2, fun j r hj => ?_⟩
  have hjk : j < k := by rw [← hl]; exact (List.getElem?_eq_some_iff.1 hj).1
  rw [List.getElem?_take_of_lt hjk, List.getElem?_drop] at hj
  have := g4 (i + j) r hj
  rw [Nat.add_mul, ← Nat.add_assoc] at this
  exact this
theorem sum_part (l : List Rcd) (i k : Nat) : (((l.drop i).take k).map fun r => r.items.length).sum ≤ (l.map fun r => r.items.length).sum := by
  have e : l = l.take i ++ ((l.drop i).take k ++ (l.drop i).drop k) := by rw [List.take_append_drop, List.take_append_drop]
  have h : (l.map fun r => r.items.length).sum = ((l.take i).map fun r => r.items.length).sum + ((((l.drop i).take k).map fun r => r.items.length).sum + (((l.drop i).drop k).map fun r => r.items.length).sum) := by
    conv => lhs; rw [e]
    simp only [List.map_append, List.sum_append]
  omega
section
attribute [local go_sem ↓] run_load_rec run_store_rec
set_option maxHeartbeats 4000000 in
set_option maxRecDepth 100000 in
theorem ref_of {l : List Rcd} {v : Value} (width : Nat) (w : World) (hv : RcsRO w v l) (hl : l ≠ []) (hll : l.length ≤ 1000000) (hN : (l.map fun r => r.items.length).sum ≤ 1000000000) (hw : 2 ≤ width ∧ width ≤ 64) :
    Calls Try.prog 30 #[.int .i64 width, v] w fun e w' => ∃ v' vals rows, e = .returned v' ∧ Cover vals rows (climb width l.length (l.map fun r => oneS r.seq r.items)) ∧ St (fun _ => False) w w' [SP.all rows, Row 67 1 v' vals.length vals] := by
  obtain ⟨ao, cap, rfl, hcap, hgood, hcell⟩ := id hv
  obtain ⟨b, o, ha, hb, hc⟩ := hcell hl
  subst ha
  have z1 : decide ((width : Int) < 2) = false := by simp; omega
  have z2 : decide ((64 : Int) < (width : Int)) = false := by simp; omega
  have hl0 : 0 < l.length := List.length_pos_iff.2 hl
  have z3 : ((l.length : Int) == 0) = false := by simp; omega
  have H0 : St (fun _ => False) w w [SP.all [], Row 67 1 (.slice none 0 0) 0 []] := St.all_iff.2 ((St.nil (fun _ => False) w).row_nil 67 1)
  clear hc hcell
  go_enter Try.func30, Try.ntmps30
  go_upto_block 1 with (fail)
  go_loopw [5, 6] (fun u sp wr => ∃ (m f span : Nat) (pre : List (List Str)) (vals0 : List Value) (rows : List SP),
        sp = .int .i64 span ∧ 0 < span ∧ span ≤ 64 * l.length ∧
        Hid (climb width l.length (l.map fun r => oneS r.seq r.items) = pre ++ climb width f (levelS l span)) ∧ m + f = l.length ∧ (levelS l span).length ≤ f + 1 ∧ vals0.length = m ∧ Cover vals0 rows pre ∧
        St (fun _ => False) w wr [SP.all rows, Row 67 1 u m vals0]) (fun _ sp _ => l.length + 1 - (intOf sp).toNat)
  case atStart => exact ⟨0, l.length, 1, [], [], [], rfl, by omega, by omega, Lib.hid (by rw [level_one]; rfl), by omega, by rw [level_one]; simp, rfl, ⟨rfl, fun k v s h => by simp at h⟩, H0⟩
  case round =>
    clear H0
    obtain ⟨m, f, span, pre, vals0, rows, rfl, hs0, hs1, hT, hmf, hcf, hv0, hcov, HL⟩ := hrel
    have HM : St (fun _ => False) w wr [Row 76 4 (.slice none 0 0) 0 (strs (partsS l span 0)), SP.all rows, Row 67 1 u5 m vals0] := HL.row_nil 76 4
    clear HL
    go_upto_block 3 with (fail)
    go_loopw [7, 8] (fun u i wr => ∃ (j : Nat), j ≤ (levelS l span).length ∧ i = .int .i64 ((j * span : Nat) : Int) ∧ St (fun _ => False) w wr [Row 76 4 u j (strs (partsS l span j)), SP.all rows, Row 67 1 u5 m vals0]) (fun _ i _ => l.length + span - (intOf i).toNat)
    case atStart => exact ⟨0, by omega, by simp, HM⟩
    case round =>
      clear HM
      obtain ⟨j, hj, rfl, HM⟩ := hrel
      obtain ⟨i, hi⟩ : ∃ i, j * span = i := ⟨_, rfl⟩
      by_cases hlt : i < l.length
      · have hjl : j < (levelS l span).length := by rw [level_len, cnt_iff hs0, hi]; exact hlt
        have hjle := level_le (l := l) hs0
        obtain ⟨k, hk⟩ : ∃ k, min span (l.length - i) = k := ⟨_, rfl⟩
        have hpn := Lib.hid (show partsS l span (j + 1) = partsS l span j ++ [manyS ((l.drop i).take k)] by
          rw [parts_snoc, hi]
          congr 3
          rcases Nat.lt_or_ge span (l.length - i) with g | g
          · rw [show k = span by omega]
          · rw [List.take_of_length_le (by rw [List.length_drop]; omega), List.take_of_length_le (by rw [List.length_drop]; omega)])
        have km := fun (w' : World) (hkp : Kept (fun _ => False) w w') => ref_many w' ((rcs_part hv rfl i k (by omega)).later hkp) (by rw [ne_eq, ← List.length_eq_zero_iff, List.length_take, List.length_drop]; omega) (by rw [List.length_take, List.length_drop]; omega) (Nat.le_trans (sum_part l i k) hN)
        obtain ⟨J, hJ⟩ : ∃ J, manyS ((l.drop i).take k) = J := ⟨_, rfl⟩
        rw [hJ] at km hpn
        clear hJ
        have hin := Lib.hid (show (j + 1) * span = i + span by rw [Nat.succ_mul, hi])
        rw [hi]
        have hsum : IntKind.i64.wrap ((i : Int) + (span : Int)) = ((i + span : Nat) : Int) := by rw [IntKind.wrap_i64]; omega
        have hmin : (min ((i : Int) + (span : Int)) (l.length : Int)).toNat - i = k := by omega
        clear hi
        obtain ⟨jf, jt, jl, jg⟩ := J
        unfold strV at km
        simp only at km
        have hx := hjl
        clear hcov hT hmf hcf hv0 hjl
        go_wp2_with (first
          | (go_at_call 59; go_must (refine (St.callPast (km wr HM.kept) HM).mono ?_; rintro e w3 ⟨rfl, H3⟩))
          | (at_builtin; go_must (refine St.list_app (H3.skip _) 0 rfl rfl (.tmp 30) (.tmp 41) 67 rfl Try.underlying67 Try.info76 (by decide) rfl [.int .i64 jf, .int .i64 jt, .int .i64 jl, .int .i64 jg] rfl rfl (new_cells #[.int .i64 jf, .int .i64 jt, .int .i64 jl, .int .i64 jg] _) (by simp [Value.oneCell']) (by omega) (by omega) ?_; intro g5 cap5 w5 H5 hz5)))
        go_roundw
        case rel =>
          refine ⟨j + 1, by omega, by rw [hin.out]; go_num, ?_⟩
          rw [hpn.out, strs_app, strs_one]
          exact H5
        case measure => simp [intOf]; omega
      · have hjl : j = (levelS l span).length := by
          rcases Nat.lt_or_ge j (levelS l span).length with g | g
          · rw [level_len, cnt_iff hs0, hi] at g
            exact absurd g hlt
          · omega
        rw [hi]
        have hpe : partsS l span j = levelS l span := by rw [hjl, level_len]; rfl
        rw [hpe] at HM
        have hne := level_ne hs0 hl
        have hle := level_le (l := l) hs0
        obtain ⟨L, hL⟩ : ∃ L, levelS l span = L := ⟨_, rfl⟩
        have hup := Lib.hid (level_above (l := l) (w := width) hs0 (by omega))
        have hfew := Lib.hid (level_few (l := l) hs0)
        rw [hL] at HM hjl hne hcf hT hle hup hfew
        clear hpe hL hi hj
        subst hjl
        obtain ⟨ga, gc, rfl, _, _⟩ := slice_form' (HM.row 0 rfl)
        have hcov2 := hcov.snoc (.slice ga L.length gc) L
        have hwm : IntKind.i64.wrap ((span : Int) * (width : Int)) = ((span * width : Nat) : Int) := by
          have h1 : span * width ≤ (64 * l.length) * 64 := Nat.mul_le_mul hs1 hw.2
          have h2 : ((span : Int) * (width : Int)) = ((span * width : Nat) : Int) := by simp
          rw [h2, IntKind.wrap_i64]
          omega
        by_cases h1 : L.length = 1
        · have y1 : ((L.length : Int) == 1) = true := by simp; omega
          have hT2 : Hid (climb width l.length (l.map fun r => oneS r.seq r.items) = pre ++ [L]) := by
            have := hT.out
            rw [climb_stop (width := width) (f := f) (l := L) (by omega)] at this
            exact Lib.hid this
          have h1h := Lib.hid h1
          clear hT hfew hup h1
          go_wp2_with (at_builtin; go_must (refine St.list_app (HM.skip _) 2 rfl rfl (.tmp 43) (.tmp 45) 63 rfl Try.underlying63 Try.info67 (by decide) rfl [.slice ga L.length gc] rfl rfl (new_cells #[.slice ga L.length gc] _) (by simp [Value.oneCell']) (by omega) (by omega) ?_; intro g5 cap5 w5 H5 hz5))
          go_ret
          rw [hT2.out]
          refine ⟨_, vals0 ++ [.slice ga L.length gc], rows ++ [Row 76 4 (.slice ga L.length gc) L.length (strs L)], rfl, hcov2, ?_⟩
          have hvl : (vals0 ++ [Value.slice ga L.length gc]).length = m + 1 := by simp [hv0]
          rw [hvl]
          exact rows_snoc (H5.pick [1, 0, 2])
        · have y1 : ((L.length : Int) == 1) = false := by simp; omega
          have hls : span < l.length := hfew.out (by omega)
          obtain ⟨f', rfl⟩ : ∃ f', f = f' + 1 := ⟨f - 1, by omega⟩
          have hT2 : Hid (climb width l.length (l.map fun r => oneS r.seq r.items) = (pre ++ [L]) ++ climb width f' (levelS l (span * width))) := by
            have := hT.out
            rw [climb_step (width := width) (f := f') (l := L) (by omega), hup.out] at this
            exact Lib.hid (by rw [this, List.append_assoc]; rfl)
          have hless := aboveS_less hw.1 (l := L) (by omega)
          rw [hup.out] at hless
          have hsw : span * 2 ≤ span * width := Nat.mul_le_mul_left _ hw.1
          have hsw2 : span * width ≤ l.length * 64 := Nat.mul_le_mul (by omega) hw.2
          have hless2 := Lib.hid hless
          clear hT hfew hup hless
          go_wp2_with (at_builtin; go_must (refine St.list_app (HM.skip _) 2 rfl rfl (.tmp 43) (.tmp 45) 63 rfl Try.underlying63 Try.info67 (by decide) rfl [.slice ga L.length gc] rfl rfl (new_cells #[.slice ga L.length gc] _) (by simp [Value.oneCell']) (by omega) (by omega) ?_; intro g5 cap5 w5 H5 hz5))
          go_roundw
          case rel =>
            have := hless2.out
            have H6 : St (fun _ => False) w w5 [SP.all rows, Row 76 4 (.slice ga L.length gc) L.length (strs L), Row 67 1 (.slice (some ⟨g5, 0, none⟩) (m + 1) cap5) (m + 1) (vals0 ++ [.slice ga L.length gc])] := H5.pick [1, 0, 2]
            exact ⟨m + 1, f', span * width, pre ++ [L], vals0 ++ [.slice ga L.length gc], rows ++ [Row 76 4 (.slice ga L.length gc) L.length (strs L)], by simp, by omega, by omega, hT2, by omega, by omega, by simp [hv0], hcov2, rows_snoc H6⟩
          case measure => simp [intOf]; omega
end

end Go.Proofs.Ytbikjhmdpgoofaa
