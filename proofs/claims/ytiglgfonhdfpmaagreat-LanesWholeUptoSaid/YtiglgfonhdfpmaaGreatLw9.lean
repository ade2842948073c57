import Derived.Test.YtiglgfonhdfpmaaGreatLw1
import Derived.Test.YtiglgfonhdfpmaaGreatLw2
import Derived.Test.YtiglgfonhdfpmaaGreatLw3
import Derived.Test.YtiglgfonhdfpmaaGreatLw4
import Derived.Test.YtiglgfonhdfpmaaGreatLw8
import Derived.Deep.CutBlock
import Derived.Lib.ItoaNum
import Derived.Lib.AtoiAll
import Derived.Lib.Split
import Derived.Lib.SplitLaws
import Derived.Lib.IndexLaws
import Derived.Lib.CountLaws
/- slices.IndexFunc and DeleteFunc at panes, with the stepper's predicates. Condition: so many. (Printed by a program of mine.) -/
set_option linter.unusedVariables false
set_option linter.unusedSimpArgs false
namespace Go.Proofs.YtiglgfonhdfpmaaGreat
open Go.RowKit

theorem filtP_snoc {l : List Pm} (keep : Pm → Bool) {j : Nat} {x : Pm} (h : l[j]? = some x) : (l.take (j + 1)).filter keep = if keep x = true then (l.take j).filter keep ++ [x] else (l.take j).filter keep := by
  rw [take_snoc' h, List.filter_append]
  by_cases hx : keep x = true
  · rw [if_pos hx]; simp [hx]
  · rw [if_neg hx]; simp [hx]
theorem zero_pns (n : Nat) : (Builtin.zeroCells pnZ.cells n).size = n * 8 ∧ ∀ v ∈ (Builtin.zeroCells pnZ.cells n).toList, v.oneCell' = true := by
  refine ⟨by simp [Builtin.zeroCells, Value.cells], fun v hv => ?_⟩
  simp only [Builtin.zeroCells, Value.cells, Array.toList_map, List.mem_map] at hv
  obtain ⟨i, _, rfl⟩ := hv
  have : i % 8 < 8 := by omega
  show (#[Value.string ⟨#[]⟩, .int .i64 0, .int .i64 0, .int .i64 0, .int .i64 0, .slice none 0 0, .complex .f64 0 0, .int .i64 0][i % 8]!).oneCell' = true
  have h : i % 8 = 0 ∨ i % 8 = 1 ∨ i % 8 = 2 ∨ i % 8 = 3 ∨ i % 8 = 4 ∨ i % 8 = 5 ∨ i % 8 = 6 ∨ i % 8 = 7 := by omega
  rcases h with h | h | h | h | h | h | h | h <;> rw [h] <;> rfl

set_option maxHeartbeats 2000000 in
set_option maxRecDepth 100000 in
theorem pns_indexJ {bw : Nat} {y : Wd} {v : Value} {l : List Pm} {w : World} (del : Pm → Bool) (hv : encP.RO w v l) (hl : l.length ≤ 1073741824) (hcap : w.heap[bw]? = some (.cells (wdC y) 61 (0, 0))) (hd : ∀ m ∈ l, ∀ w, w.heap[bw]? = some (.cells (wdC y) 61 (0, 0)) → Calls Tryz.prog 250 #[pnV m, .pointer (some ⟨bw, 0, none⟩)] w fun e w2 => e = .returned (.bool (del m)) ∧ Below w.heap.size w w2) :
    Calls Tryz.prog 160 #[v, .func (.func 250) #[] #[.pointer (some ⟨bw, 0, none⟩)]] w fun e w' => ∃ r : Int, e = .returned (.int .i64 r) ∧ ((r = -1 ∧ ∀ x ∈ l, del x = false) ∨ ∃ k : Nat, r = k ∧ (∃ x, l[k]? = some x ∧ del x = true) ∧ ∀ x ∈ l.take k, del x = false) ∧ Below w.heap.size w w' := by
  obtain ⟨ao, cap, rfl, hcp, hic⟩ := hv
  have hkc : ∀ w', Kept (fun _ => False) w w' → (w'.heap[bw]? = some (.cells (wdC y) 61 (0, 0))) := fun w' (hk2 : Kept (fun _ => False) w w') => (hk2.block _ (blk_lt hcap) id).trans hcap
  have H0 : St (fun _ => False) w w [] := St.nil _ w
  have hich := Lib.hid hic
  have hdh := Lib.hid hd
  have hkch := Lib.hid hkc
  clear hic hd hkc hcap
  go_enter Tryz.func160, Tryz.ntmps160
  go_upto_block 1 with (fail)
  go_loopw [5, 8] (fun _ j wr => ∃ (k : Nat), k ≤ l.length ∧ j = .int .i64 k ∧ Hid (∀ x ∈ l.take k, del x = false) ∧ St (fun _ => False) w wr []) (fun _ j _ => l.length - (intOf j).toNat)
  case atStart => exact ⟨0, by omega, rfl, Lib.hid (by simp), H0⟩
  case round =>
    clear H0
    obtain ⟨k, hk, rfl, hall, HM⟩ := hrel
    by_cases hkl : k < l.length
    · obtain ⟨b2, o2, rfl, hb2, hc2⟩ := hich.out (by intro e; rw [e] at hkl; simp at hkl)
      obtain ⟨x, hx⟩ : ∃ x, l[k]? = some x := ⟨_, List.getElem?_eq_getElem hkl⟩
      obtain ⟨q0, q1, q2, q3, q4, q5, q6, q7⟩ := pn_cells (hc2 k x hx) (HM.kept.block b2 hb2 id)
      have kr := hdh.out x (List.mem_of_getElem? hx) wr (hkch.out wr HM.kept)
      have hxh := Lib.hid hx
      obtain ⟨ct, hcv⟩ : ∃ ct, del x = ct := ⟨_, rfl⟩
      rw [hcv] at kr
      have hcvh := Lib.hid hcv
      clear hx hc2 hcv
      have hkl2 : (k : Int) < (l.length : Int) := by omega
      obtain ⟨⟨⟨xk, xf, xt⟩, ⟨gn, ga, gt, gx, gy⟩, xr⟩, xa, xc⟩ := x
      unfold pnV pnC Pm.hd textV at kr
      unfold Pm.hd at q5
      unfold textV at q0
      simp only at q0 q1 q2 q3 q4 q5 q6 q7 kr
      cases ct with
      | false =>
        go_wp2_with (go_at_call 250; go_must (refine (St.callPast kr HM).mono ?_; rintro e w3 ⟨rfl, H3⟩))
        go_roundw
        case rel =>
          refine ⟨k + 1, by omega, by go_num, Lib.hid (fun y hy => ?_), H3⟩
          rw [take_snoc' hxh.out] at hy
          rcases List.mem_append.1 hy with hy | hy
          · exact hall.out y hy
          · obtain rfl := List.mem_singleton.1 hy
            exact hcvh.out
        case measure => simp [intOf]; omega
      | true =>
        go_wp2_with (go_at_call 250; go_must (refine (St.callPast kr HM).mono ?_; rintro e w3 ⟨rfl, H3⟩))
        go_ret
        exact ⟨_, rfl, .inr ⟨k, rfl, ⟨_, hxh.out, hcvh.out⟩, hall.out⟩, H3.below (Nat.le_refl _) (fun _ h => h.elim)⟩
    · obtain rfl : k = l.length := by omega
      have hallh := hall.out
      rw [List.take_length] at hallh
      have hallh2 := Lib.hid hallh
      clear hallh
      go_wp2
      go_ret
      exact ⟨_, rfl, .inl ⟨rfl, hallh2.out⟩, HM.below (Nat.le_refl _) (fun _ h => h.elim)⟩

set_option maxHeartbeats 4000000 in
set_option maxRecDepth 100000 in
theorem pns_deleteJ {bw : Nat} {y : Wd} {v : Value} {l : List Pm} {w : World} {S : Nat → Prop} (del : Pm → Bool) (hl : l.length ≤ 1073741824) (hd : ∀ m ∈ l, ∀ w, w.heap[bw]? = some (.cells (wdC y) 61 (0, 0)) → Calls Tryz.prog 250 #[pnV m, .pointer (some ⟨bw, 0, none⟩)] w fun e w2 => e = .returned (.bool (del m)) ∧ Below w.heap.size w w2) (H : Sep w [Row 68 8 v l.length (encP.all l), Blk bw (wdC y) 61] S) :
    Calls Tryz.prog 134 #[v, .func (.func 250) #[] #[.pointer (some ⟨bw, 0, none⟩)]] w fun e w' => ∃ v', e = .returned v' ∧ St S w w' [Row 68 8 v' (l.filter fun m => !del m).length (encP.all (l.filter fun m => !del m)), Blk bw (wdC y) 61] := by
  have H0 := St.refl H
  have ki := pns_indexJ del (Enc.own encP (H0.row 0 rfl) rfl) hl (H0.blk 1 rfl) hd
  obtain ⟨keep, hkeep⟩ : ∃ f : Pm → Bool, (fun m => !del m) = f := ⟨_, rfl⟩
  have hkp : ∀ m, keep m = !del m := fun m => by rw [← hkeep]
  rw [hkeep]
  have hkph := Lib.hid hkp
  clear hkp hkeep
  obtain ⟨ua, uc, rfl, huc, _⟩ := slice_form' (H0.row 0 rfl)
  have hdh := Lib.hid hd
  clear hd H
  by_cases hall : ∀ x ∈ l, del x = false
  · have hfe : l.filter keep = l := List.filter_eq_self.2 (fun x hx => by rw [hkph.out, hall x hx]; rfl)
    have hfh := Lib.hid hfe
    have hah := Lib.hid hall
    clear hfe hall
    have ki2 := ki.mono (fun e w' (h : ∃ r : Int, e = .returned (.int .i64 r) ∧ ((r = -1 ∧ ∀ x ∈ l, del x = false) ∨ ∃ k : Nat, r = k ∧ (∃ x, l[k]? = some x ∧ del x = true) ∧ ∀ x ∈ l.take k, del x = false) ∧ Below w.heap.size w w') => show e = .returned (.int .i64 (-1)) ∧ Below w.heap.size w w' by
      obtain ⟨r, rfl, h | ⟨k, _, ⟨x, hx, hx2⟩, _⟩, hb⟩ := h
      · rw [h.1]; exact ⟨rfl, hb⟩
      · rw [hah.out x (List.mem_of_getElem? hx)] at hx2; cases hx2)
    clear ki
    go_enter Tryz.func134, Tryz.ntmps134
    go_wp2_with (go_at_call 160; go_must (refine ki2.mono ?_; rintro e w3 ⟨rfl, hb3⟩))
    go_ret
    rw [hfh.out]
    exact ⟨_, rfl, H0.past hb3⟩
  · have hah := Lib.hid hall
    have ki2 := ki.mono (fun e w' (h : ∃ r : Int, e = .returned (.int .i64 r) ∧ ((r = -1 ∧ ∀ x ∈ l, del x = false) ∨ ∃ k : Nat, r = k ∧ (∃ x, l[k]? = some x ∧ del x = true) ∧ ∀ x ∈ l.take k, del x = false) ∧ Below w.heap.size w w') => show ∃ k : Nat, e = .returned (.int .i64 k) ∧ (∃ x, l[k]? = some x ∧ del x = true) ∧ (∀ x ∈ l.take k, del x = false) ∧ Below w.heap.size w w' by
      obtain ⟨r, rfl, h | ⟨k, rfl, h⟩, hb⟩ := h
      · exact absurd h.2 hah.out
      · exact ⟨k, rfl, h.1, h.2, hb⟩)
    clear ki hall
    have hln : l.length ≠ 0 := by
      intro h
      obtain rfl := List.eq_nil_of_length_eq_zero h
      exact hah.out (by simp)
    obtain ⟨g, cap, R, hv, hnc, hcm, hxl, hcs, HB⟩ := H0.row_blk 0 rfl hln
    obtain ⟨rfl, rfl⟩ : ua = some ⟨g, 0, none⟩ ∧ uc = cap := by injection hv with h1 _ h2; exact ⟨h1, h2⟩
    have HB : St S w w [Blk g (encP.all l ++ R).toArray 68, Blk bw (wdC y) 61] := HB
    clear hv hah H0
    go_enter Tryz.func134, Tryz.ntmps134
    go_upto_block 1 with (go_at_call 160; go_must (refine ki2.mono ?_; rintro e w3 ⟨k0, rfl, ⟨x0, hx0, hx02⟩, hk2, hb3⟩; have hk0 := (List.getElem?_eq_some_iff.1 hx0).1; have hk1 : ((k0 : Int) == -1) = false := beq_eq_false_iff_ne.2 (by omega)))
    have HB2 := HB.past hb3
    have hf0 : (l.take k0).filter keep = l.take k0 := List.filter_eq_self.2 (fun x hx => by rw [hkph.out, hk2 x hx]; rfl)
    have hstart := Lib.hid (show (l.take (k0 + 1)).filter keep = l.take k0 by rw [filtP_snoc keep hx0, if_neg (by rw [hkph.out, hx02]; simp), hf0])
    clear hb3 HB ki2 hx0 hx02 hk2 hf0
    go_loopw [5, 6, 7] (fun s5 s6 _ wr => ∃ (i j : Nat) (L : List Pm), s5 = .int .i64 i ∧ s6 = .int .i64 j ∧ i < j ∧ j ≤ l.length ∧ L.length = l.length ∧ Hid (L.take i = (l.take j).filter keep) ∧ Hid (L.drop j = l.drop j) ∧ St S w wr [Blk g (encP.all L ++ R).toArray 68, Blk bw (wdC y) 61]) (fun _ s6 _ _ => l.length - (intOf s6).toNat)
    case atStart => exact ⟨k0, k0 + 1, l, rfl, by go_num, by omega, by omega, rfl, Lib.hid hstart.out.symm, Lib.hid rfl, HB2⟩
    case round =>
      clear HB2 hstart
      obtain ⟨i, j, L, rfl, rfl, hij, hj, hL, hF, hD, HM⟩ := hrel
      by_cases hlt : j < l.length
      · have hil : i < l.length := by omega
        have hil2 : (i : Int) < (l.length : Int) := by omega
        have hjl2 : (j : Int) < (l.length : Int) := by omega
        obtain ⟨x, hx⟩ : ∃ x, l[j]? = some x := ⟨_, List.getElem?_eq_getElem hlt⟩
        have hxL : L[j]? = some x := by
          have e1 : (L.drop j)[0]? = L[j]? := by simp
          have e2 : (l.drop j)[0]? = l[j]? := by simp
          rw [← e1, hD.out, e2, hx]
        obtain ⟨q0, q1, q2, q3, q4, q5, q6, q7⟩ := pn_blk (HM.blk 0 rfl) hxL
        have kr := hdh.out x (List.mem_of_getElem? hx)
        have hxh := Lib.hid hx
        obtain ⟨ct, hcv⟩ : ∃ ct, del x = ct := ⟨_, rfl⟩
        rw [hcv] at kr
        have hcvh := Lib.hid hcv
        clear hx hcv hxL
        obtain ⟨xx, hxx⟩ : ∃ z, z = x := ⟨_, rfl⟩
        have hxxh := Lib.hid hxx
        have hpc : ∀ K : Array Value, pnC x = K → pnC xx = K := fun K h => by rw [hxx]; exact h
        clear hxx
        obtain ⟨⟨⟨xk, xf, xt⟩, ⟨gn, ga, gt, gx, gy⟩, xr⟩, xa, xc⟩ := x
        unfold pnC Pm.hd textV at hpc
        unfold pnV pnC Pm.hd textV at kr
        unfold Pm.hd at q5
        unfold textV at q0
        simp only at q0 q1 q2 q3 q4 q5 q6 q7 kr hpc
        obtain ⟨X, hX⟩ : ∃ X, ib gx = X := ⟨_, rfl⟩
        obtain ⟨Y, hY⟩ : ∃ Y, ib gy = Y := ⟨_, rfl⟩
        obtain ⟨TL, hTL⟩ : ∃ n, gt.length = n := ⟨_, rfl⟩
        simp only [hX, hY, hTL] at q5 q6 kr hpc
        have hpx := Lib.hid (hpc _ rfl)
        clear hX hY hTL hpc
        have HA : St S w _ (_ :: _) := HM.allocAt rfl #[.string ⟨xk.toArray⟩, .int .i64 xf, .int .i64 xt, .int .i64 gn, .int .i64 ga, .slice xa TL xc, .complex .f64 X Y, .int .i64 xr] 68
        go_upto_region 8 with (fail)
        obtain ⟨wb, hwb⟩ : ∃ wb, wr.alloc (.cells #[.string ⟨xk.toArray⟩, .int .i64 xf, .int .i64 xt, .int .i64 gn, .int .i64 ga, .slice xa TL xc, .complex .f64 X Y, .int .i64 xr] 68) = wb := ⟨_, rfl⟩
        obtain ⟨xb, hxb⟩ : ∃ xb, wr.heap.size = xb := ⟨_, rfl⟩
        rw [hwb, hxb] at HA
        try rw [hwb]
        try simp only [hxb]
        have HA2 : St S w wb [Blk xb #[.string ⟨xk.toArray⟩, .int .i64 xf, .int .i64 xt, .int .i64 gn, .int .i64 ga, .slice xa TL xc, .complex .f64 X Y, .int .i64 xr] 68, Blk g (encP.all L ++ R).toArray 68, Blk bw (wdC y) 61] := HA
        clear hwb hxb q0 q1 q2 q3 q4 q5 q6 q7 HM HA
        have kr2 := kr wb (HA2.blk 2 rfl)
        clear kr
        have d0 := HA2.cell 0 0 rfl rfl
        have d1 := HA2.cell 0 1 rfl rfl
        have d2 := HA2.cell 0 2 rfl rfl
        have d3 := HA2.cell 0 3 rfl rfl
        have d4 := HA2.cell 0 4 rfl rfl
        have d5 := HA2.cell 0 5 rfl rfl
        have d6 := HA2.cell 0 6 rfl rfl
        have d7 := HA2.cell 0 7 rfl rfl
        have hiL : i < L.length := by omega
        have hfitm : i * 8 + 8 ≤ (encP.all L ++ R).length := by rw [List.length_append, pns_len]; omega
        have hset := Lib.hid (show splice (encP.all L ++ R) (i * 8) #[.string ⟨xk.toArray⟩, .int .i64 xf, .int .i64 xt, .int .i64 gn, .int .i64 ga, .slice xa TL xc, .complex .f64 X Y, .int .i64 xr].toList = encP.all (L.set i xx) ++ R by rw [← hpx.out]; exact encP.set R xx hiL)
        cases ct with
        | false =>
          go_wp2_with (first
            | (go_at_call 250; go_must (refine (St.callPast kr2 HA2).mono ?_; rintro e w3 ⟨rfl, H3⟩; clear d0 d1 d2 d3 d4 d5 d6 d7; have d0 := H3.cell 0 0 rfl rfl; have d1 := H3.cell 0 1 rfl rfl; have d2 := H3.cell 0 2 rfl rfl; have d3 := H3.cell 0 3 rfl rfl; have d4 := H3.cell 0 4 rfl rfl; have d5 := H3.cell 0 5 rfl rfl; have d6 := H3.cell 0 6 rfl rfl; have d7 := H3.cell 0 7 rfl rfl))
            | ((with_reducible show Go.wpList _ _ _ (Oper.mk none (Op.store 68 _ _) _ _ _ _ :: _) _ _); go_must (refine St.list_storeMid H3 1 rfl (ty := 68) (n := 8) (off := i * 8) (vs := #[.string ⟨xk.toArray⟩, .int .i64 xf, .int .i64 xt, .int .i64 gn, .int .i64 ga, .slice xa TL xc, .complex .f64 X Y, .int .i64 xr]) (by kernel_rfl) rfl (by simp [allOne, Value.oneCell']) hfitm rfl (.tmp 33) (.tmp 32) rfl rfl rfl ?_; intro w5 H5 hz5)))
          go_roundw
          case rel =>
            rw [hset.out] at H5
            refine ⟨i + 1, j + 1, L.set i xx, by go_num, by go_num, by omega, by omega, by rw [List.length_set]; exact hL, Lib.hid ?_, Lib.hid ?_, St.tail H5⟩
            · rw [filtP_snoc keep hxh.out, if_pos (by rw [hkph.out, hcvh.out]; rfl), ← hF.out, ← hxxh.out]
              exact take_set1 _ hiL
            · rw [List.drop_set_of_lt (by omega), ← List.drop_drop, hD.out, List.drop_drop]
          case measure => simp [intOf]; omega
        | true =>
          go_wp2_with (go_at_call 250; go_must (refine (St.callPast kr2 HA2).mono ?_; rintro e w3 ⟨rfl, H3⟩))
          go_roundw
          case rel =>
            refine ⟨i, j + 1, L, rfl, by go_num, by omega, by omega, hL, Lib.hid ?_, Lib.hid ?_, St.tail H3⟩
            · rw [filtP_snoc keep hxh.out, if_neg (by rw [hkph.out, hcvh.out]; simp)]; exact hF.out
            · rw [← List.drop_drop, hD.out, List.drop_drop]
          case measure => simp [intOf]; omega
      · obtain rfl : j = l.length := by omega
        rw [List.take_length] at hF
        have hFh := Lib.hid hF.out
        have hlenF : (l.filter keep).length = i := by rw [← hF.out, List.length_take]; omega
        have hlenF := Lib.hid hlenF
        obtain ⟨zl, zo⟩ := zero_pns (l.length - i)
        have hsz := pns_len L
        have hmm : mayCells wr g (i * 8) ((l.length - i) * 8) = true := mayCells_blk (HM.blk 0 rfl) (by simp only [List.size_toArray, List.length_append]; omega)
        have hcl : ∀ ty, (Builtin.clear_ #[43] ty #[.slice (some ⟨g, i * 8, none⟩) (l.length - i) (uc - i)]).run Tryz.prog wr = _ := fun ty => run_clear_any wr _ _ ty _ Tryz.underlying43 Tryz.zeroValue68 g (i * 8) _ _ _ (by omega) zl hmm zo
        have H5 := St.setCells 0 (Builtin.zeroCells pnZ.cells (l.length - i)).toList (i * 8) (encP.all L ++ R) wr _ HM rfl (by simp only [List.length_append, Array.length_toList, zl]; omega)
        go_wp2
        go_ret
        rw [hFh.out] at hF
        have H6 := H5.blk_row 0 (e := 68) (size := 8) (cap := uc) (n := i) (xs := encP.all (L.take i)) rfl (by omega) hcm (by
          have h3 : (encP.all L ++ R).length = uc * 8 := by rw [List.length_append, pns_len, hL]; simpa [pns_len] using hcs
          rw [length_splice _ _ _ (by simp only [List.length_append, Array.length_toList, zl]; omega)]
          exact h3) (by
          unfold splice
          have e1 : encP.all (L.take i) = (encP.all L ++ R).take (i * 8) := by
            have e2 : encP.all L = encP.all (L.take i) ++ encP.all (L.drop i) := by rw [← encP.all_app, List.take_append_drop]
            have e3 : (encP.all (L.take i)).length = i * 8 := by rw [pns_len, List.length_take]; omega
            rw [e2, List.append_assoc, List.take_append_of_le_length (by omega), List.take_of_length_le (l := encP.all (L.take i)) (by omega)]
          rw [e1, List.take_append_of_le_length (by rw [List.length_take, List.length_append]; omega), List.take_of_length_le (by rw [List.length_take]; omega)])
        rw [hFh.out] at H6
        refine ⟨_, rfl, ?_⟩
        rw [hlenF.out]
        exact H6

set_option maxHeartbeats 2000000 in
set_option maxRecDepth 100000 in
theorem pns_indexM {t b2 b3 : Nat} {q : Qry} {mk at1 : Int} {pv ov : Value} {v : Value} {l : List Pm} {w : World} (del : Pm → Bool) (hv : encP.RO w v l) (hl : l.length ≤ 1073741824) (hcap : w.heap[t]? = some (.cells (stC q mk pv ov) 137 (0, 0)) ∧ w.heap[b2]? = some (.cells #[.pointer (some ⟨t, 0, none⟩)] 135 (0, 0)) ∧ w.heap[b3]? = some (.cells #[.int .i64 at1] 3 (0, 0))) (hd : ∀ m ∈ l, ∀ w, w.heap[t]? = some (.cells (stC q mk pv ov) 137 (0, 0)) ∧ w.heap[b2]? = some (.cells #[.pointer (some ⟨t, 0, none⟩)] 135 (0, 0)) ∧ w.heap[b3]? = some (.cells #[.int .i64 at1] 3 (0, 0)) → Calls Tryz.prog 135 #[pnV m, .pointer (some ⟨b2, 0, none⟩), .pointer (some ⟨b3, 0, none⟩)] w fun e w2 => e = .returned (.bool (del m)) ∧ Below w.heap.size w w2) :
    Calls Tryz.prog 160 #[v, .func (.func 135) #[] #[.pointer (some ⟨b2, 0, none⟩), .pointer (some ⟨b3, 0, none⟩)]] w fun e w' => ∃ r : Int, e = .returned (.int .i64 r) ∧ ((r = -1 ∧ ∀ x ∈ l, del x = false) ∨ ∃ k : Nat, r = k ∧ (∃ x, l[k]? = some x ∧ del x = true) ∧ ∀ x ∈ l.take k, del x = false) ∧ Below w.heap.size w w' := by
  obtain ⟨ao, cap, rfl, hcp, hic⟩ := hv
  have hkc : ∀ w', Kept (fun _ => False) w w' → (w'.heap[t]? = some (.cells (stC q mk pv ov) 137 (0, 0)) ∧ w'.heap[b2]? = some (.cells #[.pointer (some ⟨t, 0, none⟩)] 135 (0, 0)) ∧ w'.heap[b3]? = some (.cells #[.int .i64 at1] 3 (0, 0))) := fun w' (hk2 : Kept (fun _ => False) w w') => ⟨(hk2.block _ (blk_lt hcap.1) id).trans hcap.1, (hk2.block _ (blk_lt hcap.2.1) id).trans hcap.2.1, (hk2.block _ (blk_lt hcap.2.2) id).trans hcap.2.2⟩
  have H0 : St (fun _ => False) w w [] := St.nil _ w
  have hich := Lib.hid hic
  have hdh := Lib.hid hd
  have hkch := Lib.hid hkc
  clear hic hd hkc hcap
  go_enter Tryz.func160, Tryz.ntmps160
  go_upto_block 1 with (fail)
  go_loopw [5, 8] (fun _ j wr => ∃ (k : Nat), k ≤ l.length ∧ j = .int .i64 k ∧ Hid (∀ x ∈ l.take k, del x = false) ∧ St (fun _ => False) w wr []) (fun _ j _ => l.length - (intOf j).toNat)
  case atStart => exact ⟨0, by omega, rfl, Lib.hid (by simp), H0⟩
  case round =>
    clear H0
    obtain ⟨k, hk, rfl, hall, HM⟩ := hrel
    by_cases hkl : k < l.length
    · obtain ⟨b2, o2, rfl, hb2, hc2⟩ := hich.out (by intro e; rw [e] at hkl; simp at hkl)
      obtain ⟨x, hx⟩ : ∃ x, l[k]? = some x := ⟨_, List.getElem?_eq_getElem hkl⟩
      obtain ⟨q0, q1, q2, q3, q4, q5, q6, q7⟩ := pn_cells (hc2 k x hx) (HM.kept.block b2 hb2 id)
      have kr := hdh.out x (List.mem_of_getElem? hx) wr (hkch.out wr HM.kept)
      have hxh := Lib.hid hx
      obtain ⟨ct, hcv⟩ : ∃ ct, del x = ct := ⟨_, rfl⟩
      rw [hcv] at kr
      have hcvh := Lib.hid hcv
      clear hx hc2 hcv
      have hkl2 : (k : Int) < (l.length : Int) := by omega
      obtain ⟨⟨⟨xk, xf, xt⟩, ⟨gn, ga, gt, gx, gy⟩, xr⟩, xa, xc⟩ := x
      unfold pnV pnC Pm.hd textV at kr
      unfold Pm.hd at q5
      unfold textV at q0
      simp only at q0 q1 q2 q3 q4 q5 q6 q7 kr
      cases ct with
      | false =>
        go_wp2_with (go_at_call 135; go_must (refine (St.callPast kr HM).mono ?_; rintro e w3 ⟨rfl, H3⟩))
        go_roundw
        case rel =>
          refine ⟨k + 1, by omega, by go_num, Lib.hid (fun y hy => ?_), H3⟩
          rw [take_snoc' hxh.out] at hy
          rcases List.mem_append.1 hy with hy | hy
          · exact hall.out y hy
          · obtain rfl := List.mem_singleton.1 hy
            exact hcvh.out
        case measure => simp [intOf]; omega
      | true =>
        go_wp2_with (go_at_call 135; go_must (refine (St.callPast kr HM).mono ?_; rintro e w3 ⟨rfl, H3⟩))
        go_ret
        exact ⟨_, rfl, .inr ⟨k, rfl, ⟨_, hxh.out, hcvh.out⟩, hall.out⟩, H3.below (Nat.le_refl _) (fun _ h => h.elim)⟩
    · obtain rfl : k = l.length := by omega
      have hallh := hall.out
      rw [List.take_length] at hallh
      have hallh2 := Lib.hid hallh
      clear hallh
      go_wp2
      go_ret
      exact ⟨_, rfl, .inl ⟨rfl, hallh2.out⟩, HM.below (Nat.le_refl _) (fun _ h => h.elim)⟩

set_option maxHeartbeats 4000000 in
set_option maxRecDepth 100000 in
theorem pns_deleteM {t b2 b3 : Nat} {q : Qry} {mk at1 : Int} {pv ov : Value} {v : Value} {l : List Pm} {w : World} {S : Nat → Prop} (del : Pm → Bool) (hl : l.length ≤ 1073741824) (hd : ∀ m ∈ l, ∀ w, w.heap[t]? = some (.cells (stC q mk pv ov) 137 (0, 0)) ∧ w.heap[b2]? = some (.cells #[.pointer (some ⟨t, 0, none⟩)] 135 (0, 0)) ∧ w.heap[b3]? = some (.cells #[.int .i64 at1] 3 (0, 0)) → Calls Tryz.prog 135 #[pnV m, .pointer (some ⟨b2, 0, none⟩), .pointer (some ⟨b3, 0, none⟩)] w fun e w2 => e = .returned (.bool (del m)) ∧ Below w.heap.size w w2) (H : Sep w [Row 68 8 v l.length (encP.all l), Blk t (stC q mk pv ov) 137, Blk b2 #[.pointer (some ⟨t, 0, none⟩)] 135, Blk b3 #[.int .i64 at1] 3] S) :
    Calls Tryz.prog 134 #[v, .func (.func 135) #[] #[.pointer (some ⟨b2, 0, none⟩), .pointer (some ⟨b3, 0, none⟩)]] w fun e w' => ∃ v', e = .returned v' ∧ St S w w' [Row 68 8 v' (l.filter fun m => !del m).length (encP.all (l.filter fun m => !del m)), Blk t (stC q mk pv ov) 137, Blk b2 #[.pointer (some ⟨t, 0, none⟩)] 135, Blk b3 #[.int .i64 at1] 3] := by
  have H0 := St.refl H
  have ki := pns_indexM del (Enc.own encP (H0.row 0 rfl) rfl) hl ⟨H0.blk 1 rfl, H0.blk 2 rfl, H0.blk 3 rfl⟩ hd
  obtain ⟨keep, hkeep⟩ : ∃ f : Pm → Bool, (fun m => !del m) = f := ⟨_, rfl⟩
  have hkp : ∀ m, keep m = !del m := fun m => by rw [← hkeep]
  rw [hkeep]
  have hkph := Lib.hid hkp
  clear hkp hkeep
  obtain ⟨ua, uc, rfl, huc, _⟩ := slice_form' (H0.row 0 rfl)
  have hdh := Lib.hid hd
  clear hd H
  by_cases hall : ∀ x ∈ l, del x = false
  · have hfe : l.filter keep = l := List.filter_eq_self.2 (fun x hx => by rw [hkph.out, hall x hx]; rfl)
    have hfh := Lib.hid hfe
    have hah := Lib.hid hall
    clear hfe hall
    have ki2 := ki.mono (fun e w' (h : ∃ r : Int, e = .returned (.int .i64 r) ∧ ((r = -1 ∧ ∀ x ∈ l, del x = false) ∨ ∃ k : Nat, r = k ∧ (∃ x, l[k]? = some x ∧ del x = true) ∧ ∀ x ∈ l.take k, del x = false) ∧ Below w.heap.size w w') => show e = .returned (.int .i64 (-1)) ∧ Below w.heap.size w w' by
      obtain ⟨r, rfl, h | ⟨k, _, ⟨x, hx, hx2⟩, _⟩, hb⟩ := h
      · rw [h.1]; exact ⟨rfl, hb⟩
      · rw [hah.out x (List.mem_of_getElem? hx)] at hx2; cases hx2)
    clear ki
    go_enter Tryz.func134, Tryz.ntmps134
    go_wp2_with (go_at_call 160; go_must (refine ki2.mono ?_; rintro e w3 ⟨rfl, hb3⟩))
    go_ret
    rw [hfh.out]
    exact ⟨_, rfl, H0.past hb3⟩
  · have hah := Lib.hid hall
    have ki2 := ki.mono (fun e w' (h : ∃ r : Int, e = .returned (.int .i64 r) ∧ ((r = -1 ∧ ∀ x ∈ l, del x = false) ∨ ∃ k : Nat, r = k ∧ (∃ x, l[k]? = some x ∧ del x = true) ∧ ∀ x ∈ l.take k, del x = false) ∧ Below w.heap.size w w') => show ∃ k : Nat, e = .returned (.int .i64 k) ∧ (∃ x, l[k]? = some x ∧ del x = true) ∧ (∀ x ∈ l.take k, del x = false) ∧ Below w.heap.size w w' by
      obtain ⟨r, rfl, h | ⟨k, rfl, h⟩, hb⟩ := h
      · exact absurd h.2 hah.out
      · exact ⟨k, rfl, h.1, h.2, hb⟩)
    clear ki hall
    have hln : l.length ≠ 0 := by
      intro h
      obtain rfl := List.eq_nil_of_length_eq_zero h
      exact hah.out (by simp)
    obtain ⟨g, cap, R, hv, hnc, hcm, hxl, hcs, HB⟩ := H0.row_blk 0 rfl hln
    obtain ⟨rfl, rfl⟩ : ua = some ⟨g, 0, none⟩ ∧ uc = cap := by injection hv with h1 _ h2; exact ⟨h1, h2⟩
    have HB : St S w w [Blk g (encP.all l ++ R).toArray 68, Blk t (stC q mk pv ov) 137, Blk b2 #[.pointer (some ⟨t, 0, none⟩)] 135, Blk b3 #[.int .i64 at1] 3] := HB
    clear hv hah H0
    go_enter Tryz.func134, Tryz.ntmps134
    go_upto_block 1 with (go_at_call 160; go_must (refine ki2.mono ?_; rintro e w3 ⟨k0, rfl, ⟨x0, hx0, hx02⟩, hk2, hb3⟩; have hk0 := (List.getElem?_eq_some_iff.1 hx0).1; have hk1 : ((k0 : Int) == -1) = false := beq_eq_false_iff_ne.2 (by omega)))
    have HB2 := HB.past hb3
    have hf0 : (l.take k0).filter keep = l.take k0 := List.filter_eq_self.2 (fun x hx => by rw [hkph.out, hk2 x hx]; rfl)
    have hstart := Lib.hid (show (l.take (k0 + 1)).filter keep = l.take k0 by rw [filtP_snoc keep hx0, if_neg (by rw [hkph.out, hx02]; simp), hf0])
    clear hb3 HB ki2 hx0 hx02 hk2 hf0
    go_loopw [5, 6, 7] (fun s5 s6 _ wr => ∃ (i j : Nat) (L : List Pm), s5 = .int .i64 i ∧ s6 = .int .i64 j ∧ i < j ∧ j ≤ l.length ∧ L.length = l.length ∧ Hid (L.take i = (l.take j).filter keep) ∧ Hid (L.drop j = l.drop j) ∧ St S w wr [Blk g (encP.all L ++ R).toArray 68, Blk t (stC q mk pv ov) 137, Blk b2 #[.pointer (some ⟨t, 0, none⟩)] 135, Blk b3 #[.int .i64 at1] 3]) (fun _ s6 _ _ => l.length - (intOf s6).toNat)
    case atStart => exact ⟨k0, k0 + 1, l, rfl, by go_num, by omega, by omega, rfl, Lib.hid hstart.out.symm, Lib.hid rfl, HB2⟩
    case round =>
      clear HB2 hstart
      obtain ⟨i, j, L, rfl, rfl, hij, hj, hL, hF, hD, HM⟩ := hrel
      by_cases hlt : j < l.length
      · have hil : i < l.length := by omega
        have hil2 : (i : Int) < (l.length : Int) := by omega
        have hjl2 : (j : Int) < (l.length : Int) := by omega
        obtain ⟨x, hx⟩ : ∃ x, l[j]? = some x := ⟨_, List.getElem?_eq_getElem hlt⟩
        have hxL : L[j]? = some x := by
          have e1 : (L.drop j)[0]? = L[j]? := by simp
          have e2 : (l.drop j)[0]? = l[j]? := by simp
          rw [← e1, hD.out, e2, hx]
        obtain ⟨q0, q1, q2, q3, q4, q5, q6, q7⟩ := pn_blk (HM.blk 0 rfl) hxL
        have kr := hdh.out x (List.mem_of_getElem? hx)
        have hxh := Lib.hid hx
        obtain ⟨ct, hcv⟩ : ∃ ct, del x = ct := ⟨_, rfl⟩
        rw [hcv] at kr
        have hcvh := Lib.hid hcv
        clear hx hcv hxL
        obtain ⟨xx, hxx⟩ : ∃ z, z = x := ⟨_, rfl⟩
        have hxxh := Lib.hid hxx
        have hpc : ∀ K : Array Value, pnC x = K → pnC xx = K := fun K h => by rw [hxx]; exact h
        clear hxx
        obtain ⟨⟨⟨xk, xf, xt⟩, ⟨gn, ga, gt, gx, gy⟩, xr⟩, xa, xc⟩ := x
        unfold pnC Pm.hd textV at hpc
        unfold pnV pnC Pm.hd textV at kr
        unfold Pm.hd at q5
        unfold textV at q0
        simp only at q0 q1 q2 q3 q4 q5 q6 q7 kr hpc
        obtain ⟨X, hX⟩ : ∃ X, ib gx = X := ⟨_, rfl⟩
        obtain ⟨Y, hY⟩ : ∃ Y, ib gy = Y := ⟨_, rfl⟩
        obtain ⟨TL, hTL⟩ : ∃ n, gt.length = n := ⟨_, rfl⟩
        simp only [hX, hY, hTL] at q5 q6 kr hpc
        have hpx := Lib.hid (hpc _ rfl)
        clear hX hY hTL hpc
        have HA : St S w _ (_ :: _) := HM.allocAt rfl #[.string ⟨xk.toArray⟩, .int .i64 xf, .int .i64 xt, .int .i64 gn, .int .i64 ga, .slice xa TL xc, .complex .f64 X Y, .int .i64 xr] 68
        go_upto_region 8 with (fail)
        obtain ⟨wb, hwb⟩ : ∃ wb, wr.alloc (.cells #[.string ⟨xk.toArray⟩, .int .i64 xf, .int .i64 xt, .int .i64 gn, .int .i64 ga, .slice xa TL xc, .complex .f64 X Y, .int .i64 xr] 68) = wb := ⟨_, rfl⟩
        obtain ⟨xb, hxb⟩ : ∃ xb, wr.heap.size = xb := ⟨_, rfl⟩
        rw [hwb, hxb] at HA
        try rw [hwb]
        try simp only [hxb]
        have HA2 : St S w wb [Blk xb #[.string ⟨xk.toArray⟩, .int .i64 xf, .int .i64 xt, .int .i64 gn, .int .i64 ga, .slice xa TL xc, .complex .f64 X Y, .int .i64 xr] 68, Blk g (encP.all L ++ R).toArray 68, Blk t (stC q mk pv ov) 137, Blk b2 #[.pointer (some ⟨t, 0, none⟩)] 135, Blk b3 #[.int .i64 at1] 3] := HA
        clear hwb hxb q0 q1 q2 q3 q4 q5 q6 q7 HM HA
        have kr2 := kr wb ⟨HA2.blk 2 rfl, HA2.blk 3 rfl, HA2.blk 4 rfl⟩
        clear kr
        have d0 := HA2.cell 0 0 rfl rfl
        have d1 := HA2.cell 0 1 rfl rfl
        have d2 := HA2.cell 0 2 rfl rfl
        have d3 := HA2.cell 0 3 rfl rfl
        have d4 := HA2.cell 0 4 rfl rfl
        have d5 := HA2.cell 0 5 rfl rfl
        have d6 := HA2.cell 0 6 rfl rfl
        have d7 := HA2.cell 0 7 rfl rfl
        have hiL : i < L.length := by omega
        have hfitm : i * 8 + 8 ≤ (encP.all L ++ R).length := by rw [List.length_append, pns_len]; omega
        have hset := Lib.hid (show splice (encP.all L ++ R) (i * 8) #[.string ⟨xk.toArray⟩, .int .i64 xf, .int .i64 xt, .int .i64 gn, .int .i64 ga, .slice xa TL xc, .complex .f64 X Y, .int .i64 xr].toList = encP.all (L.set i xx) ++ R by rw [← hpx.out]; exact encP.set R xx hiL)
        cases ct with
        | false =>
          go_wp2_with (first
            | (go_at_call 135; go_must (refine (St.callPast kr2 HA2).mono ?_; rintro e w3 ⟨rfl, H3⟩; clear d0 d1 d2 d3 d4 d5 d6 d7; have d0 := H3.cell 0 0 rfl rfl; have d1 := H3.cell 0 1 rfl rfl; have d2 := H3.cell 0 2 rfl rfl; have d3 := H3.cell 0 3 rfl rfl; have d4 := H3.cell 0 4 rfl rfl; have d5 := H3.cell 0 5 rfl rfl; have d6 := H3.cell 0 6 rfl rfl; have d7 := H3.cell 0 7 rfl rfl))
            | ((with_reducible show Go.wpList _ _ _ (Oper.mk none (Op.store 68 _ _) _ _ _ _ :: _) _ _); go_must (refine St.list_storeMid H3 1 rfl (ty := 68) (n := 8) (off := i * 8) (vs := #[.string ⟨xk.toArray⟩, .int .i64 xf, .int .i64 xt, .int .i64 gn, .int .i64 ga, .slice xa TL xc, .complex .f64 X Y, .int .i64 xr]) (by kernel_rfl) rfl (by simp [allOne, Value.oneCell']) hfitm rfl (.tmp 33) (.tmp 32) rfl rfl rfl ?_; intro w5 H5 hz5)))
          go_roundw
          case rel =>
            rw [hset.out] at H5
            refine ⟨i + 1, j + 1, L.set i xx, by go_num, by go_num, by omega, by omega, by rw [List.length_set]; exact hL, Lib.hid ?_, Lib.hid ?_, St.tail H5⟩
            · rw [filtP_snoc keep hxh.out, if_pos (by rw [hkph.out, hcvh.out]; rfl), ← hF.out, ← hxxh.out]
              exact take_set1 _ hiL
            · rw [List.drop_set_of_lt (by omega), ← List.drop_drop, hD.out, List.drop_drop]
          case measure => simp [intOf]; omega
        | true =>
          go_wp2_with (go_at_call 135; go_must (refine (St.callPast kr2 HA2).mono ?_; rintro e w3 ⟨rfl, H3⟩))
          go_roundw
          case rel =>
            refine ⟨i, j + 1, L, rfl, by go_num, by omega, by omega, hL, Lib.hid ?_, Lib.hid ?_, St.tail H3⟩
            · rw [filtP_snoc keep hxh.out, if_neg (by rw [hkph.out, hcvh.out]; simp)]; exact hF.out
            · rw [← List.drop_drop, hD.out, List.drop_drop]
          case measure => simp [intOf]; omega
      · obtain rfl : j = l.length := by omega
        rw [List.take_length] at hF
        have hFh := Lib.hid hF.out
        have hlenF : (l.filter keep).length = i := by rw [← hF.out, List.length_take]; omega
        have hlenF := Lib.hid hlenF
        obtain ⟨zl, zo⟩ := zero_pns (l.length - i)
        have hsz := pns_len L
        have hmm : mayCells wr g (i * 8) ((l.length - i) * 8) = true := mayCells_blk (HM.blk 0 rfl) (by simp only [List.size_toArray, List.length_append]; omega)
        have hcl : ∀ ty, (Builtin.clear_ #[43] ty #[.slice (some ⟨g, i * 8, none⟩) (l.length - i) (uc - i)]).run Tryz.prog wr = _ := fun ty => run_clear_any wr _ _ ty _ Tryz.underlying43 Tryz.zeroValue68 g (i * 8) _ _ _ (by omega) zl hmm zo
        have H5 := St.setCells 0 (Builtin.zeroCells pnZ.cells (l.length - i)).toList (i * 8) (encP.all L ++ R) wr _ HM rfl (by simp only [List.length_append, Array.length_toList, zl]; omega)
        go_wp2
        go_ret
        rw [hFh.out] at hF
        have H6 := H5.blk_row 0 (e := 68) (size := 8) (cap := uc) (n := i) (xs := encP.all (L.take i)) rfl (by omega) hcm (by
          have h3 : (encP.all L ++ R).length = uc * 8 := by rw [List.length_append, pns_len, hL]; simpa [pns_len] using hcs
          rw [length_splice _ _ _ (by simp only [List.length_append, Array.length_toList, zl]; omega)]
          exact h3) (by
          unfold splice
          have e1 : encP.all (L.take i) = (encP.all L ++ R).take (i * 8) := by
            have e2 : encP.all L = encP.all (L.take i) ++ encP.all (L.drop i) := by rw [← encP.all_app, List.take_append_drop]
            have e3 : (encP.all (L.take i)).length = i * 8 := by rw [pns_len, List.length_take]; omega
            rw [e2, List.append_assoc, List.take_append_of_le_length (by omega), List.take_of_length_le (l := encP.all (L.take i)) (by omega)]
          rw [e1, List.take_append_of_le_length (by rw [List.length_take, List.length_append]; omega), List.take_of_length_le (by rw [List.length_take]; omega)])
        rw [hFh.out] at H6
        refine ⟨_, rfl, ?_⟩
        rw [hlenF.out]
        exact H6

end Go.Proofs.YtiglgfonhdfpmaaGreat

/- The stepper's predicates; open. Conditions: panes in their order, so many. -/
set_option linter.unusedVariables false
set_option linter.unusedSimpArgs false
namespace Go.Proofs.YtiglgfonhdfpmaaGreat
open Go.RowKit

set_option maxHeartbeats 2000000 in
set_option maxRecDepth 100000 in
theorem join_one (m : Pm) (x : Wd) (hm : m.p.w.fits) (hx : x.fits) {bw : Nat} (w : World) (hb : w.heap[bw]? = some (.cells (wdC x) 61 (0, 0))) : Calls Tryz.prog 250 #[pnV m, .pointer (some ⟨bw, 0, none⟩)] w fun e w' => e = .returned (.bool (m.p.w.joins x)) ∧ Below w.heap.size w w' := by
  have kp := fun w' => wd_joins m.p.w x hm hx w'
  obtain ⟨P, hP⟩ : ∃ P, m.p.w.joins x = P := ⟨_, rfl⟩
  rw [hP] at kp ⊢
  clear hP hm hx
  obtain ⟨⟨⟨xk, xf, xt⟩, ⟨gn, ga, gt, gx, gy⟩, xr⟩, xa, xc⟩ := m
  obtain ⟨yk, yf, yt⟩ := x
  unfold wdV wdC textV at kp
  unfold wdC textV at hb
  unfold pnV pnC Pm.hd textV
  simp only at kp hb ⊢
  obtain ⟨X, hX⟩ : ∃ X, ib gx = X := ⟨_, rfl⟩
  obtain ⟨Y, hY⟩ : ∃ Y, ib gy = Y := ⟨_, rfl⟩
  obtain ⟨TL, hTL⟩ : ∃ n, gt.length = n := ⟨_, rfl⟩
  simp only [hX, hY, hTL]
  clear hX hY hTL
  have H : St (fun _ => False) w _ [_] := (St.nil _ w).allocAt rfl #[.string ⟨xk.toArray⟩, .int .i64 xf, .int .i64 xt, .int .i64 gn, .int .i64 ga, .slice xa TL xc, .complex .f64 X Y, .int .i64 xr] 68
  have c0 := H.cell 0 0 rfl rfl
  have c1 := H.cell 0 1 rfl rfl
  have c2 := H.cell 0 2 rfl rfl
  have hb2 := (H.kept.block bw (blk_lt hb) id).trans hb
  have d0 := cell_blk' hb2 (i := 0) rfl
  have d1 := cell_blk' hb2 (i := 1) rfl
  have d2 := cell_blk' hb2 (i := 2) rfl
  go_enter Tryz.func250, Tryz.ntmps250
  go_wp2_with (go_at_call 147; go_must (refine (St.callPast (kp _) H).mono ?_; rintro e w2 ⟨rfl, H2⟩))
  go_ret
  exact ⟨rfl, H2.below (Nat.le_refl _) (fun _ h => h.elim)⟩

set_option maxHeartbeats 2000000 in
set_option maxRecDepth 100000 in
theorem mark_two (m : Pm) (q : Qry) (mk at1 : Int) (pv ov : Value) (hm : m.p.w.fits) {t b2 b3 : Nat} (w : World) (hb : w.heap[t]? = some (.cells (stC q mk pv ov) 137 (0, 0)) ∧ w.heap[b2]? = some (.cells #[.pointer (some ⟨t, 0, none⟩)] 135 (0, 0)) ∧ w.heap[b3]? = some (.cells #[.int .i64 at1] 3 (0, 0))) :
    Calls Tryz.prog 135 #[pnV m, .pointer (some ⟨b2, 0, none⟩), .pointer (some ⟨b3, 0, none⟩)] w fun e w' => e = .returned (.bool (m.p.w.gone q at1)) ∧ Below w.heap.size w w' := by
  obtain ⟨ht, h2, h3⟩ := hb
  have kp := fun w' => wd_gone q m.p.w hm at1 w'
  obtain ⟨P, hP⟩ : ∃ P, m.p.w.gone q at1 = P := ⟨_, rfl⟩
  simp only [hP] at kp ⊢
  clear hP hm
  obtain ⟨⟨⟨xk, xf, xt⟩, ⟨gn, ga, gt, gx, gy⟩, xr⟩, xa, xc⟩ := m
  obtain ⟨kd, sz, sl, lt, ag, kk⟩ := q
  unfold qyV qyC wdV wdC textV at kp
  unfold stC at ht
  unfold pnV pnC Pm.hd textV
  simp only at kp ht ⊢
  obtain ⟨X, hX⟩ : ∃ X, ib gx = X := ⟨_, rfl⟩
  obtain ⟨Y, hY⟩ : ∃ Y, ib gy = Y := ⟨_, rfl⟩
  obtain ⟨TL, hTL⟩ : ∃ n, gt.length = n := ⟨_, rfl⟩
  simp only [hX, hY, hTL]
  clear hX hY hTL
  have H : St (fun _ => False) w _ [_] := (St.nil _ w).allocAt rfl #[.string ⟨xk.toArray⟩, .int .i64 xf, .int .i64 xt, .int .i64 gn, .int .i64 ga, .slice xa TL xc, .complex .f64 X Y, .int .i64 xr] 68
  obtain ⟨b, hb⟩ : ∃ b, w.heap.size = b := ⟨_, rfl⟩
  obtain ⟨w1, hw1⟩ : ∃ w1, w.alloc (.cells #[.string ⟨xk.toArray⟩, .int .i64 xf, .int .i64 xt, .int .i64 gn, .int .i64 ga, .slice xa TL xc, .complex .f64 X Y, .int .i64 xr] 68) = w1 := ⟨_, rfl⟩
  go_enter Tryz.func135, Tryz.ntmps135
  go_upto_region 1 with (fail)
  rw [hw1, hb] at H
  try rw [hw1]
  try simp only [hb]
  have hbh := Lib.hid hb
  clear hw1 hb
  refine wp_calm (fun w' => St (fun _ => False) w w' [Blk b #[.string ⟨xk.toArray⟩, .int .i64 xf, .int .i64 xt, .int .i64 gn, .int .i64 ga, .slice xa TL xc, .complex .f64 X Y, .int .i64 xr] 68]) (by kernel_rfl) (by kernel_rfl) (H.drew) ?_
  iterate 9 first
    | (apply calm_pass
       · rfl
       intro K hK
       go_simp
       refine hK _ ?_
       clear hK K)
    | (apply calm_step
       · rfl
       · intro w1 h1
         have c0 := h1.cell 0 0 rfl rfl
         have c1 := h1.cell 0 1 rfl rfl
         have c2 := h1.cell 0 2 rfl rfl
         have g1 := (h1.kept.block t (blk_lt ht) id).trans ht
         have e0 := cell_blk' g1 (i := 0) rfl
         have e1 := cell_blk' g1 (i := 1) rfl
         have e2 := cell_blk' g1 (i := 2) rfl
         have e3 := cell_blk' g1 (i := 3) rfl
         have e4 := cell_blk' g1 (i := 4) rfl
         have e5 := cell_blk' g1 (i := 5) rfl
         have e8 := cell_blk' ((h1.kept.block b2 (blk_lt h2) id).trans h2) (i := 0) rfl
         have e9 := cell_blk' ((h1.kept.block b3 (blk_lt h3) id).trans h3) (i := 0) rfl
         first
           | (go_simp
              first
                | rfl
                | exact ⟨rfl, h1⟩
                | (go_at_call 136; with_reducible exact St.callPast (kp w1) h1)
             )
       intro K hK
       go_simp
       refine hK _ ?_
       clear hK K)
  refine calm_nil ?_
  intro w9 H9
  go_wp2
  go_ret
  exact ⟨rfl, H9.below (Nat.le_refl _) (fun _ h => h.elim)⟩

/-- Panes in their order. -/
def Ord (l : List Pn) : Prop := l.Pairwise fun a b => a.w.place b.w < 0
theorem ord_iff : ∀ {l : List Pn}, sortedP l = true ↔ Ord l
  | [] => by simp [sortedP, Ord]
  | [x] => by simp [sortedP, Ord]
  | x :: y :: r => by
    have ih := ord_iff (l := y :: r)
    unfold Ord at ih ⊢
    simp only [sortedP, Bool.and_eq_true, decide_eq_true_eq, ih]
    constructor
    · rintro ⟨h1, h2⟩
      refine List.pairwise_cons.2 ⟨fun z hz => ?_, h2⟩
      rcases List.mem_cons.1 hz with rfl | hz
      · exact h1
      · exact place_trans h1 ((List.pairwise_cons.1 h2).1 z hz)
    · intro h
      have h3 := List.pairwise_cons.1 h
      exact ⟨h3.1 y (by simp), h3.2⟩
theorem placeP_le (l : List Pn) (x : Wd) : placeP l x ≤ l.length := by
  have := posW_le (l.map (·.w)) x
  rwa [List.length_map] at this
theorem placeP_lo {l : List Pn} {x : Wd} {j : Nat} {y : Pn} (hj : j < placeP l x) (hy : l[j]? = some y) : y.w.place x < 0 :=
  posW_lo (l := l.map (·.w)) hj (by rw [List.getElem?_map, hy]; rfl)
theorem placeP_hi {l : List Pn} {x : Wd} (hl : Ord l) {j : Nat} {y : Pn} (hj : placeP l x ≤ j) (hy : l[j]? = some y) : 0 ≤ y.w.place x := by
  have key : ∀ (l : List Pn), Ord l → ∀ (j : Nat) y, placeP l x ≤ j → l[j]? = some y → 0 ≤ y.w.place x := by
    intro l
    induction l with
    | nil => intro _ j y _ h; simp at h
    | cons a r ih =>
      intro ho j y hj hy
      have h2 := List.pairwise_cons.1 ho
      unfold placeP posW at hj
      rw [List.map_cons, List.takeWhile_cons] at hj
      by_cases ha : a.w.place x < 0
      · rw [if_pos (by simpa using ha), List.length_cons] at hj
        obtain ⟨k, rfl⟩ : ∃ k, j = k + 1 := ⟨j - 1, by omega⟩
        exact ih h2.2 k y (by unfold placeP posW; omega) (by simpa using hy)
      · cases j with
        | zero =>
          obtain rfl : a = y := by simpa using hy
          omega
        | succ k =>
          have hy2 : y ∈ r := List.mem_of_getElem? (by simpa using hy)
          refine Classical.byContradiction fun hc => ?_
          have := place_trans (h2.1 y hy2) (show y.w.place x < 0 by omega)
          omega
  exact key l hl j y hj hy

end Go.Proofs.YtiglgfonhdfpmaaGreat

/- The stepper's open. Conditions: panes in their order, so many. (Printed by a program of mine.) -/
set_option linter.unusedVariables false
set_option linter.unusedSimpArgs false
namespace Go.Proofs.YtiglgfonhdfpmaaGreat
open Go.RowKit

/-- The panes with a window's one, opened if it isn't there. -/
def openM (l : List Pn) (x : Wd) : List Pn := if (∃ p, l[placeP l x]? = some p ∧ p.w = x) then l else withP l ⟨x, Ag.zero, 0⟩
theorem St.pool_zero {S : Nat → Prop} {w0 w : World} {L : List SP} (h : St S w0 w L) (i : Nat) {H : List (Value × List Int)} (hi : L[i]? = some (Pool H)) : St S w0 w (L.set i (Pool ((.slice none 0 0, []) :: H))) := by
  obtain ⟨S1, h1, h2⟩ := h.turn i hi
  refine h2 (S1' := S1) (Kept.refl _ _) ⟨fun x hx => ?_, h1.2⟩ (fun _ a => .inl a)
  rcases List.mem_cons.1 hx with rfl | hx
  · exact ⟨⟨none, 0, rfl, Nat.le_refl _, by simp, fun h => absurd rfl h⟩, fun h => absurd rfl h⟩
  · exact h1.1 x hx
def pm0 (x : Wd) : Pm := ⟨⟨x, Ag.zero, 0⟩, none, 0⟩
theorem pm0_cells (x : Wd) : pnC (pm0 x) = #[.string ⟨x.key.toArray⟩, .int .i64 x.frm, .int .i64 x.to, .int .i64 0, .int .i64 0, .slice none 0 0, .complex .f64 0 0, .int .i64 0] := by
  simp only [pnC, pm0, Ag.zero, ib_zero, textV, Pm.hd, List.length_nil]

set_option maxHeartbeats 4000000 in
set_option maxRecDepth 100000 in
theorem step_open {t : Nat} {q : Qry} {mk : Int} {l : List Pn} {o : List Ot} {x : Wd} {w : World} {S : Nat → Prop} (hord : Ord l) (hll : l.length ≤ 1073741823) (H0 : Sep w [Stp t q mk l o] S) :
    Calls Tryz.prog 140 #[.pointer (some ⟨t, 0, none⟩), wdV x] w fun e w' => e = .returned (.int .i64 (placeP l x)) ∧ St S w w' [Stp t q mk (openM l x) o] := by
  have hk := placeP_le l x
  have hlo := fun (j : Nat) (y : Pn) (h1 : j < placeP l x) (h2 : l[j]? = some y) => placeP_lo (x := x) h1 h2
  have hhi := fun (j : Nat) (y : Pn) (h1 : placeP l x ≤ j) (h2 : l[j]? = some y) => placeP_hi (x := x) hord h1 h2
  have hnew0 : withP l ⟨x, Ag.zero, 0⟩ = l.take (placeP l x) ++ ⟨x, Ag.zero, 0⟩ :: l.drop (placeP l x) := rfl
  have hopen0 : openM l x = if (∃ p, l[placeP l x]? = some p ∧ p.w = x) then l else withP l ⟨x, Ag.zero, 0⟩ := rfl
  obtain ⟨k, hkk⟩ : ∃ k, placeP l x = k := ⟨_, rfl⟩
  rw [hkk] at hk hnew0 hopen0
  simp only [hkk] at hlo hhi
  rw [hkk]
  clear hkk hord
  obtain ⟨res, hres⟩ : ∃ r, openM l x = r := ⟨_, rfl⟩
  rw [hres] at hopen0 ⊢
  rw [hnew0] at hopen0
  clear hnew0 hres
  obtain ⟨pv, ov, ms, os, H, rfl, rfl, hmo, hoo, H1⟩ := Stp.open (St.refl H0)
  clear H0
  rw [List.length_map] at hk hll
  have kf := fun w' (hb : w'.heap[t]? = some (.cells (stC q mk pv ov) 137 (0, 0))) (hv : encP.RO w' pv ms) => step_find (x := x) hb hv (by omega) hk (fun j y h1 h2 => hlo j y.p h1 (by rw [List.getElem?_map, h2]; rfl)) (fun j y h1 h2 => hhi j y.p h1 (by rw [List.getElem?_map, h2]; rfl))
  clear hlo hhi
  have kins := Lib.hid (fun (w' : World) (S' : Nat → Prop) (g2 : Nat) (h : Sep w' [Row 68 8 pv ms.length (encP.all ms), Blk g2 (pnC (pm0 x)) 68] S') => pns_insert (x := pm0 x) hk (by omega) h)
  have hmoh := Lib.hid hmo
  have hooh := Lib.hid hoo
  have hopenh := Lib.hid hopen0
  clear hmo hoo hopen0
  have hpmh := Lib.hid (pm0_cells x)
  obtain ⟨xx, hxx⟩ : ∃ z, z = x := ⟨_, rfl⟩
  have hxxh := Lib.hid hxx
  rw [hxx.symm] at kins hopenh hpmh
  simp only [← hxx] at kf
  clear hxx
  obtain ⟨NP, hNP⟩ : ∃ z, z = pm0 xx := ⟨_, rfl⟩
  have hNPh := Lib.hid hNP
  rw [← hNP] at kins hpmh
  clear hNP
  obtain ⟨qq, hqq⟩ : ∃ z, z = q := ⟨_, rfl⟩
  have hqqh := Lib.hid hqq
  rw [← hqq]
  clear hqq
  obtain ⟨kd, sz, sl, lt, ag, kk⟩ := q
  obtain ⟨yk, yf, yt⟩ := x
  rw [hxxh.out] at hpmh
  have kf2 : ∀ w', (w'.heap[t]? = some (.cells (stC ⟨kd, sz, sl, lt, ag, kk⟩ mk pv ov) 137 (0, 0))) → encP.RO w' pv ms → Calls Tryz.prog 197 #[.pointer (some ⟨t, 0, none⟩), wdV ⟨yk, yf, yt⟩] w' fun e w2 => FoundP k ms xx e ∧ Below w'.heap.size w' w2 := fun w' a b => by
    have := kf w' a b
    rw [hxxh.out] at this ⊢
    exact this
  clear kf
  unfold stC wdV wdC textV at kf2
  unfold stC at H1
  unfold wdV wdC textV
  simp only at kf2 hpmh H1 ⊢
  have H2 : St S w _ (_ :: _) := H1.allocAt rfl #[.string ⟨yk.toArray⟩, .int .i64 yf, .int .i64 yt] 61
  obtain ⟨xb, hxb⟩ : ∃ b, w.heap.size = b := ⟨_, rfl⟩
  obtain ⟨w1, hw1⟩ : ∃ w1, w.alloc (.cells #[.string ⟨yk.toArray⟩, .int .i64 yf, .int .i64 yt] 61) = w1 := ⟨_, rfl⟩
  go_enter Tryz.func140, Tryz.ntmps140
  go_upto_region 1 with (fail)
  rw [hw1, hxb] at H2
  try rw [hw1]
  try simp only [hxb]
  have H3 : St S w w1 [Blk xb #[.string ⟨yk.toArray⟩, .int .i64 yf, .int .i64 yt] 61, Blk t #[.int .i64 kd, .int .i64 sz, .int .i64 sl, .int .i64 lt, .int .i64 ag, .int .i64 kk, .int .i64 mk, pv, ov] 137, Row 68 8 pv ms.length (encP.all ms), Row 63 10 ov os.length (encO.all os), Pool H] := H2
  have hxbh := Lib.hid hxb
  clear hw1 hxb H1 H2
  have kc := kf2 _ (H3.blk 1 rfl) (Enc.own encP (H3.row 2 rfl) rfl)
  clear kf2
  have d0 := H3.cell 0 0 rfl rfl
  have d1 := H3.cell 0 1 rfl rfl
  have d2 := H3.cell 0 2 rfl rfl
  go_upto_region 2 with (go_at_call 197; go_must (refine kc.mono ?_; rintro e w3 ⟨⟨bv, rfl, hbv⟩, hb3⟩; have hbvh := Lib.hid hbv; clear hbv))
  have H4 := H3.past hb3
  clear H3 hb3 d0 d1 d2 kc
  have hdec : (∃ p, (ms.map (·.p))[k]? = some p ∧ p.w = xx) ↔ bv = true := by
    rw [hbvh.out, List.getElem?_map]
    constructor
    · rintro ⟨p, hp, hw⟩
      obtain ⟨m, hm, rfl⟩ := Option.map_eq_some_iff.1 hp
      exact ⟨m, hm, hw⟩
    · rintro ⟨m, hm, hw⟩
      exact ⟨m.p, by rw [hm]; rfl, hw⟩
  have hdech := Lib.hid hdec
  clear hdec
  cases bv with
  | true =>
    have hr : res = ms.map (·.p) := by rw [hopenh.out, if_pos (hdech.out.2 rfl)]
    have hrh := Lib.hid hr
    clear hr
    go_wp2
    go_ret
    refine ⟨rfl, ?_⟩
    rw [hrh.out, hqqh.out]
    exact Stp.mk' rfl rfl hmoh.out hooh.out (H4.pick [1, 2, 3, 4])
  | false =>
    have hr : res = (ms.map (·.p)).take k ++ ⟨xx, Ag.zero, 0⟩ :: (ms.map (·.p)).drop k := by rw [hopenh.out, if_neg (fun h => by have := hdech.out.1 h; cases this)]
    have hrh := Lib.hid hr
    clear hr
    go_upto_region 3 with (fail)
    refine wp_script_tail 14 [(0, false), (1, false), (2, false), (3, false), (4, false), (5, false), (6, false), (7, false), (8, false), (9, true), (10, true), (11, false), (12, false), (13, false)] (Fam fun w' => St S w w' [Blk xb #[.string ⟨yk.toArray⟩, .int .i64 yf, .int .i64 yt] 61, Blk t #[.int .i64 kd, .int .i64 sz, .int .i64 sl, .int .i64 lt, .int .i64 ag, .int .i64 kk, .int .i64 mk, pv, ov] 137]) (fun w' => St S w w' [Blk xb #[.string ⟨yk.toArray⟩, .int .i64 yf, .int .i64 yt] 61, Blk t #[.int .i64 kd, .int .i64 sz, .int .i64 sl, .int .i64 lt, .int .i64 ag, .int .i64 kk, .int .i64 mk, pv, ov] 137, Row 68 8 pv ms.length (encP.all ms), Row 63 10 ov os.length (encO.all os), Pool H]) (by kernel_rfl) (by rfl) (by kernel_rfl) (by kernel_rfl) H4.drew (Fam.st (fun _ h => h.pick [0, 1])) ?_
    iterate 9 first
      | (apply script_pass
         · rfl
         · rfl
         intro K hK
         go_simp
         refine hK _ ?_
         clear hK K)
      | (apply script_step
         · rfl
         · rfl
         · intro I hI w1 h1'
           have h1 := hI.2 _ h1'
           have d0 := h1.cell 0 0 rfl rfl
           have d1 := h1.cell 0 1 rfl rfl
           have d2 := h1.cell 0 2 rfl rfl
           have c7 := h1.cell 1 7 rfl rfl
           first
             | (go_simp
                first
                  | rfl
                  | exact ⟨rfl, h1'⟩
               )
         intro K hK
         go_simp
         refine hK _ ?_
         clear hK K)
    refine script_alone rfl rfl ?_
    intro V hV w1 h1
    go_simp
    obtain ⟨gn, hgn⟩ : ∃ g, w1.heap.size = g := ⟨_, rfl⟩
    have H5 : St S w _ [Blk gn #[.string ⟨yk.toArray⟩, .int .i64 yf, .int .i64 yt, .int .i64 0, .int .i64 0, .slice none 0 0, .complex .f64 0 0, .int .i64 0] 68, Blk xb #[.string ⟨yk.toArray⟩, .int .i64 yf, .int .i64 yt] 61, Blk t #[.int .i64 kd, .int .i64 sz, .int .i64 sl, .int .i64 lt, .int .i64 ag, .int .i64 kk, .int .i64 mk, pv, ov] 137, Row 68 8 pv ms.length (encP.all ms), Row 63 10 ov os.length (encO.all os), Pool H] := h1.allocAt hgn #[.string ⟨yk.toArray⟩, .int .i64 yf, .int .i64 yt, .int .i64 0, .int .i64 0, .slice none 0 0, .complex .f64 0 0, .int .i64 0] 68
    simp only [hgn]
    refine ⟨fun w' => St S w w' [Blk gn #[.string ⟨yk.toArray⟩, .int .i64 yf, .int .i64 yt, .int .i64 0, .int .i64 0, .slice none 0 0, .complex .f64 0 0, .int .i64 0] 68, Blk xb #[.string ⟨yk.toArray⟩, .int .i64 yf, .int .i64 yt] 61, Blk t #[.int .i64 kd, .int .i64 sz, .int .i64 sl, .int .i64 lt, .int .i64 ag, .int .i64 kk, .int .i64 mk, pv, ov] 137, Row 68 8 pv ms.length (encP.all ms), Row 63 10 ov os.length (encO.all os), Pool H], hV _ _ _ (fun _ h => h) (Fam.st (fun _ h => h.pick [1, 2])) ?_, H5⟩
    intro K hK
    go_simp
    refine hK _ ?_
    clear hK K hV V
    clear H5 h1 hgn w1
    refine script_alone rfl rfl ?_
    intro V hV w1 h1
    go_simp
    have h1a := h1.pick [3, 0, 1, 2, 4, 5]
    have h1b : St S w w1 [Row 68 8 pv ms.length (encP.all ms), Blk gn (pnC NP) 68, Blk xb #[.string ⟨yk.toArray⟩, .int .i64 yf, .int .i64 yt] 61, Blk t #[.int .i64 kd, .int .i64 sz, .int .i64 sl, .int .i64 lt, .int .i64 ag, .int .i64 kk, .int .i64 mk, pv, ov] 137, Row 63 10 ov os.length (encO.all os), Pool H] := by rw [hpmh.out]; exact h1a
    clear h1a
    obtain ⟨S1, K1, G1⟩ := St.call (l1 := [_, _]) h1b
    refine (kins.out w1 S1 gn K1).mono ?_
    rintro e w2 ⟨nv, rfl, H5⟩
    have H6 : St S w w2 [Row 68 8 nv (ms.length + 1) (encP.all (ms.take k ++ NP :: ms.drop k)), Blk gn (pnC NP) 68, Blk xb #[.string ⟨yk.toArray⟩, .int .i64 yf, .int .i64 yt] 61, Blk t #[.int .i64 kd, .int .i64 sz, .int .i64 sl, .int .i64 lt, .int .i64 ag, .int .i64 kk, .int .i64 mk, pv, ov] 137, Row 63 10 ov os.length (encO.all os), Pool H] := G1 _ _ H5
    clear h1b K1 G1
    refine ⟨_, rfl, fun w' => St S w w' [Row 68 8 nv (ms.length + 1) (encP.all (ms.take k ++ NP :: ms.drop k)), Blk gn (pnC NP) 68, Blk xb #[.string ⟨yk.toArray⟩, .int .i64 yf, .int .i64 yt] 61, Blk t #[.int .i64 kd, .int .i64 sz, .int .i64 sl, .int .i64 lt, .int .i64 ag, .int .i64 kk, .int .i64 mk, pv, ov] 137, Row 63 10 ov os.length (encO.all os), Pool H], hV _ _ _ (fun _ h => h) (Fam.st (fun _ h => h.pick [2, 3])) ?_, H6⟩
    intro K hK
    go_simp
    refine hK _ ?_
    clear hK K hV V
    clear H6 H5 h1 w1 w2
    iterate 3 first
      | (apply script_pass
         · rfl
         · rfl
         intro K hK
         go_simp
         refine hK _ ?_
         clear hK K)
      | (apply script_step
         · rfl
         · rfl
         · intro I hI w1 h1'
           have h1 := hI.2 _ h1'
           first
             | (go_simp
                first
                  | rfl
                  | exact ⟨rfl, h1'⟩
               )
         intro K hK
         go_simp
         refine hK _ ?_
         clear hK K)
    refine script_nil ?_
    intro w5 H5
    simp only [List.drop_succ_cons, List.drop_zero]
    have f7 := H5.free 3 7 rfl
    have c7 := H5.cell 3 7 rfl rfl
    have nvf := slice_form' (H5.row 0 rfl)
    obtain ⟨na, nc, rfl, -, -⟩ := nvf
    have H6 := (H5.set 3 rfl 7 (.slice na (ms.length + 1) nc)).pool_zero 5 rfl
    go_wp2
    go_ret
    refine ⟨rfl, ?_⟩
    have hlen : (ms.take k ++ NP :: ms.drop k).length = ms.length + 1 := by
      rw [List.length_append, List.length_take, List.length_cons, List.length_drop]
      omega
    refine Stp.mk' (pv := .slice na (ms.length + 1) nc) (ov := ov) (ms := ms.take k ++ NP :: ms.drop k) (os := os) (H := (.slice none 0 0, []) :: H) ?_ rfl ?_ (fun y hy => List.mem_cons_of_mem _ (hooh.out y hy)) ?_
    · rw [hrh.out, List.map_append, List.map_cons, List.map_take, List.map_drop, hNPh.out]
      rfl
    · intro m hm
      rcases List.mem_append.1 hm with hm | hm
      · exact List.mem_cons_of_mem _ (hmoh.out m (List.mem_of_mem_take hm))
      · rcases List.mem_cons.1 hm with rfl | hm
        · rw [hNPh.out]
          exact List.mem_cons_self
        · exact List.mem_cons_of_mem _ (hmoh.out m (List.mem_of_mem_drop hm))
    · rw [hqqh.out, hlen]
      exact H6.pick [3, 0, 4, 5]

end Go.Proofs.YtiglgfonhdfpmaaGreat

/- The stepper's put. Conditions: the pane and the value are right; so many. -/
set_option linter.unusedVariables false
set_option linter.unusedSimpArgs false
namespace Go.Proofs.YtiglgfonhdfpmaaGreat
open Go.RowKit

theorem merge_lim {q : Qry} {a b : Ag} (ha : a.right q = true) (hb : b.right q = true) : (mergeC q a b).1.right q = true := by
  have hq := (Ag.right_iff.1 ha).1
  unfold mergeC
  cases h : mergeM q a b with
  | none => exact zero_right hq
  | some g => exact merge_right ha hb h
theorem mergeC_some {q : Qry} {a b g : Ag} (h : mergeM q a b = some g) : mergeC q a b = (g, 0) := by unfold mergeC; rw [h]
theorem mergeC_none {q : Qry} {a b : Ag} (h : mergeM q a b = none) : mergeC q a b = (Ag.zero, 20) := by unfold mergeC; rw [h]
/-- What an event's value leads to: an error, or panes and outs. -/
def PutOk (t : Nat) (q : Qry) (mk : Int) (l : List Pn) (i : Nat) (o : List Ot) (S : Nat → Prop) (w : World) (r : Option (Pn × List Ot)) (e : Ending) (w' : World) : Prop :=
  match r with
  | none => e = .returned (.int .i64 20) ∧ St S w w' []
  | some y => e = .returned (.int .i64 0) ∧ St S w w' [Stp t q mk (l.set i y.1) (o ++ y.2)]

set_option maxHeartbeats 8000000 in
set_option maxRecDepth 100000 in
theorem step_put {t i : Nat} {q : Qry} {mk v : Int} {l : List Pn} {o : List Ot} {p : Pn} {w : World} {S : Nat → Prop} (hp : l[i]? = some p) (hg : p.g.right q = true) (hr : 0 ≤ p.round ∧ p.round ≤ 1073741824) (hf : p.w.fits) (hv : valB v = true) (hol : o.length ≤ 1073741824) (hll : l.length ≤ 1073741824) (H0 : Sep w [Stp t q mk l o] S) :
    Calls Tryz.prog 139 #[.pointer (some ⟨t, 0, none⟩), .int .i64 i, .int .i64 v] w fun e w' => PutOk t q mk l i o S w (putM q mk p.w p.g p.round v) e w' := by
  obtain ⟨pv, ov, ms, os, H, rfl, rfl, hmo, hoo, H1⟩ := Stp.open (St.refl H0)
  clear H0
  rw [List.length_map] at hol hll
  rw [List.getElem?_map] at hp
  obtain ⟨m, hm, rfl⟩ := Option.map_eq_some_iff.1 hp
  clear hp
  have hi := (List.getElem?_eq_some_iff.1 hm).1
  have hne : ms.length ≠ 0 := by omega
  obtain ⟨g, cap, R, rfl, hnc, hcm, hxl, hcs, HB⟩ := H1.row_blk 1 rfl hne
  have H2 : St S w w [Blk t (stC q mk (.slice (some ⟨g, 0, none⟩) ms.length cap) ov) 137, Blk g (encP.all ms ++ R).toArray 68, Row 63 10 ov os.length (encO.all os), Pool H] := HB
  clear H1 HB
  have ka := fun w' (h : IntsRO w' m.hd m.p.g.top) => agg_add q m.p.g v w' h hg hv
  have kr := fun w' => wd_ripe m.p.w hf mk w'
  have hmR := merge_lim hg (single_right (Ag.right_iff.1 hg).1 hv)
  have hin := hmo m (List.mem_of_getElem? hm)
  have hmh := Lib.hid hm
  have hinh := Lib.hid hin
  have hmoh := Lib.hid hmo
  have hooh := Lib.hid hoo
  have kf := Lib.hid (fun (w' : World) (ov' : Value) (S' : Nat → Prop) (ms' : List Pm) (m' : Pm) (H' : List (Value × List Int)) (h1 : ms'[i]? = some m') (h2 : m'.p.g.right q = true) (h3 : 0 ≤ m'.p.round ∧ m'.p.round ≤ 1073741824) (h4 : m'.own ∈ H') (h5 : Sep w' [Blk t (stC q mk (.slice (some ⟨g, 0, none⟩) ms.length cap) ov') 137, Blk g (encP.all ms' ++ R).toArray 68, Row 63 10 ov' os.length (encO.all os), Pool H'] S') => step_fire (t := t) (mark := mk) (pv := .slice (some ⟨g, 0, none⟩) ms.length cap) (R := R) h1 h2 h3 h4 hol h5)
  clear hm hin hmo hoo
  obtain ⟨res, hres⟩ : ∃ r, putM q mk m.p.w m.p.g m.p.round v = r := ⟨_, rfl⟩
  rw [hres]
  have hresh := Lib.hid hres
  clear hres
  obtain ⟨rp, hrp⟩ : ∃ r, m.p.w.ripe mk = r := ⟨_, rfl⟩
  simp only [hrp] at kr
  have hrph := Lib.hid hrp
  clear hrp
  obtain ⟨⟨M, cd⟩, hM⟩ : ∃ M, mergeC q m.p.g (singleM q v) = M := ⟨_, rfl⟩
  rw [hM] at hmR
  simp only [hM] at ka hmR
  have hcd : (cd = 20 ∧ res = none) ∨ (cd = 0 ∧ res = if rp = true then (if m.p.round = 1073741824 then none else some (⟨m.p.w, M, m.p.round + 1⟩, [⟨false, itm00, m.p.w, m.p.round + 1, valueM q M⟩])) else some (⟨m.p.w, M, m.p.round⟩, [])) := by
    cases hmg : mergeM q m.p.g (singleM q v) with
    | none =>
      rw [mergeC_none hmg] at hM
      cases hM
      refine .inl ⟨rfl, ?_⟩
      rw [← hresh.out]
      unfold putM
      rw [hmg]
    | some gg =>
      rw [mergeC_some hmg] at hM
      cases hM
      refine .inr ⟨rfl, ?_⟩
      rw [← hresh.out, ← hrph.out]
      unfold putM
      rw [hmg]
  have hcdh := Lib.hid hcd
  clear hM hcd
  have hmRh := Lib.hid hmR
  have htb := valB_of_top hmR
  clear hmR
  obtain ⟨qq, hqq⟩ : ∃ x, x = q := ⟨_, rfl⟩
  obtain ⟨mm, hmm⟩ : ∃ x, x = m := ⟨_, rfl⟩
  obtain ⟨MM, hMM⟩ : ∃ x, x = M := ⟨_, rfl⟩
  have hqqh := Lib.hid hqq
  have hmmh := Lib.hid hmm
  have hMMh := Lib.hid hMM
  rw [← hqq]
  clear hqq hmm hMM
  obtain ⟨kd, sz, sl, lt, ag, kk⟩ := q
  obtain ⟨⟨⟨xk, xf, xt⟩, ⟨gn, ga, gt, gx, gy⟩, xr⟩, xa, xc⟩ := m
  obtain ⟨mn, ma, tm, mx, my⟩ := M
  unfold qyV qyC agV agC Pm.hd at ka
  unfold wdV wdC textV at kr
  unfold stC at H2
  unfold Pm.own Pm.hd at hinh
  simp only at ka kr H2 hinh htb hr
  obtain ⟨X, hX⟩ : ∃ X, ib gx = X := ⟨_, rfl⟩
  obtain ⟨Y, hY⟩ : ∃ Y, ib gy = Y := ⟨_, rfl⟩
  obtain ⟨MX, hMX⟩ : ∃ X, ib mx = X := ⟨_, rfl⟩
  obtain ⟨MY, hMY⟩ : ∃ X, ib my = X := ⟨_, rfl⟩
  simp only [hX, hY, hMX, hMY] at ka
  have hMXh := Lib.hid hMX
  have hMYh := Lib.hid hMY
  have hXh := Lib.hid hX
  have hYh := Lib.hid hY
  clear hMX hMY
  have hi2 : (i : Int) < (ms.length : Int) := by omega
  have c7 := H2.cell 0 7 rfl rfl
  go_enter Tryz.func139, Tryz.ntmps139
  go_upto_region 2 with (fail)
  clear c7
  have H3 := H2.pick [3, 0, 1, 2]
  have H3 : St S w w [Pool H, Blk t #[.int .i64 kd, .int .i64 sz, .int .i64 sl, .int .i64 lt, .int .i64 ag, .int .i64 kk, .int .i64 mk, .slice (some ⟨g, 0, none⟩) ms.length cap, ov] 137, Blk g (encP.all ms ++ R).toArray 68, Row 63 10 ov os.length (encO.all os)] := H3
  clear H2
  go_cut [8, 9, 17] from 18 to 29 (fun p8 p9 _ wx => ∃ (ba : Nat) (am : Option Addr) (cm : Nat), p8 = .pointer (some ⟨ba, 0, none⟩) ∧ p9 = .int .i64 cd ∧ St S w wx [Blk ba #[.int .i64 mn, .int .i64 ma, .slice am tm.length cm, .complex .f64 MX MY] 66, Pool ((.slice am tm.length cm, tm) :: H), Blk t #[.int .i64 kd, .int .i64 sz, .int .i64 sl, .int .i64 lt, .int .i64 ag, .int .i64 kk, .int .i64 mk, .slice (some ⟨g, 0, none⟩) ms.length cap, ov] 137, Blk g (encP.all ms ++ R).toArray 68, Row 63 10 ov os.length (encO.all os)])
  case first =>
    refine wp_plan (.small 0 (.small 1 (.small 2 (.small 3 (.small 4 (.small 5 (.small 6 (.small 7 (.small 8 (.fork 9 13 (.small 10 (.small 11 (.small 12 (.alone 13 (.alone 14 (.small 15 .nil)))))) (.alone 9 (.small 10 (.small 11 (.small 12 (.alone 14 (.small 15 .nil)))))))))))))))) (Fam fun w' => St S w w' [Blk t #[.int .i64 kd, .int .i64 sz, .int .i64 sl, .int .i64 lt, .int .i64 ag, .int .i64 kk, .int .i64 mk, .slice (some ⟨g, 0, none⟩) ms.length cap, ov] 137, Blk g (encP.all ms ++ R).toArray 68]) (fun w' => St S w w' [Pool H, Blk t #[.int .i64 kd, .int .i64 sz, .int .i64 sl, .int .i64 lt, .int .i64 ag, .int .i64 kk, .int .i64 mk, .slice (some ⟨g, 0, none⟩) ms.length cap, ov] 137, Blk g (encP.all ms ++ R).toArray 68, Row 63 10 ov os.length (encO.all os)]) (by kernel_rfl) (by rfl) (by kernel_rfl) (by kernel_rfl) H3.drew (Fam.st (fun _ h => h.pick [1, 2])) ?_
    iterate 9 first
      | (apply plan_pass
         · rfl
         · rfl
         intro K hK
         go_simp
         refine hK _ ?_
         clear hK K)
      | (apply plan_step
         · rfl
         · rfl
         · intro I hI w1 h1'
           have h1 := hI.2 _ h1'
           obtain ⟨q0, q1, q2, q3, q4, q5, q6, q7⟩ := pn_blk (h1.blk 1 rfl) hmh.out
           unfold textV at q0
           unfold Pm.hd at q5
           simp only [hX, hY] at q0 q1 q2 q3 q4 q5 q6 q7
           have d0 := h1.cell 0 0 rfl rfl
           have d1 := h1.cell 0 1 rfl rfl
           have d2 := h1.cell 0 2 rfl rfl
           have d3 := h1.cell 0 3 rfl rfl
           have d4 := h1.cell 0 4 rfl rfl
           have d5 := h1.cell 0 5 rfl rfl
           have d6 := h1.cell 0 6 rfl rfl
           have d7 := h1.cell 0 7 rfl rfl
           first
             | (go_simp
                first
                  | rfl
                  | exact ⟨rfl, h1'⟩
               )
         intro K hK
         go_simp
         refine hK _ ?_
         clear hK K)
    refine plan_two rfl rfl rfl rfl ?_ ?_
    · skip
      intro V hV w1 h1
      go_simp
      refine (ka w1 (h1.pool_get 0 rfl hinh.out)).mono ?_
      rintro e w2 ⟨hs, rfl, G1⟩
      obtain ⟨am, cm, rfl, -, -⟩ := slice_form' (G1.row 0 rfl)
      have H4 : St S w w2 [Row 3 1 (.slice am tm.length cm) tm.length (intCells tm), Pool H, Blk t #[.int .i64 kd, .int .i64 sz, .int .i64 sl, .int .i64 lt, .int .i64 ag, .int .i64 kk, .int .i64 mk, .slice (some ⟨g, 0, none⟩) ms.length cap, ov] 137, Blk g (encP.all ms ++ R).toArray 68, Row 63 10 ov os.length (encO.all os)] := h1.call0 G1
      have H5 := St.pool_add H4 (ints_own (H4.row 0 rfl) htb)
      refine ⟨_, rfl, fun w' => St S w w' [Pool ((.slice am tm.length cm, tm) :: H), Blk t #[.int .i64 kd, .int .i64 sz, .int .i64 sl, .int .i64 lt, .int .i64 ag, .int .i64 kk, .int .i64 mk, .slice (some ⟨g, 0, none⟩) ms.length cap, ov] 137, Blk g (encP.all ms ++ R).toArray 68, Row 63 10 ov os.length (encO.all os)], hV _ _ _ (fun _ h => h) (Fam.st (fun _ h => h.pick [1, 2])) ?_, H5⟩
      intro K hK
      go_simp
      refine hK _ ?_
      clear hK K hV V
      clear H5 H4 h1 G1 w1 w2
      iterate 3 first
        | (apply plan_pass
           · rfl
           · rfl
           intro K hK
           go_simp
           refine hK _ ?_
           clear hK K)
        | (apply plan_step
           · rfl
           · rfl
           · intro I hI w1 h1'
             have h1 := hI.2 _ h1'
             first
               | (go_simp
                  first
                    | rfl
                    | exact ⟨rfl, h1'⟩
                 )
           intro K hK
           go_simp
           refine hK _ ?_
           clear hK K)
      refine plan_one rfl rfl ?_
      intro V hV w1 h1
      go_simp
      obtain ⟨ba, hba⟩ : ∃ g, w1.heap.size = g := ⟨_, rfl⟩
      have H4 : St S w _ [Blk ba #[.int .i64 0, .int .i64 0, .slice none 0 0, .complex .f64 0 0] 66, Pool ((.slice am tm.length cm, tm) :: H), Blk t #[.int .i64 kd, .int .i64 sz, .int .i64 sl, .int .i64 lt, .int .i64 ag, .int .i64 kk, .int .i64 mk, .slice (some ⟨g, 0, none⟩) ms.length cap, ov] 137, Blk g (encP.all ms ++ R).toArray 68, Row 63 10 ov os.length (encO.all os)] := h1.allocAt hba #[.int .i64 0, .int .i64 0, .slice none 0 0, .complex .f64 0 0] 66
      simp only [hba]
      refine ⟨fun w' => St S w w' [Blk ba #[.int .i64 0, .int .i64 0, .slice none 0 0, .complex .f64 0 0] 66, Pool ((.slice am tm.length cm, tm) :: H), Blk t #[.int .i64 kd, .int .i64 sz, .int .i64 sl, .int .i64 lt, .int .i64 ag, .int .i64 kk, .int .i64 mk, .slice (some ⟨g, 0, none⟩) ms.length cap, ov] 137, Blk g (encP.all ms ++ R).toArray 68, Row 63 10 ov os.length (encO.all os)], hV _ _ _ (fun _ h => h) (Fam.st (fun _ h => h.pick [2, 3])) ?_, H4⟩
      intro K hK
      go_simp
      refine hK _ ?_
      clear hK K hV V
      clear H4 h1 hba w1
      refine plan_one rfl rfl ?_
      intro V hV w1 h1
      have r0 := h1.free 0 0 rfl
      have r1 := h1.free 0 1 rfl
      have r2 := h1.free 0 2 rfl
      have r3 := h1.free 0 3 rfl
      have x0 := h1.cell 0 0 rfl rfl
      have x1 := h1.cell 0 1 rfl rfl
      have x2 := h1.cell 0 2 rfl rfl
      have x3 := h1.cell 0 3 rfl rfl
      have H5 := (((h1.set 0 rfl 0 (.int .i64 mn)).set 0 rfl 1 (.int .i64 ma)).set 0 rfl 2 (.slice am tm.length cm)).set 0 rfl 3 (.complex .f64 MX MY)
      go_simp
      refine ⟨fun w' => St S w w' [Blk ba #[.int .i64 mn, .int .i64 ma, .slice am tm.length cm, .complex .f64 MX MY] 66, Pool ((.slice am tm.length cm, tm) :: H), Blk t #[.int .i64 kd, .int .i64 sz, .int .i64 sl, .int .i64 lt, .int .i64 ag, .int .i64 kk, .int .i64 mk, .slice (some ⟨g, 0, none⟩) ms.length cap, ov] 137, Blk g (encP.all ms ++ R).toArray 68, Row 63 10 ov os.length (encO.all os)], hV _ _ _ (fun _ h => h) (Fam.st (fun _ h => h.pick [2, 3])) ?_, H5⟩
      intro K hK
      go_simp
      refine hK _ ?_
      clear hK K hV V
      clear H5 h1 w1 r0 r1 r2 r3 x0 x1 x2 x3
      iterate 1 first
        | (apply plan_pass
           · rfl
           · rfl
           intro K hK
           go_simp
           refine hK _ ?_
           clear hK K)
        | (apply plan_step
           · rfl
           · rfl
           · intro I hI w1 h1'
             have h1 := hI.2 _ h1'
             first
               | (go_simp
                  first
                    | rfl
                    | exact ⟨rfl, h1'⟩
                 )
           intro K hK
           go_simp
           refine hK _ ?_
           clear hK K)
      refine plan_nil ?_
      intro w9 H9
      go_wp2
      go_meet
      exact ⟨ba, am, cm, rfl, rfl, H9⟩
    · skip
      intro V hV w1 h1
      go_simp
      obtain ⟨ba, hba⟩ : ∃ g, w1.heap.size = g := ⟨_, rfl⟩
      have H4 : St S w _ [Blk ba #[.int .i64 0, .int .i64 0, .slice none 0 0, .complex .f64 0 0] 66, Pool H, Blk t #[.int .i64 kd, .int .i64 sz, .int .i64 sl, .int .i64 lt, .int .i64 ag, .int .i64 kk, .int .i64 mk, .slice (some ⟨g, 0, none⟩) ms.length cap, ov] 137, Blk g (encP.all ms ++ R).toArray 68, Row 63 10 ov os.length (encO.all os)] := h1.allocAt hba #[.int .i64 0, .int .i64 0, .slice none 0 0, .complex .f64 0 0] 66
      simp only [hba]
      refine ⟨fun w' => St S w w' [Blk ba #[.int .i64 0, .int .i64 0, .slice none 0 0, .complex .f64 0 0] 66, Pool H, Blk t #[.int .i64 kd, .int .i64 sz, .int .i64 sl, .int .i64 lt, .int .i64 ag, .int .i64 kk, .int .i64 mk, .slice (some ⟨g, 0, none⟩) ms.length cap, ov] 137, Blk g (encP.all ms ++ R).toArray 68, Row 63 10 ov os.length (encO.all os)], hV _ _ _ (fun _ h => h) (Fam.st (fun _ h => h.pick [2, 3])) ?_, H4⟩
      intro K hK
      go_simp
      refine hK _ ?_
      clear hK K hV V
      clear H4 h1 hba w1
      refine plan_one rfl rfl ?_
      intro V hV w1 h1
      go_simp
      refine (ka w1 (h1.pool_get 1 rfl hinh.out)).mono ?_
      rintro e w2 ⟨hs, rfl, G1⟩
      obtain ⟨am, cm, rfl, -, -⟩ := slice_form' (G1.row 0 rfl)
      have H4 : St S w w2 [Row 3 1 (.slice am tm.length cm) tm.length (intCells tm), Pool H, Blk ba #[.int .i64 0, .int .i64 0, .slice none 0 0, .complex .f64 0 0] 66, Blk t #[.int .i64 kd, .int .i64 sz, .int .i64 sl, .int .i64 lt, .int .i64 ag, .int .i64 kk, .int .i64 mk, .slice (some ⟨g, 0, none⟩) ms.length cap, ov] 137, Blk g (encP.all ms ++ R).toArray 68, Row 63 10 ov os.length (encO.all os)] := (h1.call0 G1).pick [0, 2, 1, 3, 4, 5]
      have H5 := St.pool_add H4 (ints_own (H4.row 0 rfl) htb)
      refine ⟨_, rfl, fun w' => St S w w' [Pool ((.slice am tm.length cm, tm) :: H), Blk ba #[.int .i64 0, .int .i64 0, .slice none 0 0, .complex .f64 0 0] 66, Blk t #[.int .i64 kd, .int .i64 sz, .int .i64 sl, .int .i64 lt, .int .i64 ag, .int .i64 kk, .int .i64 mk, .slice (some ⟨g, 0, none⟩) ms.length cap, ov] 137, Blk g (encP.all ms ++ R).toArray 68, Row 63 10 ov os.length (encO.all os)], hV _ _ _ (fun _ h => h) (Fam.st (fun _ h => h.pick [2, 3])) ?_, H5⟩
      intro K hK
      go_simp
      refine hK _ ?_
      clear hK K hV V
      clear H5 H4 h1 G1 w1 w2
      iterate 3 first
        | (apply plan_pass
           · rfl
           · rfl
           intro K hK
           go_simp
           refine hK _ ?_
           clear hK K)
        | (apply plan_step
           · rfl
           · rfl
           · intro I hI w1 h1'
             have h1 := hI.2 _ h1'
             first
               | (go_simp
                  first
                    | rfl
                    | exact ⟨rfl, h1'⟩
                 )
           intro K hK
           go_simp
           refine hK _ ?_
           clear hK K)
      refine plan_one rfl rfl ?_
      intro V hV w1 h1
      have r0 := h1.free 1 0 rfl
      have r1 := h1.free 1 1 rfl
      have r2 := h1.free 1 2 rfl
      have r3 := h1.free 1 3 rfl
      have x0 := h1.cell 1 0 rfl rfl
      have x1 := h1.cell 1 1 rfl rfl
      have x2 := h1.cell 1 2 rfl rfl
      have x3 := h1.cell 1 3 rfl rfl
      have H5 := (((h1.set 1 rfl 0 (.int .i64 mn)).set 1 rfl 1 (.int .i64 ma)).set 1 rfl 2 (.slice am tm.length cm)).set 1 rfl 3 (.complex .f64 MX MY)
      go_simp
      refine ⟨fun w' => St S w w' [Pool ((.slice am tm.length cm, tm) :: H), Blk ba #[.int .i64 mn, .int .i64 ma, .slice am tm.length cm, .complex .f64 MX MY] 66, Blk t #[.int .i64 kd, .int .i64 sz, .int .i64 sl, .int .i64 lt, .int .i64 ag, .int .i64 kk, .int .i64 mk, .slice (some ⟨g, 0, none⟩) ms.length cap, ov] 137, Blk g (encP.all ms ++ R).toArray 68, Row 63 10 ov os.length (encO.all os)], hV _ _ _ (fun _ h => h) (Fam.st (fun _ h => h.pick [2, 3])) ?_, H5⟩
      intro K hK
      go_simp
      refine hK _ ?_
      clear hK K hV V
      clear H5 h1 w1 r0 r1 r2 r3 x0 x1 x2 x3
      iterate 1 first
        | (apply plan_pass
           · rfl
           · rfl
           intro K hK
           go_simp
           refine hK _ ?_
           clear hK K)
        | (apply plan_step
           · rfl
           · rfl
           · intro I hI w1 h1'
             have h1 := hI.2 _ h1'
             first
               | (go_simp
                  first
                    | rfl
                    | exact ⟨rfl, h1'⟩
                 )
           intro K hK
           go_simp
           refine hK _ ?_
           clear hK K)
      refine plan_nil ?_
      intro w9 H9
      go_wp2
      go_meet
      exact ⟨ba, am, cm, rfl, rfl, H9.pick [1, 0, 2, 3, 4]⟩
  case rest =>
    obtain ⟨ba, am, cm, rfl, rfl, HC⟩ := hcut
    clear H3 ka
    rcases hcdh.out with ⟨rfl, hr0⟩ | ⟨rfl, hr0⟩
    · have hr0h := Lib.hid hr0
      clear hr0
      go_wp2
      go_ret
      rw [hr0h.out]
      exact ⟨rfl, HC.pick []⟩
    · have hr0h := Lib.hid hr0
      clear hr0
      have hset : splice (encP.all ms ++ R) (i * 8 + 3) #[.int .i64 mn, .int .i64 ma, .slice am tm.length cm, .complex .f64 MX MY].toList = encP.all (ms.set i ⟨⟨⟨xk, xf, xt⟩, ⟨mn, ma, tm, mx, my⟩, xr⟩, am, cm⟩) ++ R :=
        encP.setN (x' := ⟨⟨⟨xk, xf, xt⟩, ⟨mn, ma, tm, mx, my⟩, xr⟩, am, cm⟩) hmh.out (show 3 + 4 ≤ 8 by decide) (by rw [← hMXh.out, ← hMYh.out]; rfl)
      have hm1 : (ms.set i ⟨⟨⟨xk, xf, xt⟩, ⟨mn, ma, tm, mx, my⟩, xr⟩, am, cm⟩)[i]? = some ⟨⟨⟨xk, xf, xt⟩, ⟨mn, ma, tm, mx, my⟩, xr⟩, am, cm⟩ := by
        rw [List.getElem?_set_self hi]
      have hmo1 : ∀ y ∈ ms.set i ⟨⟨⟨xk, xf, xt⟩, ⟨mn, ma, tm, mx, my⟩, xr⟩, am, cm⟩, Pm.own y ∈ (Value.slice am tm.length cm, tm) :: H := mem_set_own hmoh.out i (List.mem_cons_self) (fun y hy => List.mem_cons_of_mem _ hy)
      have hml : (ms.set i ⟨⟨⟨xk, xf, xt⟩, ⟨mn, ma, tm, mx, my⟩, xr⟩, am, cm⟩).map (·.p) = (ms.map (·.p)).set i ⟨⟨xk, xf, xt⟩, ⟨mn, ma, tm, mx, my⟩, xr⟩ := map_set rfl i _
      have hss : ∀ z : Pm, (ms.set i ⟨⟨⟨xk, xf, xt⟩, ⟨mn, ma, tm, mx, my⟩, xr⟩, am, cm⟩).set i z = ms.set i z := fun z => List.set_set _
      have hm1l : (ms.set i ⟨⟨⟨xk, xf, xt⟩, ⟨mn, ma, tm, mx, my⟩, xr⟩, am, cm⟩).length = ms.length := List.length_set
      obtain ⟨ms1, hms1⟩ : ∃ x, ms.set i ⟨⟨⟨xk, xf, xt⟩, ⟨mn, ma, tm, mx, my⟩, xr⟩, am, cm⟩ = x := ⟨_, rfl⟩
      rw [hms1] at hset hm1 hmo1 hml hm1l
      simp only [hms1] at hss
      have hfitm : i * 8 + 3 + 4 ≤ (encP.all ms ++ R).length := by rw [List.length_append, hxl]; omega
      have hm1h := Lib.hid hm1
      have hmo1h := Lib.hid hmo1
      have hmlh := Lib.hid hml
      have hssh := Lib.hid hss
      have hseth := Lib.hid hset
      clear hset hm1 hmo1 hml hss hms1
      have x0 := HC.cell 0 0 rfl rfl
      have x1 := HC.cell 0 1 rfl rfl
      have x2 := HC.cell 0 2 rfl rfl
      have x3 := HC.cell 0 3 rfl rfl
      go_upto_region 6 with ((with_reducible show Go.wpList _ _ _ (Oper.mk none (Op.store 66 _ _) _ _ _ _ :: _) _ _); go_must (refine St.list_storeMid HC 3 rfl (ty := 66) (n := 4) (off := i * 8 + 3) (vs := #[.int .i64 mn, .int .i64 ma, .slice am tm.length cm, .complex .f64 MX MY]) (by kernel_rfl) rfl (by simp [allOne, Value.oneCell']) hfitm rfl (.tmp 36) (.tmp 34) rfl rfl rfl ?_; intro w5 H5 hz5))
      rw [hseth.out] at H5
      have H6 : St S w w5 [Blk g (encP.all ms1 ++ R).toArray 68, Blk t #[.int .i64 kd, .int .i64 sz, .int .i64 sl, .int .i64 lt, .int .i64 ag, .int .i64 kk, .int .i64 mk, .slice (some ⟨g, 0, none⟩) ms.length cap, ov] 137, Row 63 10 ov os.length (encO.all os), Pool ((.slice am tm.length cm, tm) :: H)] := H5.pick [3, 2, 4, 1]
      clear x0 x1 x2 x3 HC H5 hseth
      refine wp_calm (fun w' => St S w w' [Blk g (encP.all ms1 ++ R).toArray 68, Blk t #[.int .i64 kd, .int .i64 sz, .int .i64 sl, .int .i64 lt, .int .i64 ag, .int .i64 kk, .int .i64 mk, .slice (some ⟨g, 0, none⟩) ms.length cap, ov] 137, Row 63 10 ov os.length (encO.all os), Pool ((.slice am tm.length cm, tm) :: H)]) (by kernel_rfl) (by kernel_rfl) (H6.drew) ?_
      iterate 10 first
        | (apply calm_pass
           · rfl
           intro K hK
           go_simp
           refine hK _ ?_
           clear hK K)
        | (apply calm_step
           · rfl
           · intro w1 h1
             obtain ⟨q0, q1, q2, q3, q4, q5, q6, q7⟩ := pn_blk (h1.blk 0 rfl) hm1h.out
             unfold textV at q0
             simp only at q0 q1 q2 q7
             have c6 := h1.cell 1 6 rfl rfl
             first
               | (go_simp
                  first
                    | rfl
                    | exact ⟨rfl, h1⟩
                    | (go_at_call 129; with_reducible exact St.callPast (kr w1) h1)
                 )
           intro K hK
           go_simp
           refine hK _ ?_
           clear hK K)
      refine calm_nil ?_
      intro w6 H7
      clear H6 kr
      cases rp with
      | false =>
        rw [if_neg (by simp)] at hr0h
        go_wp2
        go_ret
        rw [hr0h.out]
        refine ⟨rfl, ?_⟩
        have H8 := (H7.pick [1, 0, 2, 3]).blk_row 1 (e := 68) (size := 8) (cap := cap) (n := ms1.length) (xs := encP.all ms1) rfl (by omega) hcm (by
          rw [List.length_append, encP.all_len, hm1l]
          rw [List.length_append, encP.all_len] at hcs
          exact hcs) (by rw [List.take_append_of_le_length (by rw [encP.all_len]; exact Nat.le_refl _), List.take_of_length_le (by rw [encP.all_len]; exact Nat.le_refl _)])
        refine Stp.mk' (pv := .slice (some ⟨g, 0, none⟩) ms.length cap) (ov := ov) (ms := ms1) (os := os) (H := (Value.slice am tm.length cm, tm) :: H) (by rw [hmlh.out]) (by simp) hmo1h.out (fun y hy => List.mem_cons_of_mem _ (hooh.out y hy)) ?_
        rw [hqqh.out]
        rw [hm1l] at H8 ⊢
        exact H8
      | true =>
        rw [if_pos rfl] at hr0h
        have c7 := (pn_blk (H7.blk 0 rfl) hm1h.out).2.2.2.2.2.2.2
        simp only at c7
        by_cases hmx : xr = 1073741824
        · subst hmx
          rw [if_pos rfl] at hr0h
          go_wp2
          go_ret
          rw [hr0h.out]
          exact ⟨rfl, H7.pick []⟩
        · have hmx' : (xr == 1073741824) = false := by simpa using hmx
          rw [if_neg hmx] at hr0h
          have HF : St S w w6 [Blk t (stC ⟨kd, sz, sl, lt, ag, kk⟩ mk (.slice (some ⟨g, 0, none⟩) ms.length cap) ov) 137, Blk g (encP.all ms1 ++ R).toArray 68, Row 63 10 ov os.length (encO.all os), Pool ((.slice am tm.length cm, tm) :: H)] := H7.pick [1, 0, 2, 3]
          obtain ⟨S1, K1, G1⟩ := St.call (l1 := [_, _, _, _]) (l2 := []) HF
          have kc := kf.out w6 ov S1 ms1 _ ((Value.slice am tm.length cm, tm) :: H) hm1h.out hmRh.out hr (List.mem_cons_self) K1
          simp only at kc
          clear kf
          go_wp2_with (go_at_call 133; go_must (refine kc.mono ?_; rintro e w7 ⟨ov', av, cv, rfl, H9⟩))
          go_ret
          rw [hr0h.out]
          refine ⟨rfl, ?_⟩
          have H10 := G1 _ _ H9
          rw [hssh.out] at H10
          have hl2 : ∀ z : Pm, (ms.set i z).length = ms.length := fun z => List.length_set
          have H11 := H10.blk_row 1 (e := 68) (size := 8) (cap := cap) (n := ms.length) (xs := _) rfl (by omega) hcm (by
            rw [List.length_append, encP.all_len, hl2]
            rw [List.length_append, encP.all_len] at hcs
            exact hcs) (by rw [List.take_append_of_le_length (by rw [encP.all_len, hl2]; exact Nat.le_refl _), List.take_of_length_le (by rw [encP.all_len, hl2]; exact Nat.le_refl _)])
          refine Stp.mk' (pv := .slice (some ⟨g, 0, none⟩) ms.length cap) (ov := ov') (ms := ms.set i ⟨⟨⟨xk, xf, xt⟩, ⟨mn, ma, tm, mx, my⟩, xr + 1⟩, am, cm⟩) (os := os ++ [⟨⟨false, itm00, ⟨xk, xf, xt⟩, xr + 1, valueM ⟨kd, sz, sl, lt, ag, kk⟩ ⟨mn, ma, tm, mx, my⟩⟩, av, cv⟩]) (H := (Value.slice av (valueM ⟨kd, sz, sl, lt, ag, kk⟩ ⟨mn, ma, tm, mx, my⟩).length cv, valueM ⟨kd, sz, sl, lt, ag, kk⟩ ⟨mn, ma, tm, mx, my⟩) :: (Value.slice am tm.length cm, tm) :: H) (by rw [map_set rfl]) (by simp) (mem_set_own hmoh.out i (List.mem_cons_of_mem _ (List.mem_cons_self)) (fun y hy => List.mem_cons_of_mem _ (List.mem_cons_of_mem _ hy))) (fun y hy => by
              rcases List.mem_append.1 hy with hy | hy
              · exact List.mem_cons_of_mem _ (List.mem_cons_of_mem _ (hooh.out y hy))
              · rw [List.mem_singleton.1 hy]; exact List.mem_cons_self) ?_
          rw [hqqh.out, hl2, List.length_append, List.length_singleton]
          exact H11

end Go.Proofs.YtiglgfonhdfpmaaGreat
