/- SessTwice: the walk. Condition: so many windows. -/
import Derived.Test.YtoffcoegghigoaaWdX
import Derived.Test.YtoffcoegghigoaaWdF
import Derived.Test.YtoffcoegghigoaaPlan
import Derived.Test.YtoffcoegghigoaaTwoAt
namespace Go.Proofs.Ytoffcoegghigoaa
open Go.RowKit

theorem bld0_row {S : Nat → Prop} {w0 w : World} {L : List SP} (H : St S w0 w L) : St S w0 (w.alloc (.cells #[] 41)) (Row 41 3 (.slice (some ⟨w.heap.size, 0, none⟩) 0 0) 0 (wds []) :: L) :=
  (H.alloc #[] 41).blk_row 0 (e := 41) (size := 3) (cap := 0) (n := 0) (cs := []) (xs := wds []) rfl (Nat.le_refl _) (Nat.zero_le _) rfl rfl
theorem within_right {xk : List UInt8} {xf xt wf wt : Int} (hx : Wd.right ⟨xk, xf, xt⟩ = true) (h1 : xf ≤ wf) (h2 : wf < wt) (h3 : wt ≤ xt) (h4 : wf ≤ 1099511627776) : Wd.right ⟨xk, wf, wt⟩ = true := by
  have h := right_iff.1 hx
  simp only at h
  exact right_iff.2 ⟨h.1, by simp only; omega⟩
theorem took_within {l : List Wd} {xk : List UInt8} {xf xt wf wt : Int} (hl : Stl l) (hx : Wd.right ⟨xk, xf, xt⟩ = true) (hy : Wd.right ⟨xk, wf, wt⟩ = true) (h1 : xf ≤ wf) (h3 : wt ≤ xt) : tookW (tookW l ⟨xk, xf, xt⟩) ⟨xk, wf, wt⟩ = tookW l ⟨xk, xf, xt⟩ :=
  took_again (took_stl hl hx) hy (fun k p hp => (took_cov hx k p).2 (.inr (by
    obtain ⟨e, a, b⟩ := hp
    simp only at e a b
    exact ⟨e, by simp only; omega, by simp only; omega⟩)))
theorem wd_fits_in {xk : List UInt8} {xf xt wf wt : Int} (hx : Wd.fits ⟨xk, xf, xt⟩) (h1 : xf ≤ wf) (h2 : wf ≤ wt) (h3 : wt ≤ xt) : Wd.fits ⟨xk, wf, wt⟩ := by
  unfold Wd.fits at *
  exact ⟨hx.1, by simp only at *; omega, by simp only at *; omega⟩

set_option maxHeartbeats 16000000 in
set_option maxRecDepth 100000 in
theorem sess_twice {v : Value} {l : List Wd} {x : Wd} {c0 c1 : Int} (w : World) (hv : WdsRO w v l) (hl : l.length + 3 ≤ 4398046511104) (hx : x.fits) (hc0 : 0 ≤ c0 ∧ c0 ≤ 255) (hc1 : 0 ≤ c1 ∧ c1 ≤ 255) :
    Calls Try.prog 7 #[v, wdV x, .agg #[.int .u8 c0, .int .u8 c1]] w fun e w' => e = .returned (.bool true) ∧ Below w.heap.size w w' := by
  have kf := fun w' => first09 w'
  have kg := fun w' (hk : Kept (fun _ => False) w w') => wds_great w' (hv.later hk) (by omega)
  have ka := fun w' (hk : Kept (fun _ => False) w w') => sess_all w' (hv.later hk) (by omega)
  have krr := fun w' => ref_wright x hx w'
  have hlat := Lib.hid (fun w' (hk : Kept (fun _ => False) w w') => hv.later hk)
  obtain ⟨ao, cap, rfl, hcap, hfit, hic⟩ := hv
  clear hic
  have hfith := Lib.hid hfit
  have hxfh := Lib.hid hx
  obtain ⟨m1, m2, m3⟩ := allM_law l hfit
  have hgo := Lib.hid (show allM (l ++ [x]) = takeM (allM l) x from allM_snoc l x)
  obtain ⟨M, hM⟩ : ∃ M, allM l = M := ⟨_, rfl⟩
  simp only [hM] at ka m1 m2 m3
  have hMh := Lib.hid hM
  have hm1 := Lib.hid m1
  have hm2 := Lib.hid m2
  obtain ⟨r, hr⟩ : ∃ r, x.right = r := ⟨_, rfl⟩
  rw [hr] at krr
  have hrh := Lib.hid hr
  clear hM hr hfit hx m1 m2
  obtain ⟨xk, xf, xt⟩ := x
  have H1 : St (fun _ => False) w _ [_] := (St.nil (fun _ => False) w).allocAt rfl #[.string ⟨xk.toArray⟩, .int .i64 xf, .int .i64 xt] 41
  have H1b : St (fun _ => False) w _ [_, _] := H1.allocAt (B := w.heap.size + 1) (Array.size_push _) #[.int .u8 c0, .int .u8 c1] 50
  unfold wdV wdC textV at krr
  simp only at krr
  unfold wdV wdC textV
  simp only
  go_enter Try.func7, Try.ntmps7
  go_upto_region 1 with (fail)
  obtain ⟨bx, hbx⟩ : ∃ b, w.heap.size = b := ⟨_, rfl⟩
  obtain ⟨bc, hbc⟩ : ∃ b, bx + 1 = b := ⟨_, rfl⟩
  obtain ⟨w2, hw2⟩ : ∃ w2, (w.alloc (.cells #[.string ⟨xk.toArray⟩, .int .i64 xf, .int .i64 xt] 41)).alloc (.cells #[.int .u8 c0, .int .u8 c1] 50) = w2 := ⟨_, rfl⟩
  rw [hw2, hbx, hbc] at H1b
  rw [hw2]
  try simp only [hbx, hbc]
  have H2 : St (fun _ => False) w w2 [Blk bc #[.int .u8 c0, .int .u8 c1] 50, Blk bx #[.string ⟨xk.toArray⟩, .int .i64 xf, .int .i64 xt] 41] := H1b
  clear hbx hbc hw2 H1 H1b
  go_upto_region 3 with (go_at_call 21; go_must (refine (St.callPast (kf _) H2).mono ?_; rintro e w3 ⟨rfl, H3⟩))
  clear H2 kf
  have d0 := H3.cell 1 0 rfl rfl
  have hsz : ((xk.toArray).size : Int) = xk.length := by simp
  obtain ⟨G, hG⟩ : ∃ G, decide (1200 < greatN l) = G := ⟨_, rfl⟩
  simp only [hG] at kg
  clear hG
  have hcs : G = true ∨ (G = false ∧ decide (60 < (xk.length : Int)) = true ∧ decide (60 < xk.length) = true) ∨ (G = false ∧ decide (60 < (xk.length : Int)) = false ∧ decide (60 < xk.length) = false) := by
    cases G
    · by_cases h : 60 < xk.length
      · exact .inr (.inl ⟨rfl, by simp; omega, by simp; omega⟩)
      · exact .inr (.inr ⟨rfl, by simp; omega, by simp; omega⟩)
    · exact .inl rfl
  rcases hcs with rfl | ⟨rfl, z1, z2⟩ | ⟨rfl, z1, z2⟩
  · go_wp2_with (go_at_call 22; go_must (refine (St.callPast (kg _ H3.kept) H3).mono ?_; rintro e w4 ⟨rfl, H4⟩))
    go_ret
    exact ⟨rfl, H4.below (Nat.le_refl _) (fun _ h => h.elim)⟩
  · go_wp2_with (go_at_call 22; go_must (refine (St.callPast (kg _ H3.kept) H3).mono ?_; rintro e w4 ⟨rfl, H4⟩; have d0 := H4.cell 1 0 rfl rfl))
    go_ret
    exact ⟨rfl, H4.below (Nat.le_refl _) (fun _ h => h.elim)⟩
  go_upto_region 6 with (first
    | (go_at_call 22; go_must (refine (St.callPast (kg _ H3.kept) H3).mono ?_; rintro e w4 ⟨rfl, H4⟩; have d0 := H4.cell 1 0 rfl rfl))
    | (go_at_call 31; go_must (refine (ka _ H4.kept).mono ?_; rintro e w5 ⟨v5, rfl, H5⟩; have H6 : St (fun _ => False) w w5 [_, _, _] := H4.call0 H5)))
  obtain ⟨va, vc, rfl, hvc, _⟩ := slice_form' (H6.row 0 rfl)
  have H6 : St (fun _ => False) w w5 [Row 41 3 (.slice va M.length vc) M.length (wds M), Blk bc #[.int .u8 c0, .int .u8 c1] 50, Blk bx #[.string ⟨xk.toArray⟩, .int .i64 xf, .int .i64 xt] 41] := H6
  clear d0 H3 H4 H5 kg ka hsz z1 z2
  have d0 := H6.cell 2 0 rfl rfl
  have d1 := H6.cell 2 1 rfl rfl
  have d2 := H6.cell 2 2 rfl rfl
  have hro := wds_own (H6.row 0 rfl) hm2.out
  cases r with
  | false =>
    have kt := sess_take_no (x := ⟨xk, xf, xt⟩) w5 hro (by omega) hxfh.out (by rw [hrh.out, Bool.and_false])
    have ksame := fun w' v1 v2 hv1 hv2 => wds_same (v1 := v1) (v2 := v2) (l := M) w' hv1 hv2 (by omega)
    unfold wdV wdC textV at kt
    simp only at kt
    go_upto_region 7 with (go_at_call 26; go_must (refine kt.mono ?_; rintro e w6 ⟨v6, rfl, H7⟩; have H8 : St (fun _ => False) w w6 [_, _, _, _] := H6.call0 H7))
    clear d0 d1 d2 H6 kt
    have H9 : St (fun _ => False) w _ [_, _, _, _, _] := H8.allocAt rfl #[.string ⟨#[]⟩, .int .i64 0, .int .i64 0] 41
    obtain ⟨wa, hwa⟩ : ∃ wa, w6.alloc (.cells #[.string ⟨#[]⟩, .int .i64 0, .int .i64 0] 41) = wa := ⟨_, rfl⟩
    obtain ⟨ba, hba⟩ : ∃ b, w6.heap.size = b := ⟨_, rfl⟩
    rw [hwa, hba] at H9
    try rw [hwa]
    try simp only [hba]
    have H10 : St (fun _ => False) w wa [Blk ba #[.string ⟨#[]⟩, .int .i64 0, .int .i64 0] 41, Row 41 3 v6 M.length (wds M), Row 41 3 (.slice va M.length vc) M.length (wds M), Blk bc #[.int .u8 c0, .int .u8 c1] 50, Blk bx #[.string ⟨xk.toArray⟩, .int .i64 xf, .int .i64 xt] 41] := H9
    clear hwa hba H9 H8 H7
    obtain ⟨va2, vc2, rfl, hvc2, _⟩ := slice_form' (H10.row 1 rfl)
    have d0 := H10.cell 4 0 rfl rfl
    have d1 := H10.cell 4 1 rfl rfl
    have d2 := H10.cell 4 2 rfl rfl
    go_wp2_with (first
      | (go_at_call 28; go_must (refine (St.callPast (krr _) H10).mono ?_; rintro e w11 ⟨rfl, H11⟩))
      | (go_at_call 29; go_must (refine (St.callPast (ksame _ _ _ (wds_own (H11.row 1 rfl) hm2.out) (wds_own (H11.row 2 rfl) hm2.out)) H11).mono ?_; rintro e w12 ⟨rfl, H12⟩; have c0 := H12.cell 0 0 rfl rfl; have c1 := H12.cell 0 1 rfl rfl; have c2 := H12.cell 0 2 rfl rfl)))
    go_ret
    exact ⟨rfl, H12.below (Nat.le_refl _) (fun _ h => h.elim)⟩
  | true =>
    have kt := sess_take (x := ⟨xk, xf, xt⟩) w5 hro (by omega) hxfh.out (stl_true.2 hm1.out) hrh.out
    have hN1 := took_stl hm1.out hrh.out
    have hN2 := (took_fits hm2.out hxfh.out).2
    have hNl : (tookW M ⟨xk, xf, xt⟩).length ≤ M.length + 1 := by
      unfold tookW
      rw [insW_len]
      have : (outOf M ⟨xk, xf, xt⟩).length ≤ M.length := List.length_filter_le _ _
      omega
    have hbt := bec_twice hm1.out hrh.out
    have hgt := gave_one hm1.out hrh.out
    have htt := took_twice hm1.out hrh.out
    have hwi := Lib.hid (fun (wf wt : Int) (hy : Wd.right ⟨xk, wf, wt⟩ = true) (h1 : xf ≤ wf) (h3 : wt ≤ xt) => took_within (wt := wt) hm1.out hrh.out hy h1 h3)
    have hgo2 := Lib.hid (show allM (l ++ [⟨xk, xf, xt⟩]) = tookW M ⟨xk, xf, xt⟩ by rw [hgo.out, hMh.out]; unfold takeM; rw [if_pos hrh.out])
    obtain ⟨N, hN⟩ : ∃ N, tookW M ⟨xk, xf, xt⟩ = N := ⟨_, rfl⟩
    obtain ⟨B0, hB⟩ : ∃ b, becOf M ⟨xk, xf, xt⟩ = b := ⟨_, rfl⟩
    have kt2 := fun w' v' hv' => sess_take (x := ⟨xk, xf, xt⟩) (l := N) (v := v') w' hv' (by rw [← hN]; omega) hxfh.out (stl_true.2 (by rw [← hN]; exact hN1)) hrh.out
    have kt3 := fun (y : Wd) hy hyr w' v' hv' => sess_take (x := y) (l := N) (v := v') w' hv' (by rw [← hN]; omega) hy (stl_true.2 (by rw [← hN]; exact hN1)) hyr
    rw [hN] at hN1 hN2 hNl htt hgt hbt hwi hgo2
    rw [hB] at hbt
    simp only [hN, hB] at kt
    simp only [htt, hbt] at kt2
    have ksame := fun w' v1 v2 hv1 hv2 => wds_same (v1 := v1) (v2 := v2) (l := N) w' hv1 hv2 (by omega)
    have hr4 := right_iff.1 hrh.out
    simp only at hr4
    obtain ⟨_, hr5, hr6, hr7, hr8⟩ := hr4
    have hN2h := Lib.hid hN2
    obtain ⟨bk, bf, bt⟩ := B0
    unfold wdV wdC textV at kt kt2
    simp only at kt kt2
    have hgth := Lib.hid hgt
    clear hN hB hro hgo hMh hm1 hN1 hN2 hbt hgt htt
    go_upto_region 7 with (go_at_call 26; go_must (refine kt.mono ?_; rintro e w6 ⟨v6, g6, rfl, H7⟩; have H8 : St (fun _ => False) w w6 [_, _, _, _, _] := H6.call0 H7))
    clear d0 d1 d2 H6 kt
    have H9 : St (fun _ => False) w _ [_, _, _, _, _, _] := H8.allocAt rfl #[.string ⟨bk.toArray⟩, .int .i64 bf, .int .i64 bt] 41
    obtain ⟨wa, hwa⟩ : ∃ wa, w6.alloc (.cells #[.string ⟨bk.toArray⟩, .int .i64 bf, .int .i64 bt] 41) = wa := ⟨_, rfl⟩
    obtain ⟨b9, hb9⟩ : ∃ b, w6.heap.size = b := ⟨_, rfl⟩
    rw [hwa, hb9] at H9
    try rw [hwa]
    try simp only [hb9]
    have H10 : St (fun _ => False) w wa [Blk b9 #[.string ⟨bk.toArray⟩, .int .i64 bf, .int .i64 bt] 41, Row 41 3 v6 N.length (wds N), Blk bc #[.int .u8 c0, .int .u8 c1] 50, Blk bx #[.string ⟨xk.toArray⟩, .int .i64 xf, .int .i64 xt] 41] := H9.pick [0, 1, 4, 5]
    clear hwa hb9 H9 H8 H7
    obtain ⟨na, nc, rfl, hnc, _⟩ := slice_form' (H10.row 1 rfl)
    have d0 := H10.cell 3 0 rfl rfl
    have d1 := H10.cell 3 1 rfl rfl
    have d2 := H10.cell 3 2 rfl rfl
    go_upto_region 9 with (go_at_call 28; go_must (refine (St.callPast (krr _) H10).mono ?_; rintro e w11 ⟨rfl, H11⟩; have d0 := H11.cell 3 0 rfl rfl; have d1 := H11.cell 3 1 rfl rfl; have d2 := H11.cell 3 2 rfl rfl))
    clear krr H10
    have H12 : St (fun _ => False) w _ [_, _, _, _, _] := H11.allocAt rfl #[.string ⟨xk.toArray⟩, .int .i64 xf, .int .i64 xt] 41
    go_upto_region 10 with (fail)
    obtain ⟨wb, hwb⟩ : ∃ wa, w11.alloc (.cells #[.string ⟨xk.toArray⟩, .int .i64 xf, .int .i64 xt] 41) = wa := ⟨_, rfl⟩
    obtain ⟨b11, hb11⟩ : ∃ b, w11.heap.size = b := ⟨_, rfl⟩
    rw [hwb, hb11] at H12
    try rw [hwb]
    try simp only [hb11]
    have H13 : St (fun _ => False) w wb [Blk b11 #[.string ⟨xk.toArray⟩, .int .i64 xf, .int .i64 xt] 41, Blk b9 #[.string ⟨bk.toArray⟩, .int .i64 bf, .int .i64 bt] 41, Row 41 3 (.slice na N.length nc) N.length (wds N), Blk bc #[.int .u8 c0, .int .u8 c1] 50, Blk bx #[.string ⟨xk.toArray⟩, .int .i64 xf, .int .i64 xt] 41] := H12
    clear hwb hb11 H12 H11 d0 d1 d2
    have q1 := H13.cell 0 1 rfl rfl
    have q2 := H13.cell 0 2 rfl rfl
    have d1 := H13.cell 4 1 rfl rfl
    have d2 := H13.cell 4 2 rfl rfl
    have e0 := H13.cell 3 0 rfl rfl
    have e1 := H13.cell 3 1 rfl rfl
    have f1 := H13.free 0 1 rfl
    have f2 := H13.free 0 2 rfl
    have hne : ¬ b11 = bx := blk_apart' (H13.pick [0, 4])
    have hne' : ¬ bx = b11 := fun e => hne e.symm
    have hne2 : ¬ b11 = bc := blk_apart' (H13.pick [0, 3])
    have hne2' : ¬ bc = b11 := fun e => hne2 e.symm
    obtain ⟨d, hd⟩ : ∃ d, xt - xf = d := ⟨_, rfl⟩
    have hdp : 0 < d := by omega
    have wd1 : IntKind.i64.wrap (xt - xf) = d := by rw [IntKind.wrap_i64]; omega
    have wc0 : IntKind.i64.wrap c0 = c0 := by rw [IntKind.wrap_i64]; omega
    have wc1 : IntKind.i64.wrap c1 = c1 := by rw [IntKind.wrap_i64]; omega
    obtain ⟨r0, hr0⟩ : ∃ r0, c0.tmod d = r0 := ⟨_, rfl⟩
    have hr0b : 0 ≤ r0 ∧ r0 < d := by
      rw [← hr0, Int.tmod_eq_emod_of_nonneg hc0.1]
      exact ⟨Int.emod_nonneg _ (by omega), Int.emod_lt_of_pos _ hdp⟩
    obtain ⟨wf, hwf⟩ : ∃ wf, xf + r0 = wf := ⟨_, rfl⟩
    have wwf : IntKind.i64.wrap (xf + r0) = wf := by rw [IntKind.wrap_i64]; omega
    have nd0 : ¬ d = 0 := by omega
    have nd0' : (d == 0) = false := by simpa using nd0
    have ww0 : IntKind.i64.wrap r0 = r0 := by rw [IntKind.wrap_i64]; omega
    have H14 := (H13.set 0 rfl 1 (.int .i64 wf)).drew
    go_region
    obtain ⟨wc, hwc⟩ : ∃ wc, (wb.setCell ⟨b11, 1, none⟩ (.int .i64 wf)).drew = wc := ⟨_, rfl⟩
    rw [hwc] at H14
    try rw [hwc]
    as_aux_lemma =>
      have H14 : St (fun _ => False) w wc [Blk b11 #[.string ⟨xk.toArray⟩, .int .i64 wf, .int .i64 xt] 41, Blk b9 #[.string ⟨bk.toArray⟩, .int .i64 bf, .int .i64 bt] 41, Row 41 3 (.slice na N.length nc) N.length (wds N), Blk bc #[.int .u8 c0, .int .u8 c1] 50, Blk bx #[.string ⟨xk.toArray⟩, .int .i64 xf, .int .i64 xt] 41] := H14
      clear hwc H13 q1 q2 d1 d2 e0 e1 f1 f2 wd1 wc0 wwf ww0
      go_upto_region 11 with (fail)
      have q1 := H14.cell 0 1 rfl rfl
      have q2 := H14.cell 0 2 rfl rfl
      have e0 := H14.cell 3 0 rfl rfl
      have e1 := H14.cell 3 1 rfl rfl
      have f1 := H14.free 0 1 rfl
      have f2 := H14.free 0 2 rfl
      obtain ⟨dd, hdd⟩ : ∃ d, xt - wf = d := ⟨_, rfl⟩
      have hddp : 0 < dd := by omega
      have wd2 : IntKind.i64.wrap (xt - wf) = dd := by rw [IntKind.wrap_i64]; omega
      obtain ⟨r1, hr1⟩ : ∃ r1, c1.tmod dd = r1 := ⟨_, rfl⟩
      have hr1b : 0 ≤ r1 ∧ r1 < dd := by
        rw [← hr1, Int.tmod_eq_emod_of_nonneg hc1.1]
        exact ⟨Int.emod_nonneg _ (by omega), Int.emod_lt_of_pos _ hddp⟩
      obtain ⟨wt, hwt⟩ : ∃ wt, xt - r1 = wt := ⟨_, rfl⟩
      have wwt : IntKind.i64.wrap (xt - r1) = wt := by rw [IntKind.wrap_i64]; omega
      have ndd0 : ¬ dd = 0 := by omega
      have ndd0' : (dd == 0) = false := by simpa using ndd0
      have ww1 : IntKind.i64.wrap r1 = r1 := by rw [IntKind.wrap_i64]; omega
      have H15 := (H14.set 0 rfl 2 (.int .i64 wt)).drew
      go_region
      obtain ⟨wd, hwd⟩ : ∃ wz, (wc.setCell ⟨b11, 2, none⟩ (.int .i64 wt)).drew = wz := ⟨_, rfl⟩
      rw [hwd] at H15
      try rw [hwd]
      as_aux_lemma =>
        have H15 : St (fun _ => False) w wd [Blk b11 #[.string ⟨xk.toArray⟩, .int .i64 wf, .int .i64 wt] 41, Blk b9 #[.string ⟨bk.toArray⟩, .int .i64 bf, .int .i64 bt] 41, Row 41 3 (.slice na N.length nc) N.length (wds N), Blk bc #[.int .u8 c0, .int .u8 c1] 50, Blk bx #[.string ⟨xk.toArray⟩, .int .i64 xf, .int .i64 xt] 41] := H15
        have hb1 : xf ≤ wf := by omega
        have hb2 : wf < wt := by omega
        have hb3 : wt ≤ xt := by omega
        clear hwd H14 q1 q2 e0 e1 f1 f2 wd2 wc1 wwt ww1 ndd0 ndd0' nd0 nd0' hne hne' hne2 hne2' hr0b hr1b hddp hdp hr0 hr1 hd hdd hwf hwt
        have q1 := H15.cell 0 1 rfl rfl
        by_cases hbig : 1099511627776 < wf
        · have z1 : decide (1099511627776 < wf) = true := by simpa using hbig
          go_wp2
          go_ret
          exact ⟨rfl, H15.below (Nat.le_refl _) (fun _ h => h.elim)⟩
        have z1 : decide (1099511627776 < wf) = false := by simpa using hbig
        have hyr := within_right hrh.out hb1 hb2 hb3 (by omega)
        have hyf := wd_fits_in hxfh.out hb1 (by omega) hb3
        have hty := hwi.out wf wt hyr hb1 hb3
        have kt4 := kt3 ⟨xk, wf, wt⟩ hyf hyr
        have hall := Lib.hid (show allM (l ++ [⟨xk, xf, xt⟩, ⟨xk, wf, wt⟩]) = N by
          rw [show l ++ [⟨xk, xf, xt⟩, ⟨xk, wf, wt⟩] = (l ++ [⟨xk, xf, xt⟩]) ++ [(⟨xk, wf, wt⟩ : Wd)] by simp, allM_snoc, hgo2.out]
          unfold takeM
          rw [if_pos hyr, hty])
        simp only [hty] at kt4
        have hfin : Hid (∀ y ∈ l ++ [⟨xk, xf, xt⟩, ⟨xk, wf, wt⟩], y.fits) := Lib.hid (fun y hy => by
          rcases List.mem_append.1 hy with hy | hy
          · exact hfith.out y hy
          · simp only [List.mem_cons, List.not_mem_nil, or_false] at hy
            rcases hy with rfl | rfl
            · exact hxfh.out
            · exact hyf)
        unfold wdV at kt4
        obtain ⟨⟨ck, cf, ct⟩, hB4⟩ : ∃ b, becOf N ⟨xk, wf, wt⟩ = b := ⟨_, rfl⟩
        simp only [hB4] at kt4
        unfold wdC textV at kt4
        simp only at kt4
        obtain ⟨G4, hG4⟩ : ∃ b, (takeF N ⟨xk, wf, wt⟩).gave = b := ⟨_, rfl⟩
        obtain ⟨G2, hG2⟩ : ∃ b, (takeF N ⟨xk, xf, xt⟩).gave = b := ⟨_, rfl⟩
        simp only [hG4] at kt4
        simp only [hG2] at kt2
        rw [hG2] at hgth
        clear hB4 hG4 hG2 kt3 hyr hyf hty hwi hgo2 hrh hxfh hfith hb1 hb2 hb3 hbig hr5 hr6 hr7 hr8
        have d0 := H15.cell 4 0 rfl rfl
        have d1 := H15.cell 4 1 rfl rfl
        have d2 := H15.cell 4 2 rfl rfl
        go_upto_region 15 with (go_at_call 26; go_must (refine (kt2 _ _ (wds_own (H15.row 2 rfl) hN2h.out)).mono ?_; rintro e w16 ⟨v16, g16, rfl, H16⟩; have H17 : St (fun _ => False) w w16 [_, _, _, _, _, _, _] := H15.call0 H16))
        clear d0 d1 d2 q1 H15 H16 kt2
        have H18 : St (fun _ => False) w _ [_, _, _, _, _, _, _, _] := H17.allocAt rfl #[.string ⟨bk.toArray⟩, .int .i64 bf, .int .i64 bt] 41
        obtain ⟨we, hwe⟩ : ∃ wa, w16.alloc (.cells #[.string ⟨bk.toArray⟩, .int .i64 bf, .int .i64 bt] 41) = wa := ⟨_, rfl⟩
        obtain ⟨b13, hb13⟩ : ∃ b, w16.heap.size = b := ⟨_, rfl⟩
        rw [hwe, hb13] at H18
        try rw [hwe]
        try simp only [hb13]
        as_aux_lemma =>
          have H19 : St (fun _ => False) w we [Blk b13 #[.string ⟨bk.toArray⟩, .int .i64 bf, .int .i64 bt] 41, Row 41 3 v16 N.length (wds N), Row 3 1 g16 G2.length (intCells G2), Blk b11 #[.string ⟨xk.toArray⟩, .int .i64 wf, .int .i64 wt] 41, Blk b9 #[.string ⟨bk.toArray⟩, .int .i64 bf, .int .i64 bt] 41, Row 41 3 (.slice na N.length nc) N.length (wds N), Blk bx #[.string ⟨xk.toArray⟩, .int .i64 xf, .int .i64 xt] 41] := H18.pick [0, 1, 2, 3, 4, 5, 7]
          clear hwe hb13 H18 H17
          have d0 := H19.cell 3 0 rfl rfl
          have d1 := H19.cell 3 1 rfl rfl
          have d2 := H19.cell 3 2 rfl rfl
          go_upto_region 16 with (go_at_call 26; go_must (refine (kt4 _ _ (wds_own (H19.row 5 rfl) hN2h.out)).mono ?_; rintro e w20 ⟨v20, g20, rfl, H20⟩; have H21 : St (fun _ => False) w w20 [_, _, _, _, _, _, _, _, _] := H19.call0 H20))
          clear d0 d1 d2 H19 H20 kt4
          have H22 := H21.skip (.cells #[.string ⟨ck.toArray⟩, .int .i64 cf, .int .i64 ct] 41)
          obtain ⟨wg, hwg⟩ : ∃ wa, w20.alloc (.cells #[.string ⟨ck.toArray⟩, .int .i64 cf, .int .i64 ct] 41) = wa := ⟨_, rfl⟩
          obtain ⟨b16, hb16⟩ : ∃ b, w20.heap.size = b := ⟨_, rfl⟩
          rw [hwg] at H22
          try rw [hwg]
          try simp only [hb16]
          rw [hgth.out] at H22
          have H22 : St (fun _ => False) w wg [Row 41 3 v20 N.length (wds N), Row 3 1 g20 G4.length (intCells G4), Blk b13 #[.string ⟨bk.toArray⟩, .int .i64 bf, .int .i64 bt] 41, Row 41 3 v16 N.length (wds N), Row 3 1 g16 1 (intCells G2), Blk b11 #[.string ⟨xk.toArray⟩, .int .i64 wf, .int .i64 wt] 41, Blk b9 #[.string ⟨bk.toArray⟩, .int .i64 bf, .int .i64 bt] 41, Row 41 3 (.slice na N.length nc) N.length (wds N), Blk bx #[.string ⟨xk.toArray⟩, .int .i64 xf, .int .i64 xt] 41] := H22
          obtain ⟨pa, pc, rfl, hpc, _⟩ := slice_form' (H22.row 3 rfl)
          obtain ⟨ra, rc, rfl, hrc, _⟩ := slice_form' (H22.row 0 rfl)
          obtain ⟨gg, gc, rfl⟩ := row_form (N := 1) (H22.row 4 rfl) rfl (by decide)
          as_aux_lemma =>
            have H23 : St (fun _ => False) w wg [Row 41 3 (.slice ra N.length rc) N.length (wds N), Row 41 3 (.slice pa N.length pc) N.length (wds N), Row 41 3 (.slice na N.length nc) N.length (wds N), Blk b13 #[.string ⟨bk.toArray⟩, .int .i64 bf, .int .i64 bt] 41, Blk b11 #[.string ⟨xk.toArray⟩, .int .i64 wf, .int .i64 wt] 41, Blk b9 #[.string ⟨bk.toArray⟩, .int .i64 bf, .int .i64 bt] 41, Blk bx #[.string ⟨xk.toArray⟩, .int .i64 xf, .int .i64 xt] 41] := H22.pick [0, 3, 7, 2, 5, 6, 8]
            clear hwg hb16 H22 H21
            as_aux_lemma =>
              refine wp_plan (.small 0 (.small 1 (.small 2 (.small 3 (.small 4 (.small 5 (.small 6 (.small 7 (.small 8 (.small 9 (.small 10 (.small 11 (.small 12 (.small 13 (.small 14 (.small 15 (.small 16 (.small 17 (.small 18 (.small 19 (.small 21 (.small 23 (.small 24 (.fork 20 25 (.fork 22 25 (.alone 25 (.alone 26 (.alone 27 (.small 28 (.small 29 (.small 30 .nil)))))) (.alone 22 (.alone 26 (.alone 27 (.small 28 (.small 29 (.small 30 .nil))))))) (.alone 20 (.alone 22 (.alone 26 (.alone 27 (.small 28 (.small 29 (.small 30 .nil))))))))))))))))))))))))))))))) (Fam fun w' => St (fun _ => False) w w' [Row 41 3 (.slice ra N.length rc) N.length (wds N), Row 41 3 (.slice pa N.length pc) N.length (wds N), Row 41 3 (.slice na N.length nc) N.length (wds N), Blk b13 #[.string ⟨bk.toArray⟩, .int .i64 bf, .int .i64 bt] 41, Blk b11 #[.string ⟨xk.toArray⟩, .int .i64 wf, .int .i64 wt] 41, Blk b9 #[.string ⟨bk.toArray⟩, .int .i64 bf, .int .i64 bt] 41, Blk bx #[.string ⟨xk.toArray⟩, .int .i64 xf, .int .i64 xt] 41]) (fun w' => St (fun _ => False) w w' [Row 41 3 (.slice ra N.length rc) N.length (wds N), Row 41 3 (.slice pa N.length pc) N.length (wds N), Row 41 3 (.slice na N.length nc) N.length (wds N), Blk b13 #[.string ⟨bk.toArray⟩, .int .i64 bf, .int .i64 bt] 41, Blk b11 #[.string ⟨xk.toArray⟩, .int .i64 wf, .int .i64 wt] 41, Blk b9 #[.string ⟨bk.toArray⟩, .int .i64 bf, .int .i64 bt] 41, Blk bx #[.string ⟨xk.toArray⟩, .int .i64 xf, .int .i64 xt] 41]) (by kernel_rfl) (by rfl) (by kernel_rfl) (by kernel_rfl) H23.drew (Fam.st (fun _ h => h)) ?_
              iterate 23 first
                | (apply plan_pass
                   · rfl
                   · rfl
                   intro K hK
                   go_simp
                   refine hK _ ?_
                   clear hK K)
                | (apply plan_step
                   · rfl
                   · rfl
                   · intro I hI w1 h1'
                     have h1 := hI.2 _ h1'
                     have a0 := h1.cell 3 0 rfl rfl
                     have a1 := h1.cell 3 1 rfl rfl
                     have a2 := h1.cell 3 2 rfl rfl
                     have b0 := h1.cell 5 0 rfl rfl
                     have b1 := h1.cell 5 1 rfl rfl
                     have b2 := h1.cell 5 2 rfl rfl
                     have c0 := h1.cell 4 0 rfl rfl
                     have c1 := h1.cell 4 1 rfl rfl
                     have c2 := h1.cell 4 2 rfl rfl
                     have d0 := h1.cell 6 0 rfl rfl
                     have d1 := h1.cell 6 1 rfl rfl
                     have d2 := h1.cell 6 2 rfl rfl
                     have n1 := ksame w1 _ _ (wds_own (h1.row 2 rfl) hN2h.out) (wds_own (h1.row 1 rfl) hN2h.out)
                     have n2 := ksame w1 _ _ (wds_own (h1.row 0 rfl) hN2h.out) (wds_own (h1.row 2 rfl) hN2h.out)
                     first
                       | (go_simp
                          first
                            | rfl
                            | exact ⟨rfl, h1'⟩
                            | (go_at_call 29; with_reducible exact Fam.call hI h1' n1)
                            | (go_at_call 29; with_reducible exact Fam.call hI h1' n2)
                         )
                   intro K hK
                   go_simp
                   refine hK _ ?_
                   clear hK K)
              as_aux_lemma =>
                obtain ⟨V1, hV1⟩ := hide_rel (fun v I' => ∃ ge, v = .slice (some ⟨ge, 0, none⟩) 0 0 ∧ I' = fun w' => St (fun _ => False) w w' [Row 41 3 (.slice (some ⟨ge, 0, none⟩) 0 0) 0 (wds []), Row 41 3 (.slice ra N.length rc) N.length (wds N), Row 41 3 (.slice pa N.length pc) N.length (wds N), Row 41 3 (.slice na N.length nc) N.length (wds N), Blk b13 #[.string ⟨bk.toArray⟩, .int .i64 bf, .int .i64 bt] 41, Blk b11 #[.string ⟨xk.toArray⟩, .int .i64 wf, .int .i64 wt] 41, Blk b9 #[.string ⟨bk.toArray⟩, .int .i64 bf, .int .i64 bt] 41, Blk bx #[.string ⟨xk.toArray⟩, .int .i64 xf, .int .i64 xt] 41])
                obtain ⟨V2, hV2⟩ := hide_rel (fun v I' => ∃ g2, v = .slice (some ⟨g2, 0, none⟩) 2 2 ∧ I' = fun w' => St (fun _ => False) w w' [Blk g2 #[.string ⟨xk.toArray⟩, .int .i64 xf, .int .i64 xt, .string ⟨xk.toArray⟩, .int .i64 wf, .int .i64 wt] 41, Row 41 3 (.slice ra N.length rc) N.length (wds N), Row 41 3 (.slice pa N.length pc) N.length (wds N), Row 41 3 (.slice na N.length nc) N.length (wds N), Blk b13 #[.string ⟨bk.toArray⟩, .int .i64 bf, .int .i64 bt] 41, Blk b11 #[.string ⟨xk.toArray⟩, .int .i64 wf, .int .i64 wt] 41, Blk b9 #[.string ⟨bk.toArray⟩, .int .i64 bf, .int .i64 bt] 41, Blk bx #[.string ⟨xk.toArray⟩, .int .i64 xf, .int .i64 xt] 41])
                refine plan_fork V1 V2 rfl rfl rfl rfl ?_ ?_ ?_ ?_
                · intro w1 h1
                  go_simp
                  exact ⟨_, (hV1.out _ _).2 ⟨_, rfl, rfl⟩, bld0_row h1⟩
                · intro w1 h1
                  refine cameV_run' (v := .slice (some ⟨w1.heap.size, 0, none⟩) 2 2) (w' := w1.alloc (.cells #[.string ⟨xk.toArray⟩, .int .i64 xf, .int .i64 xt, .string ⟨xk.toArray⟩, .int .i64 wf, .int .i64 wt] 41)) ((run_two_at Try.underlying39 Try.info41 (by omega) rfl rfl).trans (by kernel_rfl)) ?_
                  exact ⟨_, (hV2.out _ _).2 ⟨_, rfl, rfl⟩, h1.alloc _ _⟩
                · as_aux_lemma =>
                    intro v I' hvI
                    obtain ⟨ge, rfl, rfl⟩ := (hV1.out _ _).1 hvI
                    clear hvI
                    refine ⟨_, fun _ h => h, Fam.st (fun _ h => h.tail), ?_⟩
                    intro K hK
                    go_simp
                    refine hK _ ?_
                    clear hK K
                    obtain ⟨V3, hV3⟩ := hide_rel (fun v I' => ∃ ua uc, v = .slice ua l.length uc ∧ I' = fun w' => St (fun _ => False) w w' [Row 41 3 (.slice ua l.length uc) l.length (wds l), Row 41 3 (.slice ra N.length rc) N.length (wds N), Row 41 3 (.slice pa N.length pc) N.length (wds N), Row 41 3 (.slice na N.length nc) N.length (wds N), Blk b13 #[.string ⟨bk.toArray⟩, .int .i64 bf, .int .i64 bt] 41, Blk b11 #[.string ⟨xk.toArray⟩, .int .i64 wf, .int .i64 wt] 41, Blk b9 #[.string ⟨bk.toArray⟩, .int .i64 bf, .int .i64 bt] 41, Blk bx #[.string ⟨xk.toArray⟩, .int .i64 xf, .int .i64 xt] 41])
                    obtain ⟨V4, hV4⟩ := hide_rel (fun v I' => ∃ g2, v = .slice (some ⟨g2, 0, none⟩) 2 2 ∧ I' = fun w' => St (fun _ => False) w w' [Blk g2 #[.string ⟨xk.toArray⟩, .int .i64 xf, .int .i64 xt, .string ⟨xk.toArray⟩, .int .i64 wf, .int .i64 wt] 41, Row 41 3 (.slice (some ⟨ge, 0, none⟩) 0 0) 0 (wds []), Row 41 3 (.slice ra N.length rc) N.length (wds N), Row 41 3 (.slice pa N.length pc) N.length (wds N), Row 41 3 (.slice na N.length nc) N.length (wds N), Blk b13 #[.string ⟨bk.toArray⟩, .int .i64 bf, .int .i64 bt] 41, Blk b11 #[.string ⟨xk.toArray⟩, .int .i64 wf, .int .i64 wt] 41, Blk b9 #[.string ⟨bk.toArray⟩, .int .i64 bf, .int .i64 bt] 41, Blk bx #[.string ⟨xk.toArray⟩, .int .i64 xf, .int .i64 xt] 41])
                    refine plan_fork V3 V4 rfl rfl rfl rfl ?_ ?_ ?_ ?_
                    · intro w1 h1
                      obtain ⟨ro1, ro2, ro3, ro4, ro5⟩ := (hlat.out w1 h1.kept).cells
                      obtain ⟨rfl, rfl⟩ : ao = ro1 ∧ cap = ro2 := by injection ro3 with e1 _ e2; exact ⟨e1, e2⟩
                      refine h1.came_append 0 rfl (.tmp 112) (.tmp 113) 39 rfl Try.underlying39 Try.info41 (by decide) rfl (wds l) rfl (wds_len l) (fun e => by rw [ro4 e]; rfl) (fun ad e j u hj => ro5 ad e j u hj) (wds_one1 l) (by omega) ?_
                      intro v' w' H7
                      rw [Nat.zero_add] at H7
                      obtain ⟨qa, qc, rfl, _, _⟩ := slice_form' (H7.row 0 rfl)
                      exact ⟨_, (hV3.out _ _).2 ⟨qa, qc, rfl, rfl⟩, H7⟩
                    · intro w1 h1
                      refine cameV_run' (v := .slice (some ⟨w1.heap.size, 0, none⟩) 2 2) (w' := w1.alloc (.cells #[.string ⟨xk.toArray⟩, .int .i64 xf, .int .i64 xt, .string ⟨xk.toArray⟩, .int .i64 wf, .int .i64 wt] 41)) ((run_two_at Try.underlying39 Try.info41 (by omega) rfl rfl).trans (by kernel_rfl)) ?_
                      exact ⟨_, (hV4.out _ _).2 ⟨_, rfl, rfl⟩, h1.alloc _ _⟩
                    · as_aux_lemma =>
                        intro v I' hvI
                        obtain ⟨ua, uc, rfl, rfl⟩ := (hV3.out _ _).1 hvI
                        clear hvI
                        refine ⟨_, fun _ h => h, Fam.st (fun _ h => h.tail), ?_⟩
                        intro K hK
                        go_simp
                        refine hK _ ?_
                        clear hK K
                        obtain ⟨V5, hV5⟩ := hide_rel (fun v I' => ∃ g2, v = .slice (some ⟨g2, 0, none⟩) 2 2 ∧ I' = fun w' => St (fun _ => False) w w' [Blk g2 #[.string ⟨xk.toArray⟩, .int .i64 xf, .int .i64 xt, .string ⟨xk.toArray⟩, .int .i64 wf, .int .i64 wt] 41, Row 41 3 (.slice ua l.length uc) l.length (wds l), Row 41 3 (.slice ra N.length rc) N.length (wds N), Row 41 3 (.slice pa N.length pc) N.length (wds N), Row 41 3 (.slice na N.length nc) N.length (wds N), Blk b13 #[.string ⟨bk.toArray⟩, .int .i64 bf, .int .i64 bt] 41, Blk b11 #[.string ⟨xk.toArray⟩, .int .i64 wf, .int .i64 wt] 41, Blk b9 #[.string ⟨bk.toArray⟩, .int .i64 bf, .int .i64 bt] 41, Blk bx #[.string ⟨xk.toArray⟩, .int .i64 xf, .int .i64 xt] 41])
                        refine plan_alone V5 rfl rfl ?_ ?_
                        · intro w1 h1
                          refine cameV_run' (v := .slice (some ⟨w1.heap.size, 0, none⟩) 2 2) (w' := w1.alloc (.cells #[.string ⟨xk.toArray⟩, .int .i64 xf, .int .i64 xt, .string ⟨xk.toArray⟩, .int .i64 wf, .int .i64 wt] 41)) ((run_two_at Try.underlying39 Try.info41 (by omega) rfl rfl).trans (by kernel_rfl)) ?_
                          exact ⟨_, (hV5.out _ _).2 ⟨_, rfl, rfl⟩, h1.alloc _ _⟩
                        intro v I' hvI
                        obtain ⟨g2, rfl, rfl⟩ := (hV5.out _ _).1 hvI
                        clear hvI
                        refine ⟨_, fun _ h => h, Fam.st (fun _ h => h.tail.tail), ?_⟩
                        intro K hK
                        go_simp
                        refine hK _ ?_
                        clear hK K
                        as_aux_lemma =>
                          obtain ⟨V9, hV9⟩ := hide_rel (fun v I' => ∃ ua2 uc2, v = .slice ua2 (l.length + 2) uc2 ∧ I' = fun w' => St (fun _ => False) w w' [Row 41 3 (.slice ua2 (l.length + 2) uc2) (l.length + 2) (wds (l ++ [⟨xk, xf, xt⟩, ⟨xk, wf, wt⟩])), Row 41 3 (.slice ra N.length rc) N.length (wds N), Row 41 3 (.slice pa N.length pc) N.length (wds N), Row 41 3 (.slice na N.length nc) N.length (wds N), Blk b13 #[.string ⟨bk.toArray⟩, .int .i64 bf, .int .i64 bt] 41, Blk b11 #[.string ⟨xk.toArray⟩, .int .i64 wf, .int .i64 wt] 41, Blk b9 #[.string ⟨bk.toArray⟩, .int .i64 bf, .int .i64 bt] 41, Blk bx #[.string ⟨xk.toArray⟩, .int .i64 xf, .int .i64 xt] 41])
                          refine plan_alone V9 rfl rfl ?_ ?_
                          · intro w1 h1
                            refine h1.came_append 1 rfl (.tmp 114) (.tmp 117) 39 rfl Try.underlying39 Try.info41 (by decide) rfl [.string ⟨xk.toArray⟩, .int .i64 xf, .int .i64 xt, .string ⟨xk.toArray⟩, .int .i64 wf, .int .i64 wt] rfl rfl (by intro h; cases h) (blk_add (h1.blk 0 rfl)) (by simp [Value.oneCell']) (by omega) ?_
                            intro v' w' H7
                            have e6 : wds (l ++ [⟨xk, xf, xt⟩, ⟨xk, wf, wt⟩]) = wds l ++ [.string ⟨xk.toArray⟩, .int .i64 xf, .int .i64 xt, .string ⟨xk.toArray⟩, .int .i64 wf, .int .i64 wt] := by rw [wds_app]; simp [wds, textV]
                            obtain ⟨qa, qc, rfl, _, _⟩ := slice_form' (H7.row 1 rfl)
                            refine ⟨_, (hV9.out _ _).2 ⟨qa, qc, rfl, rfl⟩, ?_⟩
                            rw [e6]
                            exact St.pick (l := [_, _, _, _, _, _, _, _, _]) H7 [1, 2, 3, 4, 5, 6, 7, 8]
                          intro v I' hvI
                          obtain ⟨ua2, uc2, rfl, rfl⟩ := (hV9.out _ _).1 hvI
                          clear hvI
                          refine ⟨_, fun _ h => h, Fam.st (fun _ h => h.tail), ?_⟩
                          intro K hK
                          go_simp
                          refine hK _ ?_
                          clear hK K
                          as_aux_lemma =>
                            obtain ⟨V10, hV10⟩ := hide_rel (fun v I' => ∃ xa xc, v = .slice xa N.length xc ∧ I' = fun w' => St (fun _ => False) w w' [Row 41 3 (.slice xa N.length xc) N.length (wds N), Row 41 3 (.slice ra N.length rc) N.length (wds N), Row 41 3 (.slice pa N.length pc) N.length (wds N), Row 41 3 (.slice na N.length nc) N.length (wds N), Blk b13 #[.string ⟨bk.toArray⟩, .int .i64 bf, .int .i64 bt] 41, Blk b11 #[.string ⟨xk.toArray⟩, .int .i64 wf, .int .i64 wt] 41, Blk b9 #[.string ⟨bk.toArray⟩, .int .i64 bf, .int .i64 bt] 41, Blk bx #[.string ⟨xk.toArray⟩, .int .i64 xf, .int .i64 xt] 41])
                            refine plan_alone V10 rfl rfl ?_ ?_
                            · intro w1 h1
                              have kal := sess_all w1 (wds_own (h1.row 0 rfl) hfin.out) (by simp; omega)
                              rw [hall.out] at kal
                              go_simp
                              refine kal.mono ?_
                              rintro e w7 ⟨v', rfl, H7⟩
                              obtain ⟨qa, qc, rfl, _, _⟩ := slice_form' (H7.row 0 rfl)
                              have H8 : St (fun _ => False) w w7 [_, _, _, _, _, _, _, _, _] := h1.call0 H7
                              exact ⟨_, rfl, _, (hV10.out _ _).2 ⟨qa, qc, rfl, rfl⟩, H8.pick [0, 2, 3, 4, 5, 6, 7, 8]⟩
                            intro v I' hvI
                            obtain ⟨xa, xc, rfl, rfl⟩ := (hV10.out _ _).1 hvI
                            clear hvI
                            refine ⟨Fam fun w' => St (fun _ => False) w w' [Row 41 3 (.slice xa N.length xc) N.length (wds N), Row 41 3 (.slice ra N.length rc) N.length (wds N), Row 41 3 (.slice pa N.length pc) N.length (wds N), Row 41 3 (.slice na N.length nc) N.length (wds N), Blk b13 #[.string ⟨bk.toArray⟩, .int .i64 bf, .int .i64 bt] 41, Blk b11 #[.string ⟨xk.toArray⟩, .int .i64 wf, .int .i64 wt] 41, Blk b9 #[.string ⟨bk.toArray⟩, .int .i64 bf, .int .i64 bt] 41, Blk bx #[.string ⟨xk.toArray⟩, .int .i64 xf, .int .i64 xt] 41], Fam.mono (fun _ h => h.tail), Fam.st (fun _ h => h), ?_⟩
                            intro K hK
                            go_simp
                            refine hK _ ?_
                            clear hK K
                            as_aux_lemma =>
                              iterate 3 first
                                | (apply plan_pass
                                   · rfl
                                   · rfl
                                   intro K hK
                                   go_simp
                                   refine hK _ ?_
                                   clear hK K)
                                | (apply plan_step
                                   · rfl
                                   · rfl
                                   · intro I hI w1 h1'
                                     have h1 := hI.2 _ h1'
                                     have n1 := ksame w1 _ _ (wds_own (h1.row 3 rfl) hN2h.out) (wds_own (h1.row 0 rfl) hN2h.out)
                                     first
                                       | (go_simp
                                          first
                                            | rfl
                                            | exact ⟨rfl, h1'⟩
                                            | (go_at_call 29; with_reducible exact Fam.call hI h1' n1)
                                         )
                                   intro K hK
                                   go_simp
                                   refine hK _ ?_
                                   clear hK K)
                              refine plan_nil ?_
                              intro w30 H30
                              go_wp2
                              go_ret
                              exact ⟨rfl, H30.below (Nat.le_refl _) (fun _ h => h.elim)⟩
                    · as_aux_lemma =>
                        intro v I' hvI
                        obtain ⟨g2, rfl, rfl⟩ := (hV4.out _ _).1 hvI
                        clear hvI
                        refine ⟨_, fun _ h => h, Fam.st (fun _ h => h.tail.tail), ?_⟩
                        intro K hK
                        go_simp
                        refine hK _ ?_
                        clear hK K
                        obtain ⟨V6, hV6⟩ := hide_rel (fun v I' => ∃ ua uc, v = .slice ua l.length uc ∧ I' = fun w' => St (fun _ => False) w w' [Blk g2 #[.string ⟨xk.toArray⟩, .int .i64 xf, .int .i64 xt, .string ⟨xk.toArray⟩, .int .i64 wf, .int .i64 wt] 41, Row 41 3 (.slice ua l.length uc) l.length (wds l), Row 41 3 (.slice ra N.length rc) N.length (wds N), Row 41 3 (.slice pa N.length pc) N.length (wds N), Row 41 3 (.slice na N.length nc) N.length (wds N), Blk b13 #[.string ⟨bk.toArray⟩, .int .i64 bf, .int .i64 bt] 41, Blk b11 #[.string ⟨xk.toArray⟩, .int .i64 wf, .int .i64 wt] 41, Blk b9 #[.string ⟨bk.toArray⟩, .int .i64 bf, .int .i64 bt] 41, Blk bx #[.string ⟨xk.toArray⟩, .int .i64 xf, .int .i64 xt] 41])
                        refine plan_alone V6 rfl rfl ?_ ?_
                        · intro w1 h1
                          obtain ⟨ro1, ro2, ro3, ro4, ro5⟩ := (hlat.out w1 h1.kept).cells
                          obtain ⟨rfl, rfl⟩ : ao = ro1 ∧ cap = ro2 := by injection ro3 with e1 _ e2; exact ⟨e1, e2⟩
                          refine h1.came_append 1 rfl (.tmp 112) (.tmp 113) 39 rfl Try.underlying39 Try.info41 (by decide) rfl (wds l) rfl (wds_len l) (fun e => by rw [ro4 e]; rfl) (fun ad e j u hj => ro5 ad e j u hj) (wds_one1 l) (by omega) ?_
                          intro v' w' H7
                          rw [Nat.zero_add] at H7
                          obtain ⟨qa, qc, rfl, _, _⟩ := slice_form' (H7.row 1 rfl)
                          exact ⟨_, (hV6.out _ _).2 ⟨qa, qc, rfl, rfl⟩, H7⟩
                        intro v I' hvI
                        obtain ⟨ua, uc, rfl, rfl⟩ := (hV6.out _ _).1 hvI
                        clear hvI
                        refine ⟨_, fun _ h => h, Fam.st (fun _ h => h.tail.tail), ?_⟩
                        intro K hK
                        go_simp
                        refine hK _ ?_
                        clear hK K
                        as_aux_lemma =>
                          obtain ⟨V9, hV9⟩ := hide_rel (fun v I' => ∃ ua2 uc2, v = .slice ua2 (l.length + 2) uc2 ∧ I' = fun w' => St (fun _ => False) w w' [Row 41 3 (.slice ua2 (l.length + 2) uc2) (l.length + 2) (wds (l ++ [⟨xk, xf, xt⟩, ⟨xk, wf, wt⟩])), Row 41 3 (.slice ra N.length rc) N.length (wds N), Row 41 3 (.slice pa N.length pc) N.length (wds N), Row 41 3 (.slice na N.length nc) N.length (wds N), Blk b13 #[.string ⟨bk.toArray⟩, .int .i64 bf, .int .i64 bt] 41, Blk b11 #[.string ⟨xk.toArray⟩, .int .i64 wf, .int .i64 wt] 41, Blk b9 #[.string ⟨bk.toArray⟩, .int .i64 bf, .int .i64 bt] 41, Blk bx #[.string ⟨xk.toArray⟩, .int .i64 xf, .int .i64 xt] 41])
                          refine plan_alone V9 rfl rfl ?_ ?_
                          · intro w1 h1
                            refine h1.came_append 1 rfl (.tmp 114) (.tmp 117) 39 rfl Try.underlying39 Try.info41 (by decide) rfl [.string ⟨xk.toArray⟩, .int .i64 xf, .int .i64 xt, .string ⟨xk.toArray⟩, .int .i64 wf, .int .i64 wt] rfl rfl (by intro h; cases h) (blk_add (h1.blk 0 rfl)) (by simp [Value.oneCell']) (by omega) ?_
                            intro v' w' H7
                            have e6 : wds (l ++ [⟨xk, xf, xt⟩, ⟨xk, wf, wt⟩]) = wds l ++ [.string ⟨xk.toArray⟩, .int .i64 xf, .int .i64 xt, .string ⟨xk.toArray⟩, .int .i64 wf, .int .i64 wt] := by rw [wds_app]; simp [wds, textV]
                            obtain ⟨qa, qc, rfl, _, _⟩ := slice_form' (H7.row 1 rfl)
                            refine ⟨_, (hV9.out _ _).2 ⟨qa, qc, rfl, rfl⟩, ?_⟩
                            rw [e6]
                            exact St.pick (l := [_, _, _, _, _, _, _, _, _]) H7 [1, 2, 3, 4, 5, 6, 7, 8]
                          intro v I' hvI
                          obtain ⟨ua2, uc2, rfl, rfl⟩ := (hV9.out _ _).1 hvI
                          clear hvI
                          refine ⟨_, fun _ h => h, Fam.st (fun _ h => h.tail), ?_⟩
                          intro K hK
                          go_simp
                          refine hK _ ?_
                          clear hK K
                          as_aux_lemma =>
                            obtain ⟨V10, hV10⟩ := hide_rel (fun v I' => ∃ xa xc, v = .slice xa N.length xc ∧ I' = fun w' => St (fun _ => False) w w' [Row 41 3 (.slice xa N.length xc) N.length (wds N), Row 41 3 (.slice ra N.length rc) N.length (wds N), Row 41 3 (.slice pa N.length pc) N.length (wds N), Row 41 3 (.slice na N.length nc) N.length (wds N), Blk b13 #[.string ⟨bk.toArray⟩, .int .i64 bf, .int .i64 bt] 41, Blk b11 #[.string ⟨xk.toArray⟩, .int .i64 wf, .int .i64 wt] 41, Blk b9 #[.string ⟨bk.toArray⟩, .int .i64 bf, .int .i64 bt] 41, Blk bx #[.string ⟨xk.toArray⟩, .int .i64 xf, .int .i64 xt] 41])
                            refine plan_alone V10 rfl rfl ?_ ?_
                            · intro w1 h1
                              have kal := sess_all w1 (wds_own (h1.row 0 rfl) hfin.out) (by simp; omega)
                              rw [hall.out] at kal
                              go_simp
                              refine kal.mono ?_
                              rintro e w7 ⟨v', rfl, H7⟩
                              obtain ⟨qa, qc, rfl, _, _⟩ := slice_form' (H7.row 0 rfl)
                              have H8 : St (fun _ => False) w w7 [_, _, _, _, _, _, _, _, _] := h1.call0 H7
                              exact ⟨_, rfl, _, (hV10.out _ _).2 ⟨qa, qc, rfl, rfl⟩, H8.pick [0, 2, 3, 4, 5, 6, 7, 8]⟩
                            intro v I' hvI
                            obtain ⟨xa, xc, rfl, rfl⟩ := (hV10.out _ _).1 hvI
                            clear hvI
                            refine ⟨Fam fun w' => St (fun _ => False) w w' [Row 41 3 (.slice xa N.length xc) N.length (wds N), Row 41 3 (.slice ra N.length rc) N.length (wds N), Row 41 3 (.slice pa N.length pc) N.length (wds N), Row 41 3 (.slice na N.length nc) N.length (wds N), Blk b13 #[.string ⟨bk.toArray⟩, .int .i64 bf, .int .i64 bt] 41, Blk b11 #[.string ⟨xk.toArray⟩, .int .i64 wf, .int .i64 wt] 41, Blk b9 #[.string ⟨bk.toArray⟩, .int .i64 bf, .int .i64 bt] 41, Blk bx #[.string ⟨xk.toArray⟩, .int .i64 xf, .int .i64 xt] 41], Fam.mono (fun _ h => h.tail), Fam.st (fun _ h => h), ?_⟩
                            intro K hK
                            go_simp
                            refine hK _ ?_
                            clear hK K
                            as_aux_lemma =>
                              iterate 3 first
                                | (apply plan_pass
                                   · rfl
                                   · rfl
                                   intro K hK
                                   go_simp
                                   refine hK _ ?_
                                   clear hK K)
                                | (apply plan_step
                                   · rfl
                                   · rfl
                                   · intro I hI w1 h1'
                                     have h1 := hI.2 _ h1'
                                     have n1 := ksame w1 _ _ (wds_own (h1.row 3 rfl) hN2h.out) (wds_own (h1.row 0 rfl) hN2h.out)
                                     first
                                       | (go_simp
                                          first
                                            | rfl
                                            | exact ⟨rfl, h1'⟩
                                            | (go_at_call 29; with_reducible exact Fam.call hI h1' n1)
                                         )
                                   intro K hK
                                   go_simp
                                   refine hK _ ?_
                                   clear hK K)
                              refine plan_nil ?_
                              intro w30 H30
                              go_wp2
                              go_ret
                              exact ⟨rfl, H30.below (Nat.le_refl _) (fun _ h => h.elim)⟩
                · as_aux_lemma =>
                    intro v I' hvI
                    obtain ⟨g2, rfl, rfl⟩ := (hV2.out _ _).1 hvI
                    clear hvI
                    refine ⟨_, fun _ h => h, Fam.st (fun _ h => h.tail), ?_⟩
                    intro K hK
                    go_simp
                    refine hK _ ?_
                    clear hK K
                    obtain ⟨V7, hV7⟩ := hide_rel (fun v I' => ∃ ge, v = .slice (some ⟨ge, 0, none⟩) 0 0 ∧ I' = fun w' => St (fun _ => False) w w' [Row 41 3 (.slice (some ⟨ge, 0, none⟩) 0 0) 0 (wds []), Blk g2 #[.string ⟨xk.toArray⟩, .int .i64 xf, .int .i64 xt, .string ⟨xk.toArray⟩, .int .i64 wf, .int .i64 wt] 41, Row 41 3 (.slice ra N.length rc) N.length (wds N), Row 41 3 (.slice pa N.length pc) N.length (wds N), Row 41 3 (.slice na N.length nc) N.length (wds N), Blk b13 #[.string ⟨bk.toArray⟩, .int .i64 bf, .int .i64 bt] 41, Blk b11 #[.string ⟨xk.toArray⟩, .int .i64 wf, .int .i64 wt] 41, Blk b9 #[.string ⟨bk.toArray⟩, .int .i64 bf, .int .i64 bt] 41, Blk bx #[.string ⟨xk.toArray⟩, .int .i64 xf, .int .i64 xt] 41])
                    refine plan_alone V7 rfl rfl ?_ ?_
                    · intro w1 h1
                      go_simp
                      exact ⟨_, (hV7.out _ _).2 ⟨_, rfl, rfl⟩, bld0_row h1⟩
                    intro v I' hvI
                    obtain ⟨ge, rfl, rfl⟩ := (hV7.out _ _).1 hvI
                    clear hvI
                    refine ⟨_, fun _ h => h, Fam.st (fun _ h => h.tail.tail), ?_⟩
                    intro K hK
                    go_simp
                    refine hK _ ?_
                    clear hK K
                    obtain ⟨V8, hV8⟩ := hide_rel (fun v I' => ∃ ua uc, v = .slice ua l.length uc ∧ I' = fun w' => St (fun _ => False) w w' [Blk g2 #[.string ⟨xk.toArray⟩, .int .i64 xf, .int .i64 xt, .string ⟨xk.toArray⟩, .int .i64 wf, .int .i64 wt] 41, Row 41 3 (.slice ua l.length uc) l.length (wds l), Row 41 3 (.slice ra N.length rc) N.length (wds N), Row 41 3 (.slice pa N.length pc) N.length (wds N), Row 41 3 (.slice na N.length nc) N.length (wds N), Blk b13 #[.string ⟨bk.toArray⟩, .int .i64 bf, .int .i64 bt] 41, Blk b11 #[.string ⟨xk.toArray⟩, .int .i64 wf, .int .i64 wt] 41, Blk b9 #[.string ⟨bk.toArray⟩, .int .i64 bf, .int .i64 bt] 41, Blk bx #[.string ⟨xk.toArray⟩, .int .i64 xf, .int .i64 xt] 41])
                    refine plan_alone V8 rfl rfl ?_ ?_
                    · intro w1 h1
                      obtain ⟨ro1, ro2, ro3, ro4, ro5⟩ := (hlat.out w1 h1.kept).cells
                      obtain ⟨rfl, rfl⟩ : ao = ro1 ∧ cap = ro2 := by injection ro3 with e1 _ e2; exact ⟨e1, e2⟩
                      refine h1.came_append 0 rfl (.tmp 112) (.tmp 113) 39 rfl Try.underlying39 Try.info41 (by decide) rfl (wds l) rfl (wds_len l) (fun e => by rw [ro4 e]; rfl) (fun ad e j u hj => ro5 ad e j u hj) (wds_one1 l) (by omega) ?_
                      intro v' w' H7
                      rw [Nat.zero_add] at H7
                      obtain ⟨qa, qc, rfl, _, _⟩ := slice_form' (H7.row 0 rfl)
                      exact ⟨_, (hV8.out _ _).2 ⟨qa, qc, rfl, rfl⟩, St.pick (l := [_, _, _, _, _, _, _, _, _]) H7 [1, 0, 2, 3, 4, 5, 6, 7, 8]⟩
                    intro v I' hvI
                    obtain ⟨ua, uc, rfl, rfl⟩ := (hV8.out _ _).1 hvI
                    clear hvI
                    refine ⟨_, fun _ h => h, Fam.st (fun _ h => h.tail.tail), ?_⟩
                    intro K hK
                    go_simp
                    refine hK _ ?_
                    clear hK K
                    as_aux_lemma =>
                      obtain ⟨V9, hV9⟩ := hide_rel (fun v I' => ∃ ua2 uc2, v = .slice ua2 (l.length + 2) uc2 ∧ I' = fun w' => St (fun _ => False) w w' [Row 41 3 (.slice ua2 (l.length + 2) uc2) (l.length + 2) (wds (l ++ [⟨xk, xf, xt⟩, ⟨xk, wf, wt⟩])), Row 41 3 (.slice ra N.length rc) N.length (wds N), Row 41 3 (.slice pa N.length pc) N.length (wds N), Row 41 3 (.slice na N.length nc) N.length (wds N), Blk b13 #[.string ⟨bk.toArray⟩, .int .i64 bf, .int .i64 bt] 41, Blk b11 #[.string ⟨xk.toArray⟩, .int .i64 wf, .int .i64 wt] 41, Blk b9 #[.string ⟨bk.toArray⟩, .int .i64 bf, .int .i64 bt] 41, Blk bx #[.string ⟨xk.toArray⟩, .int .i64 xf, .int .i64 xt] 41])
                      refine plan_alone V9 rfl rfl ?_ ?_
                      · intro w1 h1
                        refine h1.came_append 1 rfl (.tmp 114) (.tmp 117) 39 rfl Try.underlying39 Try.info41 (by decide) rfl [.string ⟨xk.toArray⟩, .int .i64 xf, .int .i64 xt, .string ⟨xk.toArray⟩, .int .i64 wf, .int .i64 wt] rfl rfl (by intro h; cases h) (blk_add (h1.blk 0 rfl)) (by simp [Value.oneCell']) (by omega) ?_
                        intro v' w' H7
                        have e6 : wds (l ++ [⟨xk, xf, xt⟩, ⟨xk, wf, wt⟩]) = wds l ++ [.string ⟨xk.toArray⟩, .int .i64 xf, .int .i64 xt, .string ⟨xk.toArray⟩, .int .i64 wf, .int .i64 wt] := by rw [wds_app]; simp [wds, textV]
                        obtain ⟨qa, qc, rfl, _, _⟩ := slice_form' (H7.row 1 rfl)
                        refine ⟨_, (hV9.out _ _).2 ⟨qa, qc, rfl, rfl⟩, ?_⟩
                        rw [e6]
                        exact St.pick (l := [_, _, _, _, _, _, _, _, _]) H7 [1, 2, 3, 4, 5, 6, 7, 8]
                      intro v I' hvI
                      obtain ⟨ua2, uc2, rfl, rfl⟩ := (hV9.out _ _).1 hvI
                      clear hvI
                      refine ⟨_, fun _ h => h, Fam.st (fun _ h => h.tail), ?_⟩
                      intro K hK
                      go_simp
                      refine hK _ ?_
                      clear hK K
                      as_aux_lemma =>
                        obtain ⟨V10, hV10⟩ := hide_rel (fun v I' => ∃ xa xc, v = .slice xa N.length xc ∧ I' = fun w' => St (fun _ => False) w w' [Row 41 3 (.slice xa N.length xc) N.length (wds N), Row 41 3 (.slice ra N.length rc) N.length (wds N), Row 41 3 (.slice pa N.length pc) N.length (wds N), Row 41 3 (.slice na N.length nc) N.length (wds N), Blk b13 #[.string ⟨bk.toArray⟩, .int .i64 bf, .int .i64 bt] 41, Blk b11 #[.string ⟨xk.toArray⟩, .int .i64 wf, .int .i64 wt] 41, Blk b9 #[.string ⟨bk.toArray⟩, .int .i64 bf, .int .i64 bt] 41, Blk bx #[.string ⟨xk.toArray⟩, .int .i64 xf, .int .i64 xt] 41])
                        refine plan_alone V10 rfl rfl ?_ ?_
                        · intro w1 h1
                          have kal := sess_all w1 (wds_own (h1.row 0 rfl) hfin.out) (by simp; omega)
                          rw [hall.out] at kal
                          go_simp
                          refine kal.mono ?_
                          rintro e w7 ⟨v', rfl, H7⟩
                          obtain ⟨qa, qc, rfl, _, _⟩ := slice_form' (H7.row 0 rfl)
                          have H8 : St (fun _ => False) w w7 [_, _, _, _, _, _, _, _, _] := h1.call0 H7
                          exact ⟨_, rfl, _, (hV10.out _ _).2 ⟨qa, qc, rfl, rfl⟩, H8.pick [0, 2, 3, 4, 5, 6, 7, 8]⟩
                        intro v I' hvI
                        obtain ⟨xa, xc, rfl, rfl⟩ := (hV10.out _ _).1 hvI
                        clear hvI
                        refine ⟨Fam fun w' => St (fun _ => False) w w' [Row 41 3 (.slice xa N.length xc) N.length (wds N), Row 41 3 (.slice ra N.length rc) N.length (wds N), Row 41 3 (.slice pa N.length pc) N.length (wds N), Row 41 3 (.slice na N.length nc) N.length (wds N), Blk b13 #[.string ⟨bk.toArray⟩, .int .i64 bf, .int .i64 bt] 41, Blk b11 #[.string ⟨xk.toArray⟩, .int .i64 wf, .int .i64 wt] 41, Blk b9 #[.string ⟨bk.toArray⟩, .int .i64 bf, .int .i64 bt] 41, Blk bx #[.string ⟨xk.toArray⟩, .int .i64 xf, .int .i64 xt] 41], Fam.mono (fun _ h => h.tail), Fam.st (fun _ h => h), ?_⟩
                        intro K hK
                        go_simp
                        refine hK _ ?_
                        clear hK K
                        as_aux_lemma =>
                          iterate 3 first
                            | (apply plan_pass
                               · rfl
                               · rfl
                               intro K hK
                               go_simp
                               refine hK _ ?_
                               clear hK K)
                            | (apply plan_step
                               · rfl
                               · rfl
                               · intro I hI w1 h1'
                                 have h1 := hI.2 _ h1'
                                 have n1 := ksame w1 _ _ (wds_own (h1.row 3 rfl) hN2h.out) (wds_own (h1.row 0 rfl) hN2h.out)
                                 first
                                   | (go_simp
                                      first
                                        | rfl
                                        | exact ⟨rfl, h1'⟩
                                        | (go_at_call 29; with_reducible exact Fam.call hI h1' n1)
                                     )
                               intro K hK
                               go_simp
                               refine hK _ ?_
                               clear hK K)
                          refine plan_nil ?_
                          intro w30 H30
                          go_wp2
                          go_ret
                          exact ⟨rfl, H30.below (Nat.le_refl _) (fun _ h => h.elim)⟩
end Go.Proofs.Ytoffcoegghigoaa
