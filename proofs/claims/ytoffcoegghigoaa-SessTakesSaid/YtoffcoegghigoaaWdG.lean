/- SessTakes: the walk. Condition: so many windows. -/
import Derived.Test.YtoffcoegghigoaaWdF
import Derived.Test.YtoffcoegghigoaaWdS
namespace Go.Proofs.Ytoffcoegghigoaa
open Go.RowKit

set_option maxHeartbeats 8000000 in
set_option maxRecDepth 100000 in
theorem sess_takes {v : Value} {l : List Wd} {x : Wd} (w : World) (hv : WdsRO w v l) (hl : l.length + 1 ≤ 4398046511104) (hx : x.fits) :
    Calls Try.prog 6 #[v, wdV x] w fun e w' => e = .returned (.bool true) ∧ Below w.heap.size w w' := by
  have kf := fun w' => first09 w'
  have kg := fun w' (hk : Kept (fun _ => False) w w') => wds_great w' (hv.later hk) (by omega)
  have krs := fun w' (hk : Kept (fun _ => False) w w') => ref_settled w' (hv.later hk) (by omega)
  have kss := fun w' (hk : Kept (fun _ => False) w w') => sess_settled w' (hv.later hk) (by omega)
  have krr := fun w' => ref_wright x hx w'
  have hlat := Lib.hid (fun w' (hk : Kept (fun _ => False) w w') => hv.later hk)
  have hcs0 := stl_true (l := l)
  obtain ⟨ao, cap, rfl, hcap, hfit, hic⟩ := hv
  have hich := Lib.hid hic
  have hfith := Lib.hid hfit
  have hxfh := Lib.hid hx
  obtain ⟨s, hs⟩ : ∃ s, stl l = s := ⟨_, rfl⟩
  obtain ⟨r, hr⟩ : ∃ r, x.right = r := ⟨_, rfl⟩
  simp only [hs] at kss krs
  rw [hr] at krr
  have hsh := Lib.hid hs
  have hrh := Lib.hid hr
  clear hs hr hic hfit hx hcs0
  obtain ⟨xk, xf, xt⟩ := x
  have H1 : St (fun _ => False) w _ [_] := (St.nil (fun _ => False) w).allocAt rfl #[.string ⟨xk.toArray⟩, .int .i64 xf, .int .i64 xt] 41
  unfold wdV wdC textV at krr
  simp only at krr
  unfold wdV wdC textV
  simp only
  go_enter Try.func6, Try.ntmps6
  go_upto_region 1 with (fail)
  obtain ⟨bx, hbx⟩ : ∃ b, w.heap.size = b := ⟨_, rfl⟩
  obtain ⟨w2, hw2⟩ : ∃ w2, w.alloc (.cells #[.string ⟨xk.toArray⟩, .int .i64 xf, .int .i64 xt] 41) = w2 := ⟨_, rfl⟩
  rw [hw2, hbx] at H1
  rw [hw2]
  try simp only [hbx]
  have H2 : St (fun _ => False) w w2 [Blk bx #[.string ⟨xk.toArray⟩, .int .i64 xf, .int .i64 xt] 41] := H1
  clear hbx hw2 H1
  go_upto_region 3 with (go_at_call 21; go_must (refine (St.callPast (kf _) H2).mono ?_; rintro e w3 ⟨rfl, H3⟩))
  clear H2 kf
  have d0 := H3.cell 0 0 rfl rfl
  have hsz : ((xk.toArray).size : Int) = xk.length := by simp
  obtain ⟨G, hG⟩ : ∃ G, decide (1200 < greatN l) = G := ⟨_, rfl⟩
  simp only [hG] at kg
  clear hG
  have hcs : G = true ∨ (G = false ∧ decide (60 < (xk.length : Int)) = true ∧ decide (60 < xk.length) = true) ∨ (G = false ∧ decide (60 < (xk.length : Int)) = false ∧ decide (60 < xk.length) = false) := by
    cases G
    · by_cases h : 60 < xk.length
      · exact .inr (.inl ⟨rfl, by simp; omega, by simp; omega⟩)
      · exact .inr (.inr ⟨rfl, by simp; omega, by simp; omega⟩)
    · exact .inl rfl
  rcases hcs with rfl | ⟨rfl, z1, z2⟩ | ⟨rfl, z1, z2⟩
  · go_wp2_with (go_at_call 22; go_must (refine (St.callPast (kg _ H3.kept) H3).mono ?_; rintro e w4 ⟨rfl, H4⟩))
    go_ret
    exact ⟨rfl, H4.below (Nat.le_refl _) (fun _ h => h.elim)⟩
  · go_wp2_with (go_at_call 22; go_must (refine (St.callPast (kg _ H3.kept) H3).mono ?_; rintro e w4 ⟨rfl, H4⟩; have d0 := H4.cell 0 0 rfl rfl))
    go_ret
    exact ⟨rfl, H4.below (Nat.le_refl _) (fun _ h => h.elim)⟩
  go_upto_block 1 with (go_at_call 22; go_must (refine (St.callPast (kg _ H3.kept) H3).mono ?_; rintro e w4 ⟨rfl, H4⟩; have d0 := H4.cell 0 0 rfl rfl))
  clear d0 H3 kg hsz
  go_loopw [27] (fun j wr => ∃ (i : Nat), i ≤ l.length ∧ j = .int .i64 i ∧ St (fun _ => False) w wr [Blk bx #[.string ⟨xk.toArray⟩, .int .i64 xf, .int .i64 xt] 41]) (fun j _ => l.length - (intOf j).toNat)
  case atStart => exact ⟨0, by omega, rfl, H4⟩
  case round =>
    clear H4
    obtain ⟨i, hi, rfl, HM⟩ := hrel
    by_cases hlt : i < l.length
    · obtain ⟨b, o, rfl, hb, hc⟩ := hich.out (by intro e; rw [e] at hlt; simp at hlt)
      obtain ⟨y, hy⟩ : ∃ y, l[i]? = some y := ⟨_, List.getElem?_eq_getElem hlt⟩
      have hyf := hfith.out y (List.mem_of_getElem? hy)
      obtain ⟨q0, q1, q2⟩ := wd_cells (hc i y hy) (HM.kept.block b hb id)
      have kj := fun w' => wd_joins y ⟨xk, xf, xt⟩ hyf hxfh.out w'
      have kj2 := fun w' => ref_joins y ⟨xk, xf, xt⟩ hyf hxfh.out w'
      obtain ⟨J, hJ⟩ : ∃ J, y.joins ⟨xk, xf, xt⟩ = J := ⟨_, rfl⟩
      rw [hJ] at kj kj2
      clear hJ hy hc hyf krs kss krr
      obtain ⟨yk, yf, yt⟩ := y
      unfold wdV wdC textV at kj kj2
      simp only at q0 q1 q2 kj kj2
      unfold textV at q0
      have HA : St (fun _ => False) w _ [_, _] := HM.allocAt rfl #[.string ⟨yk.toArray⟩, .int .i64 yf, .int .i64 yt] 41
      go_upto_region 8 with (fail)
      obtain ⟨wb, hwb⟩ : ∃ wb, wr.alloc (.cells #[.string ⟨yk.toArray⟩, .int .i64 yf, .int .i64 yt] 41) = wb := ⟨_, rfl⟩
      obtain ⟨yb, hyb⟩ : ∃ yb, wr.heap.size = yb := ⟨_, rfl⟩
      rw [hwb, hyb] at HA
      try rw [hwb]
      try simp only [hyb]
      have HA2 : St (fun _ => False) w wb [Blk yb #[.string ⟨yk.toArray⟩, .int .i64 yf, .int .i64 yt] 41, Blk bx #[.string ⟨xk.toArray⟩, .int .i64 xf, .int .i64 xt] 41] := HA
      clear hwb hyb q0 q1 q2 HM HA
      refine wp_calm (fun w' => St (fun _ => False) w w' [Blk yb #[.string ⟨yk.toArray⟩, .int .i64 yf, .int .i64 yt] 41, Blk bx #[.string ⟨xk.toArray⟩, .int .i64 xf, .int .i64 xt] 41]) (by kernel_rfl) (by kernel_rfl) (HA2.drew) ?_
      iterate 7 first
        | (apply calm_pass
           · rfl
           intro K hK
           go_simp
           refine hK _ ?_
           clear hK K)
        | (apply calm_step
           · rfl
           · intro w1 h1
             have d0 := h1.cell 0 0 rfl rfl
             have d1 := h1.cell 0 1 rfl rfl
             have d2 := h1.cell 0 2 rfl rfl
             have e0 := h1.cell 1 0 rfl rfl
             have e1 := h1.cell 1 1 rfl rfl
             have e2 := h1.cell 1 2 rfl rfl
             first
               | (go_simp
                  first
                    | rfl
                    | exact ⟨rfl, h1⟩
                    | (go_at_call 23; with_reducible exact St.callPast (kj w1) h1)
                    | (go_at_call 24; with_reducible exact St.callPast (kj2 w1) h1)
                 )
           intro K hK
           go_simp
           refine hK _ ?_
           clear hK K)
      refine calm_nil ?_
      intro w5 H5
      cases J
      all_goals
        go_wp2
        go_roundw
        case rel => exact ⟨i + 1, by omega, by go_num, H5.pick [1]⟩
        case measure => simp [intOf]; omega
    · obtain rfl : i = l.length := by omega
      clear hich z1 z2
      by_cases hno : (s && r) = false
      · have kt := fun w' hk => sess_take_no (x := ⟨xk, xf, xt⟩) w' (hlat.out w' hk) (by omega) hxfh.out (by rw [hsh.out, hrh.out]; exact hno)
        have ksame := fun w' v' (hk : Kept (fun _ => False) w w') hv' => wds_same (v1 := v') w' hv' (hlat.out w' hk) (by omega)
        unfold wdV wdC textV at kt
        simp only at kt
        have d0 := HM.cell 0 0 rfl rfl
        have d1 := HM.cell 0 1 rfl rfl
        have d2 := HM.cell 0 2 rfl rfl
        go_upto_region 13 with (first
          | (go_at_call 25; go_must (refine (St.callPast (krs _ HM.kept) HM).mono ?_; rintro e w5 ⟨rfl, H5⟩; have d0 := H5.cell 0 0 rfl rfl; have d1 := H5.cell 0 1 rfl rfl; have d2 := H5.cell 0 2 rfl rfl))
          | (go_at_call 26; go_must (refine (kt _ H5.kept).mono ?_; rintro e w6 ⟨v6, rfl, H6⟩; have H7 : St (fun _ => False) w w6 [_, _] := H5.call0 H6)))
        clear d0 d1 d2 HM H5 kt krs
        have H8 : St (fun _ => False) w _ [_, _, _] := H7.allocAt rfl #[.string ⟨#[]⟩, .int .i64 0, .int .i64 0] 41
        obtain ⟨wa, hwa⟩ : ∃ wa, w6.alloc (.cells #[.string ⟨#[]⟩, .int .i64 0, .int .i64 0] 41) = wa := ⟨_, rfl⟩
        obtain ⟨ba, hba⟩ : ∃ b, w6.heap.size = b := ⟨_, rfl⟩
        rw [hwa, hba] at H8
        try rw [hwa]
        try simp only [hba]
        have H9 : St (fun _ => False) w wa [Blk ba #[.string ⟨#[]⟩, .int .i64 0, .int .i64 0] 41, Row 41 3 v6 l.length (wds l), Blk bx #[.string ⟨xk.toArray⟩, .int .i64 xf, .int .i64 xt] 41] := H8
        clear hwa hba H8 H7 H6
        have hcs : s = false ∨ (s = true ∧ r = false) := by cases s <;> cases r <;> simp_all
        obtain ⟨va, vc, rfl, hvc, _⟩ := slice_form' (H9.row 1 rfl)
        rcases hcs with rfl | ⟨rfl, rfl⟩
        all_goals
          clear hno hsh hrh
          go_wp2_with (first
            | (go_at_call 27; refine (St.callPast (kss _ H9.kept) H9).mono ?_; rintro e w10 ⟨rfl, H9⟩; have e0 := H9.cell 2 0 rfl rfl; have e1 := H9.cell 2 1 rfl rfl; have e2 := H9.cell 2 2 rfl rfl)
            | (go_at_call 28; go_must (refine (St.callPast (krr _) H9).mono ?_; rintro e w11 ⟨rfl, H9⟩))
            | (go_at_call 29; go_must (refine (St.callPast (ksame _ _ H9.kept (wds_own (H9.row 1 rfl) hfith.out)) H9).mono ?_; rintro e w12 ⟨rfl, H9⟩; have c0 := H9.cell 0 0 rfl rfl; have c1 := H9.cell 0 1 rfl rfl; have c2 := H9.cell 0 2 rfl rfl)))
          go_ret
          exact ⟨rfl, H9.below (Nat.le_refl _) (fun _ h => h.elim)⟩
      · obtain ⟨rfl, rfl⟩ : s = true ∧ r = true := by cases s <;> cases r <;> simp_all
        have hst := stl_true.1 hsh.out
        have kt := fun w' hk => sess_take (x := ⟨xk, xf, xt⟩) w' (hlat.out w' hk) hl hxfh.out hsh.out hrh.out
        have kt2 := fun w' hk => ref_take (x := ⟨xk, xf, xt⟩) w' (hlat.out w' hk) hl hxfh.out hst hrh.out
        have hWf := Lib.hid (took_fits hfith.out hxfh.out).2
        have hGl : (takeF l ⟨xk, xf, xt⟩).gave.length ≤ l.length := by have := takeF_len l ⟨xk, xf, xt⟩; omega
        have hWl : (tookW l ⟨xk, xf, xt⟩).length ≤ l.length + 1 := by
          unfold tookW
          rw [insW_len]
          have : (outOf l ⟨xk, xf, xt⟩).length ≤ l.length := List.length_filter_le _ _
          omega
        obtain ⟨G, hG⟩ : ∃ G, (takeF l ⟨xk, xf, xt⟩).gave = G := ⟨_, rfl⟩
        obtain ⟨W, hW⟩ : ∃ G, tookW l ⟨xk, xf, xt⟩ = G := ⟨_, rfl⟩
        obtain ⟨B0, hB⟩ : ∃ G, becOf l ⟨xk, xf, xt⟩ = G := ⟨_, rfl⟩
        simp only [hG, hW, hB] at kt kt2
        rw [hG] at hGl
        rw [hW] at hWl hWf
        have ksame := fun w' v1 v2 hv1 hv2 => wds_same (v1 := v1) (v2 := v2) (l := W) w' hv1 hv2 (by omega)
        clear hG hW hB hno hsh hrh hlat hfith hxfh hst
        obtain ⟨bk, bf, bt⟩ := B0
        unfold wdV wdC textV at kt kt2
        simp only at kt kt2
        have d0 := HM.cell 0 0 rfl rfl
        have d1 := HM.cell 0 1 rfl rfl
        have d2 := HM.cell 0 2 rfl rfl
        go_upto_region 13 with (first
          | (go_at_call 25; go_must (refine (St.callPast (krs _ HM.kept) HM).mono ?_; rintro e w5 ⟨rfl, H5⟩; have d0 := H5.cell 0 0 rfl rfl; have d1 := H5.cell 0 1 rfl rfl; have d2 := H5.cell 0 2 rfl rfl))
          | (go_at_call 26; go_must (refine (kt _ H5.kept).mono ?_; rintro e w6 ⟨v6, g6, rfl, H6⟩; have H7 : St (fun _ => False) w w6 [_, _, _] := H5.call0 H6)))
        clear d0 d1 d2 HM H5 kt krs
        have H8 : St (fun _ => False) w _ [_, _, _, _] := H7.allocAt rfl #[.string ⟨bk.toArray⟩, .int .i64 bf, .int .i64 bt] 41
        obtain ⟨wa, hwa⟩ : ∃ wa, w6.alloc (.cells #[.string ⟨bk.toArray⟩, .int .i64 bf, .int .i64 bt] 41) = wa := ⟨_, rfl⟩
        obtain ⟨ba, hba⟩ : ∃ b, w6.heap.size = b := ⟨_, rfl⟩
        rw [hwa, hba] at H8
        try rw [hwa]
        try simp only [hba]
        have H9 : St (fun _ => False) w wa [Blk ba #[.string ⟨bk.toArray⟩, .int .i64 bf, .int .i64 bt] 41, Row 41 3 v6 W.length (wds W), Row 3 1 g6 G.length (intCells G), Blk bx #[.string ⟨xk.toArray⟩, .int .i64 xf, .int .i64 xt] 41] := H8
        clear hwa hba H8 H7 H6
        have d0 := H9.cell 3 0 rfl rfl
        have d1 := H9.cell 3 1 rfl rfl
        have d2 := H9.cell 3 2 rfl rfl
        go_upto_region 15 with (first
          | (go_at_call 27; refine (St.callPast (kss _ H9.kept) H9).mono ?_; rintro e w10 ⟨rfl, H10⟩; have d0 := H10.cell 3 0 rfl rfl; have d1 := H10.cell 3 1 rfl rfl; have d2 := H10.cell 3 2 rfl rfl)
          | (go_at_call 28; go_must (refine (St.callPast (krr _) H10).mono ?_; rintro e w11 ⟨rfl, H11⟩; have d0 := H11.cell 3 0 rfl rfl; have d1 := H11.cell 3 1 rfl rfl; have d2 := H11.cell 3 2 rfl rfl)))
        clear H9 H10 kss krr
        go_upto_region 16 with (go_at_call 30; go_must (refine (kt2 _ H11.kept).mono ?_; rintro e w12 ⟨v12, g12, rfl, H12⟩; have H13 : St (fun _ => False) w w12 [_, _, _, _, _, _] := H11.call0 H12))
        clear d0 d1 d2 H11 kt2
        have H14 : St (fun _ => False) w _ [_, _, _, _, _, _, _] := H13.allocAt rfl #[.string ⟨bk.toArray⟩, .int .i64 bf, .int .i64 bt] 41
        obtain ⟨wa2, hwa⟩ : ∃ wa, w12.alloc (.cells #[.string ⟨bk.toArray⟩, .int .i64 bf, .int .i64 bt] 41) = wa := ⟨_, rfl⟩
        obtain ⟨ba2, hba⟩ : ∃ b, w12.heap.size = b := ⟨_, rfl⟩
        rw [hwa, hba] at H14
        try rw [hwa]
        try simp only [hba]
        have H15 : St (fun _ => False) w wa2 [Blk ba2 #[.string ⟨bk.toArray⟩, .int .i64 bf, .int .i64 bt] 41, Row 41 3 v12 W.length (wds W), Row 3 1 g12 G.length (intCells G), Blk ba #[.string ⟨bk.toArray⟩, .int .i64 bf, .int .i64 bt] 41, Row 41 3 v6 W.length (wds W), Row 3 1 g6 G.length (intCells G), Blk bx #[.string ⟨xk.toArray⟩, .int .i64 xf, .int .i64 xt] 41] := H14
        clear hwa hba H14 H13 H12
        obtain ⟨va, vc, rfl, hvc, _⟩ := slice_form' (H15.row 4 rfl)
        obtain ⟨va2, vc2, rfl, hvc2, _⟩ := slice_form' (H15.row 1 rfl)
        obtain ⟨ga, gc, rfl, hgc, hga⟩ := slice_form' (H15.row 5 rfl)
        obtain ⟨ga2, gc2, rfl, hgc2, hga2⟩ := slice_form' (H15.row 2 rfl)
        have hz : ((G.length : Int) == (G.length : Int)) = true := by simp
        go_upto_block 3 with (go_at_call 29; go_must (refine (St.callPast (ksame _ _ _ (wds_own (H15.row 4 rfl) hWf.out) (wds_own (H15.row 1 rfl) hWf.out)) H15).mono ?_; rintro e w16 ⟨rfl, H16⟩; have c0 := H16.cell 0 0 rfl rfl; have c1 := H16.cell 0 1 rfl rfl; have c2 := H16.cell 0 2 rfl rfl; have e0 := H16.cell 3 0 rfl rfl; have e1 := H16.cell 3 1 rfl rfl; have e2 := H16.cell 3 2 rfl rfl))
        have H17 : St (fun _ => False) w w16 [Row 3 1 (.slice ga G.length gc) G.length (intCells G), Row 3 1 (.slice ga2 G.length gc2) G.length (intCells G)] := H16.pick [5, 2]
        clear H15 H16 c0 c1 c2 e0 e1 e2 ksame
        go_loopw [14, 105] (fun _ j wr => ∃ (i : Nat), i ≤ G.length ∧ j = .int .i64 i ∧ St (fun _ => False) w wr [Row 3 1 (.slice ga G.length gc) G.length (intCells G), Row 3 1 (.slice ga2 G.length gc2) G.length (intCells G)]) (fun _ j _ => G.length - (intOf j).toNat)
        case atStart => exact ⟨0, by omega, rfl, H17⟩
        case round =>
          clear H17
          obtain ⟨i, hi, rfl, HM⟩ := hrel
          by_cases hlt : i < G.length
          · obtain ⟨g1, rfl⟩ := hga (by omega)
            obtain ⟨g2, rfl⟩ := hga2 (by omega)
            obtain ⟨y, hy⟩ : ∃ y, G[i]? = some y := ⟨_, List.getElem?_eq_getElem hlt⟩
            have hy2 : (intCells G)[i]? = some (.int .i64 y) := by simp [intCells, hy]
            clear hy
            go_upto_region 21 with (fail)
            refine wp_calm (fun w' => St (fun _ => False) w w' [Row 3 1 (.slice (some ⟨g1, 0, none⟩) G.length gc) G.length (intCells G), Row 3 1 (.slice (some ⟨g2, 0, none⟩) G.length gc2) G.length (intCells G)]) (by kernel_rfl) (by kernel_rfl) (HM.drew) ?_
            iterate 9 first
              | (apply calm_pass
                 · rfl
                 intro K hK
                 go_simp
                 refine hK _ ?_
                 clear hK K)
              | (apply calm_step
                 · rfl
                 · intro w1 h1
                   have q0 := own_cell (h1.row 0 rfl) hy2
                   have q1 := own_cell (h1.row 1 rfl) hy2
                   first
                     | (go_simp
                        first
                          | rfl
                          | exact ⟨rfl, h1⟩
                       )
                 intro K hK
                 go_simp
                 refine hK _ ?_
                 clear hK K)
            refine calm_nil ?_
            intro w5 H5
            go_wp2
            go_roundw
            case rel => exact ⟨i + 1, by omega, by go_num, H5⟩
            case measure => simp [intOf]; omega
          · obtain rfl : i = G.length := by omega
            go_wp2
            go_ret
            exact ⟨rfl, HM.below (Nat.le_refl _) (fun _ h => h.elim)⟩
end Go.Proofs.Ytoffcoegghigoaa
