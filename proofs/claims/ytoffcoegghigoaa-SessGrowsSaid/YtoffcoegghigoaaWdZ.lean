/- The document's All of windows: the walk. Condition: so many windows. -/
import Derived.Test.YtoffcoegghigoaaWdY
namespace Go.Proofs.Ytoffcoegghigoaa
open Go.RowKit

def bN : Value → Nat | .bool true => 1 | _ => 0
def lenV : Value → Nat | .slice _ n _ => n | _ => 0
theorem free_next {O : List Wd} {i k : Nat} {x y : Wd} (h : Free O i k) (hx : O[i]? = some x) (hy : O[k]? = some y) (hj : x.joins y = false) : Free O i (k + 1) := by
  intro a b z u hab hc hz hu
  by_cases e : a = i ∧ b = k
  · obtain ⟨rfl, rfl⟩ := e
    rw [hx] at hz
    rw [hy] at hu
    obtain rfl := Option.some.inj hz
    obtain rfl := Option.some.inj hu
    exact hj
  · exact h a b z u hab (by omega) hz hu
theorem free_row {O : List Wd} {i : Nat} (h : Free O i O.length) : Free O (i + 1) 0 := by
  intro a b z u hab hc hz hu
  refine h a b z u hab ?_ hz hu
  have := (List.getElem?_eq_some_iff.1 hu).1
  omega
theorem free_first {O : List Wd} {i : Nat} (h : Free O i 0) : Free O i (i + 1) := fun a b z u hab hc hz hu => h a b z u hab (by omega) hz hu

set_option maxHeartbeats 8000000 in
set_option maxRecDepth 100000 in
theorem ref_all {v : Value} {l : List Wd} (w : World) (hv : WdsRO w v l) (hl : l.length + 1 ≤ 4398046511104) :
    Calls Try.prog 32 #[v] w fun e w' => ∃ v', e = .returned v' ∧ St (fun _ => False) w w' [Row 41 3 v' (allM l).length (wds (allM l))] := by
  obtain ⟨ao, cap0, rfl, hcap, hfit, hic⟩ := hv
  have hich := Lib.hid hic
  have hfith := Lib.hid hfit
  clear hfit hic
  go_enter Try.func32, Try.ntmps32
  have H4 : St (fun _ => False) w w [Row 41 3 (.slice none 0 0) 0 (wds [])] := (St.nil _ w).row_nil 41 3
  go_upto_block 1 with (fail)
  go_loopw [3, 11] (fun u j wr => ∃ (i : Nat) (M : List Wd), i ≤ l.length ∧ j = .int .i64 i ∧ Hid (M = (l.take i).filter Wd.right) ∧ M.length ≤ i ∧ St (fun _ => False) w wr [Row 41 3 u M.length (wds M)]) (fun _ j _ => l.length - (intOf j).toNat)
  case atStart => exact ⟨0, [], by omega, rfl, Lib.hid rfl, Nat.le_refl _, H4⟩
  case round =>
    clear H4
    obtain ⟨i, M, hi, rfl, hM, hMl, HM⟩ := hrel
    by_cases hil : i < l.length
    · obtain ⟨b, o, rfl, hb, hc⟩ := hich.out (by intro e; rw [e] at hil; simp at hil)
      obtain ⟨x, hx⟩ : ∃ x, l[i]? = some x := ⟨_, List.getElem?_eq_getElem hil⟩
      obtain ⟨q0, q1, q2⟩ := wd_cells (hc i x hx) (HM.kept.block b hb id)
      have hxf := hfith.out x (List.mem_of_getElem? hx)
      have kr := fun w' => ref_wright x hxf w'
      obtain ⟨r, hr⟩ : ∃ r, x.right = r := ⟨_, rfl⟩
      have hn := Lib.hid (show (l.take (i + 1)).filter Wd.right = if r = true then M ++ [x] else M by rw [take_snoc' hx, List.filter_append, ← hM.out, ← hr]; cases hxx : x.right <;> simp [hxx])
      rw [hr] at kr
      clear hx hc hM hr hxf
      obtain ⟨xk, xf, xt⟩ := x
      unfold wdV wdC textV at kr
      simp only at q0 q1 q2 kr
      unfold textV at q0
      have HA : St (fun _ => False) w _ [_, _] := HM.allocAt rfl #[.string ⟨xk.toArray⟩, .int .i64 xf, .int .i64 xt] 41
      go_upto_region 5 with (fail)
      obtain ⟨wb, hwb⟩ : ∃ wb, wr.alloc (.cells #[.string ⟨xk.toArray⟩, .int .i64 xf, .int .i64 xt] 41) = wb := ⟨_, rfl⟩
      obtain ⟨xb, hxb⟩ : ∃ xb, wr.heap.size = xb := ⟨_, rfl⟩
      rw [hwb, hxb] at HA
      try rw [hwb]
      try simp only [hxb]
      have HA2 : St (fun _ => False) w wb [Blk xb #[.string ⟨xk.toArray⟩, .int .i64 xf, .int .i64 xt] 41, Row 41 3 u3 M.length (wds M)] := HA
      clear hwb hxb q0 q1 q2 HM HA
      have d0 := HA2.cell 0 0 rfl rfl
      have d1 := HA2.cell 0 1 rfl rfl
      have d2 := HA2.cell 0 2 rfl rfl
      cases r with
      | false =>
        go_wp2_with (go_at_call 28; go_must (refine (St.callPast (kr _) HA2).mono ?_; rintro e w3 ⟨rfl, H3⟩))
        go_roundw
        case rel => exact ⟨i + 1, M, by omega, by go_num, Lib.hid (by rw [hn.out]; simp), by omega, H3.pick [1]⟩
        case measure => simp [intOf]; omega
      | true =>
        go_wp2_with (first
          | (go_at_call 28; go_must (refine (St.callPast (kr _) HA2).mono ?_; rintro e w3 ⟨rfl, H3⟩; have d0 := H3.cell 0 0 rfl rfl; have d1 := H3.cell 0 1 rfl rfl; have d2 := H3.cell 0 2 rfl rfl))
          | (at_builtin; go_must (refine St.list_app (H3.skip _) 1 rfl rfl (.tmp 17) (.tmp 19) 39 rfl Try.underlying39 Try.info41 (by decide) rfl [.string ⟨xk.toArray⟩, .int .i64 xf, .int .i64 xt] rfl rfl (new_cells #[.string ⟨xk.toArray⟩, .int .i64 xf, .int .i64 xt] _) (by simp [Value.oneCell']) (by omega) (by omega) ?_; intro g5 cap5 w6 H6 hz6)))
        go_roundw
        case rel =>
          refine ⟨i + 1, M ++ [⟨xk, xf, xt⟩], by omega, by go_num, Lib.hid (by rw [hn.out]; simp), by simp; omega, ?_⟩
          have H7 : St (fun _ => False) w w6 [_, _] := H6
          rw [wds_app, wds_one, List.length_append]
          exact H7.pick [1]
        case measure => simp [intOf]; omega
    · obtain rfl : i = l.length := by omega
      rw [List.take_length] at hM
      have hok := Lib.hid (show OkW l M by rw [hM.out]; exact ok_start hfith.out)
      clear hM hMl hich hil
      go_upto_block 3 with (fail)
      go_loopw [3, 6, 7, 8] (fun u _ _ _ wr => ∃ O, Hid (OkW l O) ∧ St (fun _ => False) w wr [Row 41 3 u O.length (wds O)]) (fun u _ _ _ _ => lenV u)
      case atStart => exact ⟨M, hok, HM⟩
      case round =>
        clear HM hok
        obtain ⟨O0, hok, HM⟩ := hrel
        obtain ⟨ua, uc, rfl, huc, hua⟩ := slice_form' (HM.row 0 rfl)
        have hOl := hok.out.2.2
        obtain ⟨n0, hn0⟩ : ∃ n, O0.length = n := ⟨_, rfl⟩
        rw [hn0] at HM hOl hua huc ⊢
        have hn0h := Lib.hid hn0
        clear hn0
        go_upto_block 5 with (fail)
        go_loopw [3, 6, 7, 8] (fun u d i _ wr => ∃ (dd : Bool) (ii : Nat) (O : List Wd), d = .bool dd ∧ i = .int .i64 ii ∧ Hid (OkW l O) ∧ ii ≤ n0 + 1 ∧ Hid (dd = true → u = .slice ua n0 uc ∧ O = O0 ∧ Free O0 ii 0) ∧ Hid (dd = false → O.length + 1 = n0) ∧ St (fun _ => False) w wr [Row 41 3 u O.length (wds O)]) (fun _ d i _ _ => bN d * (n0 + 2 - (intOf i).toNat))
        case atStart => exact ⟨true, 0, O0, rfl, rfl, hok, by omega, Lib.hid (fun _ => ⟨rfl, rfl, fun a b z u hab hc => by omega⟩), Lib.hid (by simp), by rw [hn0h.out]; exact HM⟩
        case round =>
          clear HM
          obtain ⟨dd, ii, O, rfl, rfl, hok', hii, hT, hF, HM⟩ := hrel
          cases dd with
          | false =>
            obtain ⟨va, vc, rfl, _, _⟩ := slice_form' (HM.row 0 rfl)
            have hlt := hF.out rfl
            go_wp2
            go_roundw
            case rel => exact ⟨O, hok', HM⟩
            case measure => simp [lenV]; omega
          | true =>
            obtain ⟨rfl, rfl, hfr⟩ := hT.out rfl
            have hfrh := Lib.hid hfr
            rw [hn0h.out] at HM
            clear hfr hT hF hok'
            by_cases hin : ii < n0
            · as_aux_lemma =>
                obtain ⟨g, rfl⟩ := hua (by omega)
                have z0 : (ii : Int) < (n0 : Int) := by omega
                go_upto_block 7 with (fail)
                go_loopw [3, 6, 8] (fun u d k wr => ∃ (dd : Bool) (kk : Nat) (O1 : List Wd), d = .bool dd ∧ k = .int .i64 kk ∧ Hid (OkW l O1) ∧ ii < kk ∧ kk ≤ n0 + 1 ∧ Hid (dd = true → u = .slice (some ⟨g, 0, none⟩) n0 uc ∧ O1 = O ∧ Free O ii kk ∧ kk ≤ n0) ∧ Hid (dd = false → O1.length + 1 = n0) ∧ St (fun _ => False) w wr [Row 41 3 u O1.length (wds O1)]) (fun _ d k _ => bN d * (n0 + 2 - (intOf k).toNat))
                case atStart => exact ⟨true, ii + 1, O, rfl, by go_num, hok, by omega, by omega, Lib.hid (fun _ => ⟨rfl, rfl, free_first hfrh.out, by omega⟩), Lib.hid (by simp), by rw [hn0h.out]; exact HM⟩
                case round =>
                  clear HM hfrh
                  obtain ⟨dd, kk, O1, rfl, rfl, hok1, hik, hkk, hT, hF, HM⟩ := hrel
                  cases dd with
                  | false =>
                    obtain ⟨va, vc, rfl, _, _⟩ := slice_form' (HM.row 0 rfl)
                    go_wp2
                    go_roundw
                    case rel => exact ⟨false, ii + 1, O1, rfl, by go_num, hok1, by omega, Lib.hid (by simp), hF, HM⟩
                    case measure => simp [bN, intOf]; omega
                  | true =>
                    obtain ⟨rfl, rfl, hfr2, hkn⟩ := hT.out rfl
                    have hfrh := Lib.hid hfr2
                    rw [hn0h.out] at HM
                    clear hfr2 hT hF hok1
                    by_cases hkl : kk < n0
                    · as_aux_lemma =>
                        obtain ⟨x, hx⟩ : ∃ x, O1[ii]? = some x := ⟨_, List.getElem?_eq_getElem (by rw [hn0h.out]; exact hin)⟩
                        obtain ⟨y, hy⟩ : ∃ x, O1[kk]? = some x := ⟨_, List.getElem?_eq_getElem (by rw [hn0h.out]; exact hkl)⟩
                        have hxf := (hok.out.1 x (List.mem_of_getElem? hx)).2
                        have hyf := (hok.out.1 y (List.mem_of_getElem? hy)).2
                        have kj := fun w' => ref_joins x y hxf hyf w'
                        have z1 : (kk : Int) < (n0 : Int) := by omega
                        obtain ⟨J, hJ⟩ : ∃ J, x.joins y = J := ⟨_, rfl⟩
                        rw [hJ] at kj
                        have hfree : Hid (J = false → Free O1 ii (kk + 1)) := Lib.hid (fun h => free_next hfrh.out hx hy (by rw [hJ, h]))
                        have hmrg : Hid (J = true → OkW l (mrg O1 ii kk (grow x y)) ∧ (mrg O1 ii kk (grow x y)).length + 1 = n0) := Lib.hid (fun h => ⟨mrg_ok hok.out hik hx hy (by rw [hJ, h]), by rw [mrg_len (by rw [hn0h.out]; exact hkl), hn0h.out]⟩)
                        have hxh := Lib.hid hx
                        have hyh := Lib.hid hy
                        clear hJ hxf hyf hfrh
                        obtain ⟨xk, xf, xt⟩ := x
                        obtain ⟨yk, yf, yt⟩ := y
                        unfold wdV wdC textV at kj
                        simp only at kj
                        go_upto_region 15 with (fail)
                        refine wp_calm (fun w' => St (fun _ => False) w w' [Row 41 3 (.slice (some ⟨g, 0, none⟩) n0 uc) n0 (wds O1)]) (by kernel_rfl) (by kernel_rfl) (HM.drew) ?_
                        iterate 9 first
                          | (apply calm_pass
                             · rfl
                             intro K hK
                             go_simp
                             refine hK _ ?_
                             clear hK K)
                          | (apply calm_step
                             · rfl
                             · intro w1 h1
                               obtain ⟨q0, q1, q2⟩ := row_wds (h1.row 0 rfl) hxh.out
                               obtain ⟨p0, p1, p2⟩ := row_wds (h1.row 0 rfl) hyh.out
                               simp only at q0 q1 q2 p0 p1 p2
                               unfold textV at q0 p0
                               first
                                 | (go_simp
                                    first
                                      | rfl
                                      | exact ⟨rfl, h1⟩
                                      | (go_at_call 24; with_reducible exact St.callPast (kj w1) h1)
                                   )
                             intro K hK
                             go_simp
                             refine hK _ ?_
                             clear hK K)
                        refine calm_nil ?_
                        intro w5 H5
                        clear kj HM
                        cases J with
                        | false =>
                          go_wp2
                          go_roundw
                          case rel => exact ⟨true, kk + 1, O1, rfl, by go_num, hok, by omega, by omega, Lib.hid (fun _ => ⟨rfl, rfl, hfree.out rfl, by omega⟩), Lib.hid (by simp), by rw [hn0h.out]; exact H5⟩
                          case measure => simp [bN, intOf]; omega
                        | true =>
                          obtain ⟨hokm, hml⟩ := hmrg.out rfl
                          have hokm := Lib.hid hokm
                          have hmlh := Lib.hid hml
                          clear hfree hmrg hml
                          obtain ⟨g', cap', R, hv, hnc, hcm, hxl, hcs, HB⟩ := H5.row_blk 0 rfl (by omega)
                          obtain ⟨rfl, rfl⟩ : g = g' ∧ uc = cap' := by injection hv with h1 _ h2; injection h1 with h1; injection h1 with h1; exact ⟨h1, h2⟩
                          have HB : St (fun _ => False) w w5 [Blk g (wds O1 ++ R).toArray 41] := HB
                          clear hv H5
                          have hne : kk ≠ ii := by omega
                          obtain ⟨m1, hm1⟩ : ∃ m, min xf yf = m := ⟨_, rfl⟩
                          obtain ⟨m2, hm2⟩ : ∃ m, max xt yt = m := ⟨_, rfl⟩
                          have hm1h := Lib.hid hm1
                          have hm2h := Lib.hid hm2
                          clear hm1 hm2
                          go_upto_region 16 with (fail)
                          as_aux_lemma =>
                            obtain ⟨_, c1, c2⟩ := blk_wds (HB.blk 0 rfl) hxh.out
                            obtain ⟨_, e1, e2⟩ := blk_wds (HB.blk 0 rfl) hyh.out
                            simp only at c1 c2 e1 e2
                            have f1 := HB.free 0 (ii * 3 + 1) rfl
                            have H6 := (HB.set 0 rfl (ii * 3 + 1) (.int .i64 (min xf yf))).drew
                            go_region
                            obtain ⟨wc, hwc⟩ : ∃ wz, (w5.setCell ⟨g, ii * 3 + 1, none⟩ (.int .i64 (min xf yf))).drew = wz := ⟨_, rfl⟩
                            rw [hwc] at H6
                            try rw [hwc]
                            obtain ⟨O2, hO2⟩ : ∃ O2, O1.set ii ⟨xk, m1, xt⟩ = O2 := ⟨_, rfl⟩
                            have hx2 : O2[ii]? = some ⟨xk, m1, xt⟩ := by rw [← hO2, List.getElem?_set_self (by rw [hn0h.out]; exact hin)]
                            have hy2 : O2[kk]? = some ⟨yk, yf, yt⟩ := by rw [← hO2, List.getElem?_set_ne (Ne.symm hne)]; exact hyh.out
                            have hl2 : O2.length = n0 := by rw [← hO2, List.length_set, hn0h.out]
                            have H7 : St (fun _ => False) w wc [Blk g (wds O2 ++ R).toArray 41] := by
                              have := (wds_cell (R := R) hxh.out).1 m1
                              simp only at this
                              rw [← hO2, ← this, ← hm1h.out]
                              exact H6
                            have hl1 := wds_len O1
                            have hl3 := wds_len O2
                            rw [hn0h.out] at hl1
                            rw [hl2] at hl3
                            have hcs2 : (wds O2 ++ R).length = uc * 3 := by rw [← hcs, List.length_append, List.length_append, hl1, hl3]
                            have hO2h := Lib.hid hO2
                            clear hwc H6 HB c1 c2 e1 e2 f1 hO2 hl1 hl3 hxl hcs
                            go_upto_region 17 with (fail)
                            obtain ⟨_, c1, c2⟩ := blk_wds (H7.blk 0 rfl) hx2
                            obtain ⟨_, e1, e2⟩ := blk_wds (H7.blk 0 rfl) hy2
                            simp only at c1 c2 e1 e2
                            have f1 := H7.free 0 (ii * 3 + 2) rfl
                            have H8 := (H7.set 0 rfl (ii * 3 + 2) (.int .i64 (max xt yt))).drew
                            go_region
                            obtain ⟨wd, hwd⟩ : ∃ wz, (wc.setCell ⟨g, ii * 3 + 2, none⟩ (.int .i64 (max xt yt))).drew = wz := ⟨_, rfl⟩
                            rw [hwd] at H8
                            try rw [hwd]
                            obtain ⟨O3, hO3⟩ : ∃ O3, O2.set ii ⟨xk, m1, m2⟩ = O3 := ⟨_, rfl⟩
                            have hl4 : O3.length = n0 := by rw [← hO3, List.length_set, hl2]
                            have hmg : mrg O1 ii kk (grow ⟨xk, xf, xt⟩ ⟨yk, yf, yt⟩) = O3.take kk ++ O3.drop (kk + 1) := by
                              unfold mrg
                              simp only [grow]
                              rw [hm1h.out, hm2h.out, ← hO3, ← hO2h.out, List.set_set]
                            have H9 : St (fun _ => False) w wd [Blk g (wds O3 ++ R).toArray 41] := by
                              have := (wds_cell (R := R) hx2).2 m2
                              simp only at this
                              rw [← hO3, ← this, ← hm2h.out]
                              exact H8
                            have hl3 := wds_len O2
                            have hl5 := wds_len O3
                            rw [hl2] at hl3
                            rw [hl4] at hl5
                            have hcs3 : (wds O3 ++ R).length = uc * 3 := by rw [← hcs2, List.length_append, List.length_append, hl5, hl3]
                            have H10 : St (fun _ => False) w wd [Row 41 3 (.slice (some ⟨g, 0, none⟩) n0 uc) n0 (wds O3)] := H9.blk_row 0 (e := 41) (size := 3) (cap := uc) (n := n0) (xs := wds O3) rfl hnc hcm hcs3 (by rw [List.take_append_of_le_length (by omega), List.take_of_length_le (by omega)])
                            have hokM := Lib.hid (show OkW l (O3.take kk ++ O3.drop (kk + 1)) ∧ (O3.take kk ++ O3.drop (kk + 1)).length + 1 = n0 by rw [← hmg]; exact ⟨hokm.out, hmlh.out⟩)
                            clear hwd H8 H7 H9 c1 c2 e1 e2 f1 hO3 hmg hokm hmlh hl3 hl5 hcs2 hcs3 hO2h hx2 hy2 hl2 hxh hyh hm1h hm2h hcm
                            go_upto_region 18 with (fail)
                            as_aux_lemma =>
                              obtain ⟨k1, hk1⟩ : ∃ k1, kk + 1 = k1 := ⟨_, rfl⟩
                              rw [hk1] at hokM
                              have hw : IntKind.i64.wrap ((kk : Int) + 1) = (k1 : Int) := by rw [IntKind.wrap_i64]; omega
                              have a1 : (kk : Int) ≤ (uc : Int) := by omega
                              have a1' : kk ≤ uc := by omega
                              have a2 : (k1 : Int) ≤ (n0 : Int) := by omega
                              have a2' : k1 ≤ n0 := by omega
                              have a3 : (k1 : Int) ≤ (uc : Int) := by omega
                              have a3' : k1 ≤ uc := by omega
                              have a4 : (n0 : Int) ≤ (uc : Int) := by omega
                              have hlP : (wds (O3.take kk)).length = kk * 3 := by rw [wds_len, List.length_take]; omega
                              have hlQ : (wds (O3.drop k1)).length = (n0 - k1) * 3 := by rw [wds_len, List.length_drop]; omega
                              have hcutP := Lib.hid (show O3 = O3.take kk ++ O3.drop kk by rw [List.take_append_drop])
                              have hcutQ := Lib.hid (show O3 = O3.take k1 ++ O3.drop k1 by rw [List.take_append_drop])
                              have hPl : (O3.take kk).length = kk := by rw [List.length_take]; omega
                              have hQl : (O3.take k1).length = k1 := by rw [List.length_take]; omega
                              have hPlh := Lib.hid hPl
                              have hQlh := Lib.hid hQl
                              obtain ⟨n2, hn2⟩ : ∃ n2, kk + (n0 - k1) = n2 := ⟨_, rfl⟩
                              have hMl : (O3.take kk ++ O3.drop k1).length = n2 := by have := hokM.out.2; omega
                              have hMlh := Lib.hid hMl
                              have hwc := Lib.hid (show wds (O3.take kk ++ O3.drop k1) = wds (O3.take kk) ++ wds (O3.drop k1) from wds_app _ _)
                              clear hPl hQl hMl
                              obtain ⟨M2, hM2⟩ : ∃ M2, O3.take kk ++ O3.drop k1 = M2 := ⟨_, rfl⟩
                              rw [hM2] at hokM hMlh hwc
                              clear hM2
                              have hcc : uc = k1 ∨ ¬ uc = k1 := by omega
                              rcases hcc with hcc | hcc
                              · subst hcc
                                as_aux_lemma =>
                                  refine wp_script [(1, false), (2, false), (3, false), (5, false), (6, false), (7, false), (8, false), (0, true), (4, true), (9, true), (10, false)] (Fam fun w' => St (fun _ => False) w w' [Row 41 3 (.slice (some ⟨g, 0, none⟩) n0 uc) n0 (wds O3)]) (fun w' => St (fun _ => False) w w' [Row 41 3 (.slice (some ⟨g, 0, none⟩) n0 uc) n0 (wds O3)]) (by kernel_rfl) (by rfl) (by kernel_rfl) (by kernel_rfl) H10.drew (Fam.st (fun _ h => h)) ?_
                                  iterate 7 first
                                    | (apply script_pass
                                       · rfl
                                       · rfl
                                       intro K hK
                                       go_simp
                                       refine hK _ ?_
                                       clear hK K)
                                    | (apply script_step
                                       · rfl
                                       · rfl
                                       · intro I hI w1 h1'
                                         have h1 := hI.2 _ h1'
                                         first
                                           | (go_simp
                                              first
                                                | rfl
                                                | exact ⟨rfl, h1'⟩
                                             )
                                       intro K hK
                                       go_simp
                                       refine hK _ ?_
                                       clear hK K)
                                  obtain ⟨V1, hV1⟩ := hide_rel (fun v I' => ∃ ge, v = .slice (some ⟨ge, 0, none⟩) 0 0 ∧ I' = fun w' => St (fun _ => False) w w' [Row 41 3 (.slice (some ⟨ge, 0, none⟩) 0 0) 0 (wds []), Row 41 3 (.slice (some ⟨g, 0, none⟩) n0 uc) n0 (wds O3)])
                                  refine script_big V1 rfl rfl ?_ ?_
                                  · intro w1 h1
                                    go_simp
                                    exact ⟨_, (hV1.out _ _).2 ⟨_, rfl, rfl⟩, (h1.alloc #[] 41).blk_row 0 (e := 41) (size := 3) (cap := 0) (n := 0) (cs := []) (xs := wds []) rfl (Nat.le_refl _) (Nat.zero_le _) rfl rfl⟩
                                  intro v I' hvI
                                  obtain ⟨ge, rfl, rfl⟩ := (hV1.out _ _).1 hvI
                                  clear hvI hV1
                                  refine ⟨_, fun _ h => h, Fam.st (fun _ h => h.tail), ?_⟩
                                  intro K hK
                                  go_simp
                                  refine hK _ ?_
                                  clear hK K
                                  obtain ⟨V2, hV2⟩ := hide_rel (fun v I' => ∃ pa pc, v = .slice pa kk pc ∧ I' = fun w' => St (fun _ => False) w w' [Row 41 3 (.slice pa kk pc) kk (wds (O3.take kk)), Row 41 3 (.slice (some ⟨g, 0, none⟩) n0 uc) n0 (wds O3)])
                                  refine script_big V2 rfl rfl ?_ ?_
                                  · intro w1 h1
                                    refine h1.came_append 0 rfl (.tmp 81) (.tmp 84) 39 rfl Try.underlying39 Try.info41 (by decide) rfl (wds (O3.take kk)) rfl hlP (by intro h; cases h) (by intro ad h jj u hu; cases h; have h0 := (row_partW (h1.row 1 rfl) hcutP.out hPlh.out).1 jj u hu; rw [Addr.add_lit, Nat.zero_add]; exact h0) (wds_one1 _) (by omega) ?_
                                    intro v' w' H7
                                    rw [Nat.zero_add] at H7
                                    obtain ⟨qa, qc, rfl, _, _⟩ := slice_form' (H7.row 0 rfl)
                                    exact ⟨_, (hV2.out _ _).2 ⟨qa, qc, rfl, rfl⟩, H7⟩
                                  intro v I' hvI
                                  obtain ⟨pa, pc, rfl, rfl⟩ := (hV2.out _ _).1 hvI
                                  clear hvI hV2
                                  refine ⟨_, fun _ h => h, Fam.st (fun _ h => h.tail), ?_⟩
                                  intro K hK
                                  go_simp
                                  refine hK _ ?_
                                  clear hK K
                                  obtain ⟨V3, hV3⟩ := hide_rel (fun v I' => ∃ pa pc, v = .slice pa n2 pc ∧ I' = fun w' => St (fun _ => False) w w' [Row 41 3 (.slice pa n2 pc) n2 (wds M2), Row 41 3 (.slice (some ⟨g, 0, none⟩) n0 uc) n0 (wds O3)])
                                  refine script_big V3 rfl rfl ?_ ?_
                                  · intro w1 h1
                                    refine h1.came_append 0 rfl (.tmp 85) (.tmp 89) 39 rfl Try.underlying39 Try.info41 (by decide) rfl [] rfl rfl (by intro h; first | rfl | cases h) (by intro ad h jj u hu; simp at hu) (by simp) (by omega) ?_
                                    intro v' w' H7
                                    have e0 : kk + 0 = n2 := by omega
                                    have e1 : wds (O3.take kk) ++ [] = wds M2 := by rw [hwc.out, List.eq_nil_of_length_eq_zero (l := wds (O3.drop uc)) (by omega)]
                                    rw [e0, e1] at H7
                                    obtain ⟨qa, qc, rfl, _, _⟩ := slice_form' (H7.row 0 rfl)
                                    exact ⟨_, (hV3.out _ _).2 ⟨qa, qc, rfl, rfl⟩, H7⟩
                                  intro v I' hvI
                                  obtain ⟨pa2, pc2, rfl, rfl⟩ := (hV3.out _ _).1 hvI
                                  clear hvI hV3
                                  refine ⟨_, fun _ h => h, Fam.st (fun _ h => h.tail), ?_⟩
                                  intro K hK
                                  go_simp
                                  refine hK _ ?_
                                  clear hK K
                                  iterate 1 first
                                    | (apply script_pass
                                       · rfl
                                       · rfl
                                       intro K hK
                                       go_simp
                                       refine hK _ ?_
                                       clear hK K)
                                    | (apply script_step
                                       · rfl
                                       · rfl
                                       · intro I hI w1 h1'
                                         have h1 := hI.2 _ h1'
                                         first
                                           | (go_simp
                                              first
                                                | rfl
                                                | exact ⟨rfl, h1'⟩
                                             )
                                       intro K hK
                                       go_simp
                                       refine hK _ ?_
                                       clear hK K)
                                  refine script_nil ?_
                                  intro w30 H30
                                  go_wp2
                                  go_roundw
                                  case rel => exact ⟨false, uc, M2, rfl, by go_num, Lib.hid hokM.out.1, by omega, by omega, Lib.hid (by simp), Lib.hid (fun _ => hokM.out.2), by rw [hMlh.out]; exact H30.pick [0]⟩
                                  case measure => simp [bN, intOf]; omega
                              · as_aux_lemma =>
                                  refine wp_script [(1, false), (2, false), (3, false), (5, false), (6, false), (7, false), (8, false), (0, true), (4, true), (9, true), (10, false)] (Fam fun w' => St (fun _ => False) w w' [Row 41 3 (.slice (some ⟨g, 0, none⟩) n0 uc) n0 (wds O3)]) (fun w' => St (fun _ => False) w w' [Row 41 3 (.slice (some ⟨g, 0, none⟩) n0 uc) n0 (wds O3)]) (by kernel_rfl) (by rfl) (by kernel_rfl) (by kernel_rfl) H10.drew (Fam.st (fun _ h => h)) ?_
                                  iterate 7 first
                                    | (apply script_pass
                                       · rfl
                                       · rfl
                                       intro K hK
                                       go_simp
                                       refine hK _ ?_
                                       clear hK K)
                                    | (apply script_step
                                       · rfl
                                       · rfl
                                       · intro I hI w1 h1'
                                         have h1 := hI.2 _ h1'
                                         first
                                           | (go_simp
                                              first
                                                | rfl
                                                | exact ⟨rfl, h1'⟩
                                             )
                                       intro K hK
                                       go_simp
                                       refine hK _ ?_
                                       clear hK K)
                                  obtain ⟨V1, hV1⟩ := hide_rel (fun v I' => ∃ ge, v = .slice (some ⟨ge, 0, none⟩) 0 0 ∧ I' = fun w' => St (fun _ => False) w w' [Row 41 3 (.slice (some ⟨ge, 0, none⟩) 0 0) 0 (wds []), Row 41 3 (.slice (some ⟨g, 0, none⟩) n0 uc) n0 (wds O3)])
                                  refine script_big V1 rfl rfl ?_ ?_
                                  · intro w1 h1
                                    go_simp
                                    exact ⟨_, (hV1.out _ _).2 ⟨_, rfl, rfl⟩, (h1.alloc #[] 41).blk_row 0 (e := 41) (size := 3) (cap := 0) (n := 0) (cs := []) (xs := wds []) rfl (Nat.le_refl _) (Nat.zero_le _) rfl rfl⟩
                                  intro v I' hvI
                                  obtain ⟨ge, rfl, rfl⟩ := (hV1.out _ _).1 hvI
                                  clear hvI hV1
                                  refine ⟨_, fun _ h => h, Fam.st (fun _ h => h.tail), ?_⟩
                                  intro K hK
                                  go_simp
                                  refine hK _ ?_
                                  clear hK K
                                  obtain ⟨V2, hV2⟩ := hide_rel (fun v I' => ∃ pa pc, v = .slice pa kk pc ∧ I' = fun w' => St (fun _ => False) w w' [Row 41 3 (.slice pa kk pc) kk (wds (O3.take kk)), Row 41 3 (.slice (some ⟨g, 0, none⟩) n0 uc) n0 (wds O3)])
                                  refine script_big V2 rfl rfl ?_ ?_
                                  · intro w1 h1
                                    refine h1.came_append 0 rfl (.tmp 81) (.tmp 84) 39 rfl Try.underlying39 Try.info41 (by decide) rfl (wds (O3.take kk)) rfl hlP (by intro h; cases h) (by intro ad h jj u hu; cases h; have h0 := (row_partW (h1.row 1 rfl) hcutP.out hPlh.out).1 jj u hu; rw [Addr.add_lit, Nat.zero_add]; exact h0) (wds_one1 _) (by omega) ?_
                                    intro v' w' H7
                                    rw [Nat.zero_add] at H7
                                    obtain ⟨qa, qc, rfl, _, _⟩ := slice_form' (H7.row 0 rfl)
                                    exact ⟨_, (hV2.out _ _).2 ⟨qa, qc, rfl, rfl⟩, H7⟩
                                  intro v I' hvI
                                  obtain ⟨pa, pc, rfl, rfl⟩ := (hV2.out _ _).1 hvI
                                  clear hvI hV2
                                  refine ⟨_, fun _ h => h, Fam.st (fun _ h => h.tail), ?_⟩
                                  intro K hK
                                  go_simp
                                  refine hK _ ?_
                                  clear hK K
                                  obtain ⟨V3, hV3⟩ := hide_rel (fun v I' => ∃ pa pc, v = .slice pa n2 pc ∧ I' = fun w' => St (fun _ => False) w w' [Row 41 3 (.slice pa n2 pc) n2 (wds M2), Row 41 3 (.slice (some ⟨g, 0, none⟩) n0 uc) n0 (wds O3)])
                                  refine script_big V3 rfl rfl ?_ ?_
                                  · intro w1 h1
                                    refine h1.came_append 0 rfl (.tmp 85) (.tmp 89) 39 rfl Try.underlying39 Try.info41 (by decide) rfl (wds (O3.drop k1)) rfl hlQ (by first | (intro h; cases h; done) | (intro _; omega)) (by first | (intro ad h jj u hu; have hlt := (List.getElem?_eq_some_iff.1 hu).1; omega) | (intro ad h jj u hu; cases h; have h0 := (row_partW (h1.row 1 rfl) hcutQ.out hQlh.out).2 jj u hu; rw [Addr.add_mid]; exact h0)) (wds_one1 _) (by omega) ?_
                                    intro v' w' H7
                                    rw [hn2, ← hwc.out] at H7
                                    obtain ⟨qa, qc, rfl, _, _⟩ := slice_form' (H7.row 0 rfl)
                                    exact ⟨_, (hV3.out _ _).2 ⟨qa, qc, rfl, rfl⟩, H7⟩
                                  intro v I' hvI
                                  obtain ⟨pa2, pc2, rfl, rfl⟩ := (hV3.out _ _).1 hvI
                                  clear hvI hV3
                                  refine ⟨_, fun _ h => h, Fam.st (fun _ h => h.tail), ?_⟩
                                  intro K hK
                                  go_simp
                                  refine hK _ ?_
                                  clear hK K
                                  iterate 1 first
                                    | (apply script_pass
                                       · rfl
                                       · rfl
                                       intro K hK
                                       go_simp
                                       refine hK _ ?_
                                       clear hK K)
                                    | (apply script_step
                                       · rfl
                                       · rfl
                                       · intro I hI w1 h1'
                                         have h1 := hI.2 _ h1'
                                         first
                                           | (go_simp
                                              first
                                                | rfl
                                                | exact ⟨rfl, h1'⟩
                                             )
                                       intro K hK
                                       go_simp
                                       refine hK _ ?_
                                       clear hK K)
                                  refine script_nil ?_
                                  intro w30 H30
                                  go_wp2
                                  go_roundw
                                  case rel => exact ⟨false, k1, M2, rfl, by go_num, Lib.hid hokM.out.1, by omega, by omega, Lib.hid (by simp), Lib.hid (fun _ => hokM.out.2), by rw [hMlh.out]; exact H30.pick [0]⟩
                                  case measure => simp [bN, intOf]; omega
                    · obtain rfl : kk = n0 := by omega
                      go_wp2
                      go_roundw
                      case rel => exact ⟨true, ii + 1, O1, rfl, by go_num, hok, by omega, Lib.hid (fun _ => ⟨rfl, rfl, free_row (by rw [hn0h.out]; exact hfrh.out)⟩), Lib.hid (by simp), by rw [hn0h.out]; exact HM⟩
                      case measure => simp [bN, intOf]; omega
            · have hpw := free_all hfrh.out (by rw [hn0h.out]; omega)
              have hall := srt_all hfith.out (fun x hx => (hok.out.1 x hx).1) hpw hok.out.2.1
              have hlen : (allM l).length = n0 := by rw [← hall, List.length_reverse, srtP_len, hn0h.out]
              have ks := ref_wsorted (v := .slice ua n0 uc) (l := O) wr (by have := wds_own (HM.row 0 rfl) (fun x hx => (hok.out.1 x hx).2); exact this) (by rw [hn0h.out]; omega)
              rw [hall, hn0h.out] at ks
              have hlenh := Lib.hid hlen
              clear hall hpw hlen
              go_wp2_with (go_at_call 63; go_must (refine ks.mono ?_; rintro e w5 ⟨v5, rfl, H5⟩))
              go_ret
              rw [hlenh.out]
              exact ⟨_, rfl, (HM.call0 H5).take (l1 := [_])⟩
end Go.Proofs.Ytoffcoegghigoaa
