import Derived.Test.YtiglgfonhdfpmaaGreatOr13
/- The stepper's mark. Conditions: the state is right. (Printed by a program of mine.) -/
set_option linter.unusedVariables false
set_option linter.unusedSimpArgs false
set_option maxHeartbeats 16000000
set_option maxRecDepth 100000
namespace Go.Proofs.YtiglgfonhdfpmaaGreat
open Go.RowKit
theorem Tryz.info198 : (Tryz.prog.info? 198).map (fun i => (i.zero, i.size, i.bytes)) = some (some (.pointer none), 1, 8) := by kernel_rfl
theorem ptrs_app (g : Nat) (a b : List Nat) : ptrs g (a ++ b) = ptrs g a ++ ptrs g b := by unfold ptrs; rw [List.map_append]
theorem nowI_len (m : Int) (ms : List Pm) (n : Nat) : (nowI m ms n).length ≤ n := by
 unfold nowI; have := List.length_filter_le (nowAt m ms) (List.range n)
 rwa [List.length_range] at this
theorem mark_no {t : Nat} {q : Qry} {mk at1 : Int} {l : List Pn} {o : List Ot} {w : World} {S : Nat → Prop} (hle : at1 ≤ mk) (H0 : Sep w [Stp t q mk l o] S) :
    Calls Tryz.prog 72 #[.pointer (some ⟨t, 0, none⟩), .int .i64 at1] w fun e w' => e = .returned (.tuple #[]) ∧ St S w w' [Stp t q mk l o] := by
 obtain ⟨pv, ov, ms, os, H, hml, hol, hmo, hoo, H1⟩ := Stp.open (St.refl H0); have hmlh := zH hml; have holh := zH hol; have hmoh := zH hmo; have hooh := zH hoo; clear hml hol hmo hoo H0; have H2 : St S w _ (_ :: _) := H1.allocAt rfl #[.pointer (some ⟨t, 0, none⟩)] 135; have H3 : St S w _ (_ :: _) := H2.allocAt (B := w.heap.size + 1) (Array.size_push _) #[.int .i64 at1] 3; obtain ⟨b2, hb2⟩ := zNm w.heap.size; obtain ⟨b3, hb3⟩ := zNm (b2 + 1); obtain ⟨w1, hw1⟩ := zNm ((w.alloc (.cells #[.pointer (some ⟨t, 0, none⟩)] 135)).alloc (.cells #[.int .i64 at1] 3))
 go_enter Tryz.func72, Tryz.ntmps72
 go_upto_region 1 with (fail)
 rw [hw1, hb2, hb3] at H3; (try rw [hw1]); (try simp only [hb2, hb3]); have H4 : St S w w1 [zboP b3 at1, zbhP b2 t, Blk t (stC q mk pv ov) 137, zbgP (encP.all ms) pv ms.length, zsP (encO.all os) ov os.length, Pool H] := H3; have hb2h := zH hb2; clear hw1 hb2 hb3 H1 H2 H3; refine wp_calm (fun w' => St S w w' [zboP b3 at1, zbhP b2 t, Blk t (stC q mk pv ov) 137, zbgP (encP.all ms) pv ms.length, zsP (encO.all os) ov os.length, Pool H]) (by kernel_rfl) (by kernel_rfl) (H4.drew) ?_
 iterate 7 first | (apply calm_pass; rfl; intro K hK; go_simp; refine hK _ ?_; clear hK K) | (apply calm_step; rfl; (focus (intro w1 h1; have c0 := h1.cell 0 0 rfl rfl; have c1 := h1.cell 1 0 rfl rfl; have c6 := h1.cell 2 6 rfl rfl; first | (go_simp; first | rfl | exact ⟨rfl, h1⟩))); intro K hK; go_simp; refine hK _ ?_; clear hK K)
 refine calm_nil ?_; intro w2 H5; go_wp2; refine bodyPost_ret (results_none rfl _ _ _) rfl ?_; exact ⟨rfl, Stp.mk' hmlh.out holh.out hmoh.out hooh.out (H5.pick [2, 3, 4, 5])⟩
abbrev zzP (a0) (a1) (a2) (a3) := (Row 68 8 (.slice (some ⟨a1, 0, none⟩) a2 a3) a2 a0 : SP)
theorem mark_yes {t : Nat} {q : Qry} {mk at1 : Int} {l : List Pn} {o : List Ot} {w : World} {S : Nat → Prop} (hle : ¬ at1 ≤ mk) (hs : Stt.right q ⟨mk, l⟩ = true) (hol : o.length ≤ 1073741000) (hne : l ≠ []) (H0 : Sep w [Stp t q mk l o] S) :
    Calls Tryz.prog 72 #[.pointer (some ⟨t, 0, none⟩), .int .i64 at1] w fun e w' => e = .returned (.tuple #[]) ∧ St S w w' [Stp t q at1 ((l.map (Pn.fire at1)).filter fun p => !p.w.gone q at1) (o ++ (sortC (l.filter (Pn.now at1))).map (fireO q))] := by
 obtain ⟨hq, hmk, hlen, hall, hord, -⟩ := right_parts hs; simp only at hmk hlen hall hord; have hokp := fun p hp => ok_parts (hall p hp)
 obtain ⟨pv, ov, ms, os, H, rfl, rfl, hmo, hoo, H1⟩ := Stp.open (St.refl H0); clear H0 hs hall; rw [List.length_map] at hlen hol; have hms : ms ≠ [] := fun e => hne (by rw [e]; rfl)
 have hml : ms.length ≠ 0 := fun h => hms (List.eq_nil_of_length_eq_zero h)
 obtain ⟨g, cap, R, rfl, hnc, hcm, hxl, hcs, HB⟩ := H1.row_blk 1 rfl hml; have HB : St S w w [Blk t (stC q mk (.slice (some ⟨g, 0, none⟩) ms.length cap) ov) 137, Blk g (encP.all ms ++ R).toArray 68, zsP (encO.all os) ov os.length, Pool H] := HB; have kr := zH (fun (m : Pm) (hm : m ∈ ms) w' => wd_ripe m.p.w (fits_right (hokp m.p (List.mem_map.2 ⟨m, hm, rfl⟩)).2.1) at1 w')
 have hgr := zH (fun (m : Pm) (hm : m ∈ ms) => (hokp m.p (List.mem_map.2 ⟨m, hm, rfl⟩)).2.2.2.2.1)
 have hrd := zH (fun (m : Pm) (hm : m ∈ ms) => (hokp m.p (List.mem_map.2 ⟨m, hm, rfl⟩)).2.2.2.1)
 have hwf := zH (fun (m : Pm) (hm : m ∈ ms) => fits_right (hokp m.p (List.mem_map.2 ⟨m, hm, rfl⟩)).2.1)
 have hordh := zH hord; have hmoh := zH hmo; have hooh := zH hoo; have hcsh := zH hcs; clear hokp hord hmo hoo hne hms H1 hcs hxl hq; have H2 : St S w _ (_ :: _) := HB.allocAt rfl #[.pointer (some ⟨t, 0, none⟩)] 135; have H3 : St S w _ (_ :: _) := H2.allocAt (B := w.heap.size + 1) (Array.size_push _) #[.int .i64 at1] 3; obtain ⟨b2, hb2⟩ := zNm w.heap.size; obtain ⟨b3, hb3⟩ := zNm (b2 + 1); obtain ⟨w1, hw1⟩ := zNm ((w.alloc (.cells #[.pointer (some ⟨t, 0, none⟩)] 135)).alloc (.cells #[.int .i64 at1] 3))
 go_enter Tryz.func72, Tryz.ntmps72
 go_upto_region 1 with (fail)
 rw [hw1, hb2, hb3] at H3; (try rw [hw1]); (try simp only [hb2, hb3]); have H4 : St S w w1 [zboP b3 at1, zbhP b2 t, Blk t (stC q mk (.slice (some ⟨g, 0, none⟩) ms.length cap) ov) 137, Blk g (encP.all ms ++ R).toArray 68, zsP (encO.all os) ov os.length, Pool H] := H3; have hb2h := zH hb2; clear hw1 hb2 hb3 HB H2 H3; refine wp_calm (fun w' => St S w w' [zboP b3 at1, zbhP b2 t, Blk t (stC q mk (.slice (some ⟨g, 0, none⟩) ms.length cap) ov) 137, Blk g (encP.all ms ++ R).toArray 68, zsP (encO.all os) ov os.length, Pool H]) (by kernel_rfl) (by kernel_rfl) (H4.drew) ?_
 iterate 7 first | (apply calm_pass; rfl; intro K hK; go_simp; refine hK _ ?_; clear hK K) | (apply calm_step; rfl; (focus (intro w1 h1; have c0 := h1.cell 0 0 rfl rfl; have c1 := h1.cell 1 0 rfl rfl; have c6 := h1.cell 2 6 rfl rfl; first | (go_simp; first | rfl | exact ⟨rfl, h1⟩))); intro K hK; go_simp; refine hK _ ?_; clear hK K)
 refine calm_nil ?_; intro w2 H5; clear H4; have c0 := H5.cell 0 0 rfl rfl; have c1 := H5.cell 1 0 rfl rfl; have c6 := H5.cell 2 6 rfl rfl; have f6 := H5.free 2 6 rfl; have H6 := H5.set 2 rfl 6 (.int .i64 at1); go_upto_region 3 with (fail)
 obtain ⟨w3, hw3⟩ := zNm (w2.setCell ⟨t, 6, none⟩ (.int .i64 at1)); rw [hw3] at H6; (try rw [hw3]); clear hw3 c0 c1 c6 f6 H5; have H7 : St S w w3 [Row 198 1 (.slice none 0 0) 0 (ptrs g []), zboP b3 at1, zbhP b2 t, Blk t (stC q at1 (.slice (some ⟨g, 0, none⟩) ms.length cap) ov) 137, Blk g (encP.all ms ++ R).toArray 68, zsP (encO.all os) ov os.length, Pool H] := H6.row_nil 198 1; clear H6; have c1 := H7.cell 2 0 rfl rfl; have c7 := H7.cell 3 7 rfl rfl
 go_upto_block 1 with (fail)
 clear c1 c7
 go_loopw [4, 5, 6, 27] (fun u _ _ j wr => ∃ (i : Nat), i ≤ ms.length ∧ j = .int .i64 i ∧ Hid (nowI at1 ms i = [] → u = .slice none 0 0) ∧ St S w wr [Row 198 1 u (nowI at1 ms i).length (ptrs g (nowI at1 ms i)), zboP b3 at1, zbhP b2 t, Blk t (stC q at1 (.slice (some ⟨g, 0, none⟩) ms.length cap) ov) 137, Blk g (encP.all ms ++ R).toArray 68, zsP (encO.all os) ov os.length, Pool H]) (fun _ _ _ j _ => ms.length - (intOf j).toNat)
 case atStart => exact ⟨0, by omega, rfl, zH (fun _ => rfl), H7⟩
 case round =>
  clear H7; obtain ⟨i, hi, rfl, hnil, HM⟩ := hrel; have hnl := nowI_len at1 ms i
  by_cases hlt : i < ms.length
  · obtain ⟨m, hm⟩ : ∃ m, ms[i]? = some m := ⟨_, List.getElem?_eq_getElem hlt⟩; have krm := kr.out m (List.mem_of_getElem? hm); have hno : nowAt at1 ms i = (decide (m.p.round = 0) && m.p.w.ripe at1) := by unfold nowAt; rw [hm]; rfl
    have hsucc := nowI_succ at1 ms i; obtain ⟨rp, hrp⟩ := zNm (m.p.w.ripe at1); rw [hrp] at hno; simp only [hrp] at krm; have hmh := zH hm; have hnoh := zH hno; have hsucch := zH hsucc; have hi2 : (i : Int) < (ms.length : Int) := by omega
    clear hm hrp hno hsucc; obtain ⟨⟨⟨xk, xf, xt⟩, ⟨gn, ga, gt, gx, gy⟩, xr⟩, xa, xc⟩ := m; unfold wdV wdC textV at krm; simp only at krm hnoh; have c1 := HM.cell 2 0 rfl rfl; have c7 := HM.cell 3 7 rfl rfl; go_upto_region 8 with (fail)
    clear c1 c7
    have hcc : (¬ xr = 0) ∨ (xr = 0 ∧ rp = false) ∨ (xr = 0 ∧ rp = true) := by
     by_cases h : xr = 0
     · cases rp
       · exact .inr (.inl ⟨h, rfl⟩)
       · exact .inr (.inr ⟨h, rfl⟩)
     · exact .inl h
    rcases hcc with hx0 | ⟨hx0, rfl⟩ | ⟨hx0, rfl⟩
    case' inl => have hx0' : (xr == 0) = false := by simpa using hx0
    case' inr.inl => subst hx0
    case' inr.inr => subst hx0
    all_goals
     refine wp_calm (fun w' => St S w w' [Row 198 1 u4 (nowI at1 ms i).length (ptrs g (nowI at1 ms i)), zboP b3 at1, zbhP b2 t, Blk t (stC q at1 (.slice (some ⟨g, 0, none⟩) ms.length cap) ov) 137, Blk g (encP.all ms ++ R).toArray 68, zsP (encO.all os) ov os.length, Pool H]) (by kernel_rfl) (by kernel_rfl) (HM.drew) ?_
     iterate 13 first | (apply calm_pass; rfl; intro K hK; go_simp; refine hK _ ?_; clear hK K) | (apply calm_step; rfl; (focus (intro w1 h1; obtain ⟨p0, p1, p2, p3, p4, p5, p6, p7⟩ := pn_blk (h1.blk 4 rfl) hmh.out; unfold textV at p0; simp only at p0 p1 p2 p7; have d0 := h1.cell 1 0 rfl rfl; first | (go_simp; first | rfl | exact ⟨rfl, h1⟩ | (go_at_call 129; with_reducible exact St.callPast (krm w1) h1)))); intro K hK; go_simp; refine hK _ ?_; clear hK K)
     refine calm_nil ?_; intro w5 H5
    case inl =>
     have hn : nowAt at1 ms i = false := by rw [hnoh.out, decide_eq_false hx0]; rfl
     have hs1 := hsucch.out; rw [hn, if_neg (by simp), List.append_nil] at hs1
     have hs1h := zH hs1; clear hn hs1; go_wp2; go_roundw
     case rel => exact ⟨i + 1, by omega, by go_num, zH (by rw [hs1h.out]; exact hnil.out), by rw [hs1h.out]; exact H5⟩
     case measure => simp [intOf]; omega
    case inr.inl =>
     have hn : nowAt at1 ms i = false := by rw [hnoh.out]; rfl
     have hs1 := hsucch.out; rw [hn, if_neg (by simp), List.append_nil] at hs1
     have hs1h := zH hs1; clear hn hs1; go_wp2; go_roundw
     case rel => exact ⟨i + 1, by omega, by go_num, zH (by rw [hs1h.out]; exact hnil.out), by rw [hs1h.out]; exact H5⟩
     case measure => simp [intOf]; omega
    case inr.inr =>
     have hn : nowAt at1 ms i = true := by rw [hnoh.out]; rfl
     have hs1 := hsucch.out; rw [hn, if_pos rfl] at hs1; have hs1h := zH hs1; clear hn hs1
     go_wp2_with (at_builtin; go_must (refine St.list_app (H5.skip _) 0 rfl rfl (.tmp 50) (.tmp 52) 197 rfl Tryz.underlying197 Tryz.info198 (by decide) rfl [.pointer (some ⟨g, i * 8, none⟩)] rfl rfl (new_cells #[.pointer (some ⟨g, i * 8, none⟩)] _) (by simp [Value.oneCell']) (by omega) (by omega) ?_; intro g5 cap5 w6 H6 hz6))
     go_roundw
     case rel =>
      refine ⟨i + 1, by omega, by go_num, zH (by rw [hs1h.out]; intro h; simp at h), ?_⟩
      rw [hs1h.out, ptrs_app, List.length_append, List.length_singleton]; exact H6
     case measure => simp [intOf]; omega
  · obtain rfl : i = ms.length := by omega
    clear hlt
    have ksort : Calls Tryz.prog 130 #[u4, .func (.func 131) #[] #[]] wr fun e w' => ∃ idx', e = .returned (.tuple #[]) ∧ idx'.Perm (nowI at1 ms ms.length) ∧ (idx'.Pairwise fun a b => ∀ x y, ms[a]? = some x → ms[b]? = some y → ¬ y.p.w.cmp x.p.w < 0) ∧
        St S w w' [Row 198 1 u4 (nowI at1 ms ms.length).length (ptrs g idx'), zboP b3 at1, zbhP b2 t, Blk t (stC q at1 (.slice (some ⟨g, 0, none⟩) ms.length cap) ov) 137, Blk g (encP.all ms ++ R).toArray 68, zsP (encO.all os) ov os.length, Pool H] := by
     by_cases he : nowI at1 ms ms.length = []
     · rw [hnil.out he]; refine (sort_nil wr _).mono ?_; rintro e w' ⟨rfl, rfl⟩; refine ⟨[], rfl, by rw [he], List.Pairwise.nil, ?_⟩
       rw [hnil.out he, he] at HM; rw [he]; exact HM
     · obtain ⟨ao, cp, rfl, hcp, hao⟩ := slice_form' (HM.row 0 rfl); have hl0 : (nowI at1 ms ms.length).length ≠ 0 := fun h => he (List.eq_nil_of_length_eq_zero h)
       obtain ⟨rb, rfl⟩ := hao hl0; refine (pns_sort (HM.pick [0, 4, 1, 2, 3, 5, 6]) hl0 (by omega) (fun j hj => (nowI_mem.1 hj).1)).mono ?_
       rintro e w' ⟨idx', rfl, h1, h2, h3⟩; exact ⟨idx', rfl, h1, h2, h3.pick [0, 2, 3, 4, 1, 5, 6]⟩
    obtain ⟨ua, uc, hu4, huc, hua⟩ := slice_form' (HM.row 0 rfl); have hndp := nowI_nodup at1 ms ms.length; obtain ⟨I0, hI0⟩ := zNm (nowI at1 ms ms.length); rw [hI0] at ksort hnl hndp hu4 huc hua; obtain ⟨N, hN⟩ := zNm I0.length; rw [hN] at ksort hnl hu4 huc hua; have hI0h := zH hI0; have hNh := zH hN; have huah := zH hua; have hndph := zH hndp; subst hu4; clear hI0 hN hua hndp hnil HM
    go_upto_block 3 with (go_at_call 130; go_must (refine ksort.mono ?_; rintro e w6 ⟨idx, rfl, hperm, hsrt, H6⟩))
    clear ksort; have hil : idx.length = N := by rw [hperm.length_eq]; exact hNh.out
    have hnd : idx.Nodup := hperm.nodup_iff.2 hndph.out; have hilh := zH hil; have hndh := zH hnd; have hpermh := zH hperm; have hsrth := zH hsrt; clear hil hnd hperm hsrt
    go_loopw [8, 59] (fun _ jj wr => ∃ (j : Nat) (cur : List Pm) (os2 : List Om) (ov2 : Value) (HH : List (Value × List Int)), j ≤ N ∧ jj = .int .i64 j ∧ Hid (FiredAt ms cur (idx.take j)) ∧ Hid (os2.map (·.o) = os.map (·.o) ++ (panesAt ms (idx.take j)).map (fireO q)) ∧ Hid (∀ m ∈ cur, Pm.own m ∈ HH) ∧ Hid (∀ y ∈ os2, Om.own y ∈ HH) ∧ os2.length ≤ os.length + j ∧ St S w wr [Row 198 1 (.slice ua N uc) N (ptrs g idx), zboP b3 at1, zbhP b2 t, Blk t (stC q at1 (.slice (some ⟨g, 0, none⟩) ms.length cap) ov2) 137, Blk g (encP.all cur ++ R).toArray 68, zsP (encO.all os2) ov2 os2.length, Pool HH]) (fun _ jj _ => N - (intOf jj).toNat)
    case atStart => exact ⟨0, ms, os, ov, H, by omega, rfl, zH (fired_nil ms), zH (by simp [panesAt]), hmoh, hooh, by omega, H6⟩
    case round =>
     clear H6; obtain ⟨j, cur, os2, ov2, HH, hj, rfl, hfired, hosm, hmo2, hoo2, hol2, HM⟩ := hrel
     by_cases hlt : j < N
     · obtain ⟨k, hk⟩ : ∃ k, idx[j]? = some k := ⟨_, List.getElem?_eq_getElem (by have := hilh.out; omega)⟩
       obtain ⟨rb, rfl⟩ := huah.out (by omega)
       have hkm := List.mem_of_getElem? hk; have hkn : k ∈ nowI at1 ms ms.length := by rw [hI0h.out]; exact hpermh.out.mem_iff.1 hkm
       obtain ⟨hkl, hkno⟩ := nowI_mem.1 hkn; obtain ⟨m, hm⟩ : ∃ m, ms[k]? = some m := ⟨_, List.getElem?_eq_getElem hkl⟩; have hmm := List.mem_of_getElem? hm
       have hr0 : m.p.round = 0 := by
        unfold nowAt at hkno; rw [hm] at hkno; unfold Pn.now at hkno; simp only [Bool.and_eq_true, decide_eq_true_eq] at hkno; exact hkno.1
       have htk := take_snoc' hk
       have hnotin : k ∉ idx.take j := fun h => by
        have hnd2 := hndh.out; rw [← List.take_append_drop j idx, drop_cons_of hk] at hnd2; have := (List.nodup_append.1 hnd2).2.2; exact this k h k (List.mem_cons_self) rfl
       obtain ⟨hcur, hnext⟩ := fired_snoc hfired.out hnotin hm
       have hpan : panesAt ms (idx.take (j + 1)) = panesAt ms (idx.take j) ++ [m.p] := by
        rw [htk]; unfold panesAt; rw [List.filterMap_append]
        congr 1
        have : atP ms k = some m.p := by unfold atP; rw [hm]; rfl
        simp [this]
       rw [← htk] at hnext; have hcell : wr.cell? ⟨rb, j, none⟩ = some (.pointer (some ⟨g, k * 8, none⟩)) := own_cell (HM.row 0 rfl) (by unfold ptrs; rw [List.getElem?_map, hk]; rfl)
       have HF : St S w wr [Blk t (stC q at1 (.slice (some ⟨g, 0, none⟩) ms.length cap) ov2) 137, Blk g (encP.all cur ++ R).toArray 68, zsP (encO.all os2) ov2 os2.length, Pool HH, Row 198 1 (.slice (some ⟨rb, 0, none⟩) N uc) N (ptrs g idx), zboP b3 at1, zbhP b2 t] := HM.pick [3, 4, 5, 6, 0, 1, 2]; obtain ⟨S1, K1, G1⟩ := St.call (l1 := [_, _, _, _]) (l2 := [_, _, _]) HF; have kf := step_fire (i := k) (m := m) hcur (hgr.out m hmm) (hrd.out m hmm) (hmo2.out m (List.mem_of_getElem? hcur)) (by omega) K1
       have c1 := HM.cell 2 0 rfl rfl; have hj2 : (j : Int) < (N : Int) := by omega
       have hnexth := zH hnext; have hpanh := zH hpan; have hr0h := zH hr0; have hcurh := zH hcur; clear hk hkm hkn hkl hkno hm htk hnotin hcur hnext hpan hr0 HM HF K1
       go_wp2_with (go_at_call 133; go_must (refine kf.mono ?_; rintro e w7 ⟨ov3, ad3, cap3, rfl, H7⟩))
       go_roundw
       case rel =>
        have H8 := G1 _ _ H7; refine ⟨j + 1, cur.set k (fire1 m), os2 ++ [⟨⟨false, itm00, m.p.w, m.p.round + 1, valueM q m.p.g⟩, ad3, cap3⟩], ov3, (.slice ad3 (valueM q m.p.g).length cap3, valueM q m.p.g) :: HH, by omega, by go_num, zH hnexth.out, zH ?_, zH (mem_set_own hmo2.out k (List.mem_cons_of_mem _ (hmo2.out m (List.mem_of_getElem? hcurh.out))) (fun y hy => List.mem_cons_of_mem _ hy)), zH (fun y hy => ?_), by rw [List.length_append, List.length_singleton]; omega, ?_⟩
        · rw [hpanh.out, List.map_append, List.map_append, hosm.out, hr0h.out, List.append_assoc]
          rfl
        · rcases List.mem_append.1 hy with hy | hy
          · exact List.mem_cons_of_mem _ (hoo2.out y hy)
          · rw [List.mem_singleton.1 hy]; exact List.mem_cons_self
        · rw [List.length_append, List.length_singleton]; exact H8.pick [4, 5, 6, 0, 1, 2, 3]
       case measure => simp [intOf]; omega
     · obtain rfl : j = N := by omega
       clear hlt; have hidl : idx.take j = idx := List.take_of_length_le (by rw [hilh.out]; exact Nat.le_refl _)
       have hfr := hfired.out; have hom := hosm.out; rw [hidl] at hfr hom; have hpn : idx.Perm (nowI at1 ms ms.length) := by rw [hI0h.out]; exact hpermh.out
       have hall := fired_all hfr hpn
       have hsr2 : idx.Pairwise fun a b => ∀ x y, ms[a]? = some x → ms[b]? = some y → ¬ y.p.w.cmp x.p.w < 0 := by
        rw [List.pairwise_iff_getElem]; intro a b ha hb hab x y hx hy; have := List.pairwise_iff_getElem.1 hsrth.out a b ha hb hab x y hx hy
        omega
       rw [fire_order hordh.out hpn hsr2] at hom; have hcl := hfr.1
       have hcw : ∀ m ∈ cur, m.p.w.fits := fun m hm => by
        obtain ⟨k, hk⟩ := List.getElem?_of_mem hm; have h2 := hfr.2 k; rw [hk] at h2
        split at h2
        · obtain ⟨m0, hm0, he⟩ := Option.map_eq_some_iff.1 h2.symm; rw [← he]; exact hwf.out m0 (List.mem_of_getElem? hm0)
        · exact hwf.out m (List.mem_of_getElem? h2.symm)
       have HR : St S w wr [Row 198 1 (.slice ua j uc) j (ptrs g idx), zboP b3 at1, zbhP b2 t, Blk t (stC q at1 (.slice (some ⟨g, 0, none⟩) ms.length cap) ov2) 137, zzP (encP.all cur) g ms.length cap, zsP (encO.all os2) ov2 os2.length, Pool HH] := by
        have h := HM.blk_row 4 (e := 68) (size := 8) (cap := cap) (n := ms.length) (xs := encP.all cur) rfl hnc hcm (by
         have h3 := hcsh.out; rw [List.length_append, pns_len] at h3 ⊢; rw [hcl]
         exact h3) (by rw [List.take_append_of_le_length (by rw [pns_len, hcl]; exact Nat.le_refl _), List.take_of_length_le (by rw [pns_len, hcl]; exact Nat.le_refl _)])
        exact h
       have hdelh := zH (fun (w' : World) (S' : Nat → Prop) (h : Sep w' [Row 68 8 (.slice (some ⟨g, 0, none⟩) ms.length cap) cur.length (encP.all cur), Blk t (stC q at1 (.slice (some ⟨g, 0, none⟩) ms.length cap) ov2) 137, zbhP b2 t, zboP b3 at1] S') => pns_deleteM (l := cur) (fun m : Pm => m.p.w.gone q at1) (by omega) (fun m hm w hb => mark_two m q at1 at1 _ _ (hcw m hm) w hb) h)
       rw [hcl] at hdelh; obtain ⟨DL, hDL⟩ := zNm ((cur.filter fun m => !m.p.w.gone q at1))
       have hDm : DL.map (·.p) = ((ms.map (·.p)).map (Pn.fire at1)).filter fun p => !p.w.gone q at1 := by rw [← hDL, ← hall, List.filter_map]; rfl
       have hDs : ∀ m ∈ DL, m ∈ cur := fun m hm => by rw [← hDL] at hm; exact (List.mem_filter.1 hm).1
       rw [hDL] at hdelh; have hDmh := zH hDm; have hDsh := zH hDs; have homh := zH hom; clear hDL hDm hDs hom hall hcw hcl hfr hpn hsr2 hidl HM hfired hosm hsrth hordh hwf hgr hrd hI0h hpermh hndh hndph hilh hNh; go_upto_region 17 with (fail)
       refine wp_script_tail 11 [(0, false), (1, false), (2, false), (3, false), (4, false), (5, false), (6, false), (7, true), (8, false), (9, false), (10, false)] (Fam fun w' => St S w w' [zboP b3 at1, zbhP b2 t, Blk t (stC q at1 (.slice (some ⟨g, 0, none⟩) ms.length cap) ov2) 137]) (fun w' => St S w w' [zzP (encP.all cur) g ms.length cap, zboP b3 at1, zbhP b2 t, Blk t (stC q at1 (.slice (some ⟨g, 0, none⟩) ms.length cap) ov2) 137, zsP (encO.all os2) ov2 os2.length, Pool HH]) (by kernel_rfl) (by rfl) (by kernel_rfl) (by kernel_rfl) (HR.pick [4, 1, 2, 3, 5, 6]).drew (Fam.st (fun _ h => h.pick [1, 2, 3])) ?_
       iterate 7 first | (apply script_pass; rfl; rfl; intro K hK; go_simp; refine hK _ ?_; clear hK K) | (apply script_step; rfl; rfl; (focus (intro I hI w1 h1'; have h1 := hI.2 _ h1'; have d0 := h1.cell 0 0 rfl rfl; have e0 := h1.cell 1 0 rfl rfl; have c7 := h1.cell 2 7 rfl rfl; first | (go_simp; first | rfl | exact ⟨rfl, h1'⟩))); intro K hK; go_simp; refine hK _ ?_; clear hK K)
       refine script_alone rfl rfl ?_; intro V hV w1 h1
       go_simp
       obtain ⟨S1, K1, G1⟩ := St.call (l1 := [_, _, _, _]) (l2 := [_, _]) (h1.pick [0, 3, 2, 1, 4, 5]); refine (hdelh.out w1 S1 K1).mono ?_; rintro e w2 ⟨nv, rfl, G2⟩; have HX : St S w w2 [zbgP (encP.all DL) nv DL.length, zboP b3 at1, zbhP b2 t, Blk t (stC q at1 (.slice (some ⟨g, 0, none⟩) ms.length cap) ov2) 137, zsP (encO.all os2) ov2 os2.length, Pool HH] := (G1 _ _ G2).pick [0, 3, 2, 1, 4, 5]; refine ⟨_, rfl, fun w' => St S w w' [zbgP (encP.all DL) nv DL.length, zboP b3 at1, zbhP b2 t, Blk t (stC q at1 (.slice (some ⟨g, 0, none⟩) ms.length cap) ov2) 137, zsP (encO.all os2) ov2 os2.length, Pool HH], hV _ _ _ (fun _ h => h) (Fam.st (fun _ h => h.pick [1, 2, 3])) ?_, HX⟩
       intro K hK
       go_simp
       refine hK _ ?_; clear hK K hV V; clear HX h1 w1 w2 K1 G1 G2
       iterate 3 first | (apply script_pass; rfl; rfl; intro K hK; go_simp; refine hK _ ?_; clear hK K) | (apply script_step; rfl; rfl; (focus (intro I hI w1 h1'; have h1 := hI.2 _ h1'; first | (go_simp; first | rfl | exact ⟨rfl, h1'⟩))); intro K hK; go_simp; refine hK _ ?_; clear hK K)
       refine script_nil ?_; intro w8 H8; simp only [List.drop_succ_cons, List.drop_zero]; have f7 := H8.free 3 7 rfl; have c7 := H8.cell 3 7 rfl rfl; obtain ⟨na, nc, rfl, -, -⟩ := slice_form' (H8.row 0 rfl); have H9 := H8.set 3 rfl 7 (.slice na DL.length nc); go_wp2
       go_end0
       refine ⟨rfl, ?_⟩; exact Stp.mk' (pv := .slice na DL.length nc) (ov := ov2) (ms := DL) (os := os2) (H := HH) (by rw [hDmh.out, List.map_map]) homh.out (fun m hm => hmo2.out m (hDsh.out m hm)) hoo2.out (H9.pick [3, 0, 4, 5])
end Go.Proofs.YtiglgfonhdfpmaaGreat
namespace Go.Proofs.YtiglgfonhdfpmaaGreat
open Go.RowKit
abbrev zbpP (a0) (a1) (a2) := (Row 68 8 (.slice a1 0 a2) 0 a0 : SP)
theorem mark_nil {t : Nat} {q : Qry} {mk at1 : Int} {o : List Ot} {w : World} {S : Nat → Prop} (hle : ¬ at1 ≤ mk) (hol : o.length ≤ 1073741000) (H0 : Sep w [Stp t q mk [] o] S) :
    Calls Tryz.prog 72 #[.pointer (some ⟨t, 0, none⟩), .int .i64 at1] w fun e w' => e = .returned (.tuple #[]) ∧ St S w w' [Stp t q at1 [] o] := by
 obtain ⟨pv, ov, ms, os, H, hml, rfl, hmo, hoo, HB⟩ := Stp.open (St.refl H0); clear H0; obtain rfl : ms = [] := List.map_eq_nil_iff.1 hml; clear hml hmo; obtain ⟨pa, pc, rfl, -, -⟩ := slice_form' (HB.row 1 rfl); have hooh := zH hoo; clear hoo; have H2 : St S w _ (_ :: _) := HB.allocAt rfl #[.pointer (some ⟨t, 0, none⟩)] 135; have H3 : St S w _ (_ :: _) := H2.allocAt (B := w.heap.size + 1) (Array.size_push _) #[.int .i64 at1] 3; obtain ⟨b2, hb2⟩ := zNm w.heap.size; obtain ⟨b3, hb3⟩ := zNm (b2 + 1); obtain ⟨w1, hw1⟩ := zNm ((w.alloc (.cells #[.pointer (some ⟨t, 0, none⟩)] 135)).alloc (.cells #[.int .i64 at1] 3))
 go_enter Tryz.func72, Tryz.ntmps72
 go_upto_region 1 with (fail)
 rw [hw1, hb2, hb3] at H3; (try rw [hw1]); (try simp only [hb2, hb3]); have H4 : St S w w1 [zboP b3 at1, zbhP b2 t, Blk t (stC q mk (.slice pa 0 pc) ov) 137, zbpP (encP.all []) pa pc, zsP (encO.all os) ov os.length, Pool H] := H3; have hb2h := zH hb2; clear hw1 hb2 hb3 HB H2 H3; refine wp_calm (fun w' => St S w w' [zboP b3 at1, zbhP b2 t, Blk t (stC q mk (.slice pa 0 pc) ov) 137, zbpP (encP.all []) pa pc, zsP (encO.all os) ov os.length, Pool H]) (by kernel_rfl) (by kernel_rfl) (H4.drew) ?_
 iterate 7 first | (apply calm_pass; rfl; intro K hK; go_simp; refine hK _ ?_; clear hK K) | (apply calm_step; rfl; (focus (intro w1 h1; have c0 := h1.cell 0 0 rfl rfl; have c1 := h1.cell 1 0 rfl rfl; have c6 := h1.cell 2 6 rfl rfl; first | (go_simp; first | rfl | exact ⟨rfl, h1⟩))); intro K hK; go_simp; refine hK _ ?_; clear hK K)
 refine calm_nil ?_; intro w2 H5; clear H4; have c0 := H5.cell 0 0 rfl rfl; have c1 := H5.cell 1 0 rfl rfl; have c6 := H5.cell 2 6 rfl rfl; have f6 := H5.free 2 6 rfl; have H6 := H5.set 2 rfl 6 (.int .i64 at1); go_upto_region 3 with (fail)
 obtain ⟨w3, hw3⟩ := zNm (w2.setCell ⟨t, 6, none⟩ (.int .i64 at1)); rw [hw3] at H6; (try rw [hw3]); clear hw3 c0 c1 c6 f6 H5; have H7 : St S w w3 [zboP b3 at1, zbhP b2 t, Blk t (stC q at1 (.slice pa 0 pc) ov) 137, zbpP (encP.all []) pa pc, zsP (encO.all os) ov os.length, Pool H] := H6; clear H6; have c1 := H7.cell 1 0 rfl rfl; have c7 := H7.cell 2 7 rfl rfl
 go_upto_block 1 with (fail)
 clear c1 c7
 go_loopw [4, 5, 6, 27] (fun u _ _ j wr => u = .slice none 0 0 ∧ j = .int .i64 0 ∧ wr = w3) (fun _ _ _ _ _ => 0)
 case atStart => exact ⟨rfl, rfl, rfl⟩
 case round =>
  obtain ⟨rfl, rfl, rfl⟩ := hrel
  go_upto_block 3 with (go_at_call 130; go_must (refine (sort_nil _ _).mono ?_; rintro e w6 ⟨rfl, rfl⟩))
  go_loopw [8, 59] (fun _ jj wr => jj = .int .i64 0 ∧ wr = w6) (fun _ _ _ => 0)
  case atStart => exact ⟨rfl, rfl⟩
  case round =>
   obtain ⟨rfl, rfl⟩ := hrel; have hdelh := zH (fun (w' : World) (S' : Nat → Prop) (h : Sep w' [zbpP (encP.all []) pa pc, Blk t (stC q at1 (.slice pa 0 pc) ov) 137, zbhP b2 t, zboP b3 at1] S') => pns_deleteM (l := []) (fun m : Pm => m.p.w.gone q at1) (by simp) (fun m hm w hb => by cases hm) h)
   simp only [List.filter_nil, List.length_nil] at hdelh; go_upto_region 17 with (fail)
   refine wp_script_tail 11 [(0, false), (1, false), (2, false), (3, false), (4, false), (5, false), (6, false), (7, true), (8, false), (9, false), (10, false)] (Fam fun w' => St S w w' [zboP b3 at1, zbhP b2 t, Blk t (stC q at1 (.slice pa 0 pc) ov) 137]) (fun w' => St S w w' [zbpP (encP.all []) pa pc, zboP b3 at1, zbhP b2 t, Blk t (stC q at1 (.slice pa 0 pc) ov) 137, zsP (encO.all os) ov os.length, Pool H]) (by kernel_rfl) (by rfl) (by kernel_rfl) (by kernel_rfl) (H7.pick [3, 0, 1, 2, 4, 5]).drew (Fam.st (fun _ h => h.pick [1, 2, 3])) ?_
   iterate 7 first | (apply script_pass; rfl; rfl; intro K hK; go_simp; refine hK _ ?_; clear hK K) | (apply script_step; rfl; rfl; (focus (intro I hI w1 h1'; have h1 := hI.2 _ h1'; have d0 := h1.cell 0 0 rfl rfl; have e0 := h1.cell 1 0 rfl rfl; have c7 := h1.cell 2 7 rfl rfl; first | (go_simp; first | rfl | exact ⟨rfl, h1'⟩))); intro K hK; go_simp; refine hK _ ?_; clear hK K)
   refine script_alone rfl rfl ?_; intro V hV w1 h1
   go_simp
   obtain ⟨S1, K1, G1⟩ := St.call (l1 := [_, _, _, _]) (l2 := [_, _]) (h1.pick [0, 3, 2, 1, 4, 5]); refine (hdelh.out w1 S1 K1).mono ?_; rintro e w2 ⟨nv, rfl, G2⟩; have HX : St S w w2 [Row 68 8 nv 0 (encP.all []), zboP b3 at1, zbhP b2 t, Blk t (stC q at1 (.slice pa 0 pc) ov) 137, zsP (encO.all os) ov os.length, Pool H] := (G1 _ _ G2).pick [0, 3, 2, 1, 4, 5]; refine ⟨_, rfl, fun w' => St S w w' [Row 68 8 nv 0 (encP.all []), zboP b3 at1, zbhP b2 t, Blk t (stC q at1 (.slice pa 0 pc) ov) 137, zsP (encO.all os) ov os.length, Pool H], hV _ _ _ (fun _ h => h) (Fam.st (fun _ h => h.pick [1, 2, 3])) ?_, HX⟩
   intro K hK
   go_simp
   refine hK _ ?_; clear hK K hV V; clear HX h1 w1 w2 K1 G1 G2
   iterate 3 first | (apply script_pass; rfl; rfl; intro K hK; go_simp; refine hK _ ?_; clear hK K) | (apply script_step; rfl; rfl; (focus (intro I hI w1 h1'; have h1 := hI.2 _ h1'; first | (go_simp; first | rfl | exact ⟨rfl, h1'⟩))); intro K hK; go_simp; refine hK _ ?_; clear hK K)
   refine script_nil ?_; intro w8 H8; simp only [List.drop_succ_cons, List.drop_zero]; have f7 := H8.free 3 7 rfl; have c7 := H8.cell 3 7 rfl rfl; obtain ⟨na, nc, rfl, -, -⟩ := slice_form' (H8.row 0 rfl); have H9 := H8.set 3 rfl 7 (.slice na 0 nc); go_wp2
   go_end0
   refine ⟨rfl, ?_⟩; exact Stp.mk' (pv := .slice na 0 nc) (ov := ov) (ms := []) (os := os) (H := H) rfl rfl (fun m hm => by cases hm) hooh.out (H9.pick [3, 0, 4, 5])
theorem step_mark {t : Nat} {q : Qry} {mk at1 : Int} {l : List Pn} {o : List Ot} {w : World} {S : Nat → Prop} (hs : Stt.right q ⟨mk, l⟩ = true) (hol : o.length ≤ 1073741000) (H0 : Sep w [Stp t q mk l o] S) :
    Calls Tryz.prog 72 #[.pointer (some ⟨t, 0, none⟩), .int .i64 at1] w fun e w' => e = .returned (.tuple #[]) ∧ St S w w' [Stp t q (markM q ⟨mk, l⟩ at1).1.mark (markM q ⟨mk, l⟩ at1).1.panes (o ++ (markM q ⟨mk, l⟩ at1).2)] := by
 unfold markM; simp only
 by_cases hle : at1 ≤ mk
 · rw [if_pos hle]; simp only [List.append_nil]; exact mark_no hle H0
 · rw [if_neg hle]; simp only
   by_cases hne : l = []
   · subst hne; have := mark_nil hle hol H0
     simpa [sortC] using this
   · exact mark_yes hle hs hol hne H0
end Go.Proofs.YtiglgfonhdfpmaaGreat
namespace Go.Proofs.YtiglgfonhdfpmaaGreat
open Go.RowKit
def GoodA (q : Qry) (l : List Pn) : Prop := ∀ p ∈ l, p.g.right q = true ∧ (0 ≤ p.round ∧ p.round ≤ 1073741824) ∧ p.w.right = true
theorem good_fits {q : Qry} {l : List Pn} (h : GoodA q l) : ∀ p ∈ l, p.fits := fun p hp => by
 obtain ⟨h1, -, h3⟩ := h p hp; obtain ⟨-, -, -, ht, -, -, hx, hy⟩ := right_nums h1; exact ⟨fits_right h3, by omega, by omega, by omega⟩
theorem right_good {q : Qry} {s : Stt} (h : s.right q = true) : GoodA q s.panes := fun p hp => by
 obtain ⟨-, -, -, h4, -, -⟩ := right_parts h; have := ok_parts (h4 p hp); exact ⟨this.2.2.2.2.1, this.2.2.2.1, this.2.1⟩
theorem with_mem {l : List Pn} {p y : Pn} : y ∈ withP l p ↔ y = p ∨ y ∈ l := by
 unfold withP
 constructor
 · intro h; rcases List.mem_append.1 h with h | h
   · exact .inr (List.mem_of_mem_take h)
   · rcases List.mem_cons.1 h with h | h
     · exact .inl h
     · exact .inr (List.mem_of_mem_drop h)
 · rintro (rfl | h)
   · exact List.mem_append_right _ (List.mem_cons_self)
   · rw [← List.take_append_drop (placeP l p.w) l] at h; rcases List.mem_append.1 h with h | h
     · exact List.mem_append_left _ h
     · exact List.mem_append_right _ (List.mem_cons_of_mem _ h)
theorem lay_good {q : Qry} {mk : Int} {x : Wd} {old : Wd → Bool} {v : Int} {l : List Pn} {y : List Pn × List Ot} (hq : q.right = true) (hv : valB v = true) (hx : x.right = true) (h : GoodA q l) (hy : layM q mk x old v l = some y) : GoodA q y.1 := by
 unfold layM at hy
 cases hg : gathM q x old l (Ag.zero, 0) with
 | none => rw [hg] at hy; cases hy
 | some s =>
  rw [hg] at hy; simp only at hy; have hs : s.1.right q = true ∧ 0 ≤ s.2 ∧ s.2 ≤ 1073741824 := gath_right (s := (Ag.zero, 0)) (fun p hp => ⟨(h p hp).1, (h p hp).2.1.1, (h p hp).2.1.2⟩) (zero_right hq) ⟨Int.le_refl 0, (by decide : (0 : Int) ≤ 1073741824)⟩ hg
  cases hp : putM q mk x s.1 s.2 v with
  | none => rw [hp] at hy; cases hy
  | some z =>
   rw [hp] at hy; simp only [Option.some.injEq] at hy; rw [← hy]; have hz := put_good hs.1 hs.2 hv hp; have hzw := put_w hp; intro p hp2; rcases with_mem.1 hp2 with rfl | hp2
   · exact ⟨hz.1, hz.2.1, by rw [hzw]; exact hx⟩
   · exact h p (List.mem_filter.1 hp2).1
theorem bec_right (q : Qry) {l : List Pn} {own : Wd} (h : own.right = true) : (becM q l own).right = true := by
 unfold becM
 split
 · exact (bec_law h _).1
 · exact h
theorem lays_good {q : Qry} {mk v : Int} (hq : q.right = true) (hv : valB v = true) : ∀ {ws : List Wd} {s y : EvS}, (∀ x ∈ ws, x.right = true) → GoodA q s.panes → laysM q mk v ws s = some y → GoodA q y.panes
 | [], s, y, _, h, hy => by
  obtain rfl : s = y := by simpa [laysM] using hy
  exact h
 | own :: r, s, y, hw, h, hy => by
  rw [lays_cons] at hy
  split at hy
  · exact lays_good hq hv (fun x hx => hw x (List.mem_cons_of_mem _ hx)) h hy
  · cases hl : layM q mk (becM q s.panes own) (oldM q own) v s.panes with
    | none => rw [hl] at hy; cases hy
    | some z =>
     rw [hl] at hy; exact lays_good hq hv (fun x hx => hw x (List.mem_cons_of_mem _ hx)) (s := ⟨z.1, s.outs ++ z.2, true⟩) (lay_good hq hv (bec_right q (hw own (by simp))) h hl) hy
theorem right_val {x : Itm} (h : x.right = true) (hk : ¬ x.kind = 2) : valB x.value = true := by
 unfold Itm.right at h; simp only [Bool.and_eq_true, decide_eq_true_eq] at h; obtain ⟨-, h⟩ := h
 split at h
 · simp only [Bool.and_eq_true, decide_eq_true_eq] at h; exact valB_iff.2 ⟨h.1.2, h.2⟩
 · first
   | (rw [if_neg hk] at h; cases h)
   | cases h
theorem step_good {q : Qry} {s : Stt} {x : Itm} (h : (stepM q s x).e = 0) : s.right q = true ∧ x.right = true ∧ GoodA q (stepM q s x).s.panes ∧ (stepM q s x).s.panes.length ≤ 256 := by
 unfold stepM at h ⊢
 by_cases hr : (s.right q && x.right) = true
 · rw [if_pos hr] at h ⊢; simp only [Bool.and_eq_true] at hr; obtain ⟨h1, h2⟩ := hr; have hg := right_good h1; obtain ⟨hq, hmk, hlen, -, -, -⟩ := right_parts h1; refine ⟨h1, h2, ?_⟩
   by_cases hk : x.kind = 2
   · rw [if_pos hk]; simp only; unfold markM
     split
     · exact ⟨hg, hlen⟩
     · refine ⟨fun p hp => ?_, ?_⟩
       · obtain ⟨y, hy, rfl⟩ := List.mem_map.1 (List.mem_filter.1 hp).1; obtain ⟨g1, g2, g3⟩ := hg y hy; unfold Pn.fire
         split
         · exact ⟨g1, ⟨by simp, by simp⟩, g3⟩
         · exact ⟨g1, g2, g3⟩
       · have := List.length_filter_le (fun p : Pn => !p.w.gone q x.time) (s.panes.map (Pn.fire x.time))
         rw [List.length_map] at this; simp only
         omega
   · rw [if_neg hk] at h ⊢; unfold eventM at h ⊢
     cases hl : laysM q s.mark x.value (winsOf q x.key x.time) ⟨s.panes, [], false⟩ with
     | none => exact ⟨hg, hlen⟩
     | some y =>
      simp only
      by_cases hf : 256 < y.panes.length
      · rw [if_pos hf]; exact ⟨hg, hlen⟩
      · rw [if_neg hf]; exact ⟨lays_good hq (right_val h2 hk) (fun z hz => (wins_right z hz).1) (s := ⟨s.panes, [], false⟩) hg hl, by simp only; omega⟩
 · rw [if_neg hr] at h
   simp at h
theorem outs_lays {q : Qry} {mk v : Int} : ∀ {ws : List Wd} {s y : EvS}, laysM q mk v ws s = some y → y.outs.length ≤ s.outs.length + ws.length
 | [], s, y, hy => by
  obtain rfl : s = y := by simpa [laysM] using hy
  simp
 | own :: r, s, y, hy => by
  rw [lays_cons] at hy
  split at hy
  · have := outs_lays hy; rw [List.length_cons]
    omega
  · cases hl : layM q mk (becM q s.panes own) (oldM q own) v s.panes with
    | none => rw [hl] at hy; cases hy
    | some z =>
     rw [hl] at hy; have h1 := outs_lay hl; have h2 := outs_lays hy; simp only [List.length_append, List.length_cons] at h2 ⊢
     omega
theorem sortC_len (l : List Pn) : (sortC l).length = l.length := (sortC_perm l).length_eq
theorem step_outs (q : Qry) (s : Stt) (x : Itm) : (stepM q s x).outs.length ≤ 256 := by
 unfold stepM
 by_cases hr : (s.right q && x.right) = true
 · rw [if_pos hr]; simp only [Bool.and_eq_true] at hr; obtain ⟨hq, hmk, hlen, -, -, -⟩ := right_parts hr.1
   by_cases hk : x.kind = 2
   · rw [if_pos hk]; simp only; unfold markM
     split
     · simp
     · simp only [List.length_map, sortC_len]; have := List.length_filter_le (Pn.now x.time) s.panes
       omega
   · rw [if_neg hk]; unfold eventM
     cases hl : laysM q s.mark x.value (winsOf q x.key x.time) ⟨s.panes, [], false⟩ with
     | none => simp
     | some y =>
      simp only; have h1 := outs_lays hl; have h2 := wins_len q x.key x.time; simp only [List.length_nil] at h1
      split
      · simp
      · split
        · simp only; omega
        · simp only [List.length_append, List.length_singleton]; omega
 · rw [if_neg hr]
   simp
end Go.Proofs.YtiglgfonhdfpmaaGreat
namespace Go.Proofs.YtiglgfonhdfpmaaGreat
structure RunGood (q : Qry) (N : Nat) (r : RunR) : Prop where
 panes : GoodA q r.s.panes
 few : r.s.panes.length ≤ 256
 outs : r.outs.length ≤ 256 * N
 vals : ∀ o ∈ r.outs, o.value.length ≤ 8
theorem val_len {q : Qry} {g : Ag} (h : g.right q = true) : (valueM q g).length ≤ 8 := by
 obtain ⟨-, -, -, ht, -, -, -, -⟩ := right_nums h; unfold valueM
 split
 · simp
 · split
   · simp
   · split
     · simp
     · split
       · exact ht
       · split <;> simp
theorem lay_vals {q : Qry} {mk : Int} {x : Wd} {old : Wd → Bool} {v : Int} {l : List Pn} {y : List Pn × List Ot} (hq : q.right = true) (hv : valB v = true) (hx : x.right = true) (h : GoodA q l) (hy : layM q mk x old v l = some y) : ∀ o ∈ y.2, o.value.length ≤ 8 := by
 have hg := lay_good hq hv hx h hy; unfold layM at hy
 cases hs : gathM q x old l (Ag.zero, 0) with
 | none => rw [hs] at hy; cases hy
 | some s =>
  rw [hs] at hy; simp only at hy
  cases hp : putM q mk x s.1 s.2 v with
  | none => rw [hp] at hy; cases hy
  | some z =>
   rw [hp] at hy; simp only [Option.some.injEq] at hy; rw [← hy] at hg ⊢; have hz := (hg z.1 (with_mem.2 (.inl rfl))).1; unfold putM at hp
   split at hp
   · cases hp
   · split at hp
     · split at hp
       · cases hp
       · simp only [Option.some.injEq] at hp; subst hp; intro o ho; simp only [List.mem_singleton] at ho; subst ho; exact val_len hz
     · simp only [Option.some.injEq] at hp; subst hp; intro o ho
       simp at ho
theorem lays_vals {q : Qry} {mk v : Int} (hq : q.right = true) (hv : valB v = true) : ∀ {ws : List Wd} {s y : EvS}, (∀ x ∈ ws, x.right = true) → GoodA q s.panes → (∀ o ∈ s.outs, o.value.length ≤ 8) → laysM q mk v ws s = some y → ∀ o ∈ y.outs, o.value.length ≤ 8
 | [], s, y, _, h, ho, hy => by
  obtain rfl : s = y := by simpa [laysM] using hy
  exact ho
 | own :: r, s, y, hw, h, ho, hy => by
  rw [lays_cons] at hy
  split at hy
  · exact lays_vals hq hv (fun x hx => hw x (List.mem_cons_of_mem _ hx)) h ho hy
  · cases hl : layM q mk (becM q s.panes own) (oldM q own) v s.panes with
    | none => rw [hl] at hy; cases hy
    | some z =>
     rw [hl] at hy; have hx := bec_right q (l := s.panes) (hw own (by simp))
     refine lays_vals hq hv (fun x hx => hw x (List.mem_cons_of_mem _ hx)) (s := ⟨z.1, s.outs ++ z.2, true⟩) (lay_good hq hv hx h hl) (fun o h1 => ?_) hy
     rcases List.mem_append.1 h1 with h1 | h1
     · exact ho o h1
     · exact lay_vals hq hv hx h hl o h1
theorem step_vals {q : Qry} {s : Stt} {x : Itm} : ∀ o ∈ (stepM q s x).outs, o.value.length ≤ 8 := by
 unfold stepM
 by_cases hr : (s.right q && x.right) = true
 · rw [if_pos hr]; simp only [Bool.and_eq_true] at hr; obtain ⟨h1, h2⟩ := hr; have hg := right_good h1; obtain ⟨hq, hmk, hlen, -, -, -⟩ := right_parts h1
   by_cases hk : x.kind = 2
   · rw [if_pos hk]; simp only; unfold markM
     split
     · simp
     · intro o ho; obtain ⟨p, hp, rfl⟩ := List.mem_map.1 ho; have := (sortC_perm (s.panes.filter (Pn.now x.time))).subset hp; exact val_len (hg p (List.mem_filter.1 this).1).1
   · rw [if_neg hk]; unfold eventM
     cases hl : laysM q s.mark x.value (winsOf q x.key x.time) ⟨s.panes, [], false⟩ with
     | none => simp
     | some y =>
      simp only; have hv := lays_vals hq (right_val h2 hk) (fun z hz => (wins_right z hz).1) (s := ⟨s.panes, [], false⟩) hg (by simp) hl
      split
      · simp
      · split
        · exact hv
        · intro o ho; rcases List.mem_append.1 ho with ho | ho
          · exact hv o ho
          · simp only [List.mem_singleton] at ho; subst ho
            simp [lateO]
 · rw [if_neg hr]
   simp
theorem runs_good (q : Qry) : ∀ (l : List Itm) (r : RunR) (N : Nat), RunGood q N r → RunGood q (N + l.length) (runsM q l r)
 | [], r, N, h => by
  rw [runsM]; exact h
 | x :: l, r, N, h => by
  rw [runsM]
  split
  · rename_i h1
    obtain ⟨-, -, h2, h3⟩ := step_good h1; have h4 := step_outs q r.s x
    have := runs_good q l ⟨(stepM q r.s x).s, r.outs ++ (stepM q r.s x).outs, r.n + 1, 0⟩ (N + 1) ⟨h2, h3, by have := h.outs; simp only [List.length_append]; omega, fun o ho => by
     rcases List.mem_append.1 ho with ho | ho
     · exact h.vals o ho
     · exact step_vals o ho⟩
    rw [show N + (x :: l).length = N + 1 + l.length by simp only [List.length_cons]; omega]
    exact this
  · exact ⟨h.panes, h.few, by have := h.outs; simp only [List.length_cons]; omega, h.vals⟩
theorem runs_new (q : Qry) (l : List Itm) : RunGood q l.length (runsM q l ⟨stt0, [], 0, 0⟩) := by
 have := runs_good q l ⟨stt0, [], 0, 0⟩ 0 ⟨fun p hp => by simp [stt0] at hp, by simp [stt0], by simp, by simp⟩
 rwa [Nat.zero_add] at this
end Go.Proofs.YtiglgfonhdfpmaaGreat
namespace Go.Proofs.YtiglgfonhdfpmaaGreat
theorem pair_mono {α : Type} {R S : α → α → Prop} (h : ∀ a b, R a b → S a b) : ∀ {l : List α}, l.Pairwise R → l.Pairwise S
 | [], _ => List.Pairwise.nil
 | x :: l, hl => by
  have := List.pairwise_cons.1 hl; exact List.pairwise_cons.2 ⟨fun y hy => h _ _ (this.1 y hy), pair_mono h this.2⟩
theorem ord_sub {l m : List Pn} (h : Ord l) (hs : m.Sublist l) : Ord m := List.Pairwise.sublist hs h
theorem ord_with {l : List Pn} {p : Pn} (h : Ord l) (hne : ∀ y ∈ l, y.w ≠ p.w) : Ord (withP l p) := by
 obtain ⟨h1, h2⟩ := ord_cut h p.w; unfold withP; refine ord_app (ord_sub h (List.take_sublist _ _)) (ord_sub h (List.drop_sublist _ _)) h1 (fun y hy => ?_)
 have h3 := h2 y hy; have h4 : y.w.place p.w ≠ 0 := fun e => hne y (List.mem_of_mem_drop hy) (place_zero.1 e)
 rw [place_swap y.w p.w]
 omega
theorem with_map (l : List Pn) (p : Pn) : (withP l p).map (·.w) = insW (l.map (·.w)) p.w := by
 unfold withP insW placeP
 simp [List.map_take, List.map_drop]
theorem filter_out (l : List Pn) (x : Wd) : (l.filter fun p => !p.w.joins x).map (·.w) = outOf (l.map (·.w)) x := by
 unfold outOf; rw [List.filter_map]
 rfl
theorem gath_round {q : Qry} {x : Wd} {old : Wd → Bool} : ∀ {l : List Pn} {s r : Ag × Int}, gathM q x old l s = some r → r.2 = s.2 ∨ ∃ p ∈ l, p.w = x ∧ r.2 = p.round
 | [], s, r, h => by
  left
  have : s = r := by simpa [gathM] using h
  rw [this]
 | p :: l, s, r, h => by
  rw [gath_cons] at h
  split at h
  · cases hm : mergeM q s.1 p.g with
    | none => rw [hm] at h; cases h
    | some g =>
     rw [hm] at h; simp only at h; rcases gath_round h with h1 | ⟨y, hy, h1, h2⟩
     · simp only at h1
       split at h1
       · rename_i hw
         exact .inr ⟨p, by simp, hw, h1⟩
       · exact .inl h1
     · exact .inr ⟨y, List.mem_cons_of_mem _ hy, h1, h2⟩
  · rcases gath_round h with h1 | ⟨y, hy, h1, h2⟩
    · exact .inl h1
    · exact .inr ⟨y, List.mem_cons_of_mem _ hy, h1, h2⟩
theorem merge_n {q : Qry} {a b g : Ag} (h : mergeM q a b = some g) : g.n = a.n + b.n := by
 unfold mergeM at h
 split at h
 · simp only [Option.some.injEq] at h; subst h
   omega
 · split at h
   · simp only [Option.some.injEq] at h; subst h
     omega
   · split at h
     · simp only [Option.some.injEq] at h; subst h
       rfl
     · cases h
theorem single_n (q : Qry) (v : Int) : (singleM q v).n = 1 := by
 unfold singleM
 split
 · rfl
 · split
   · rfl
   · split <;> rfl
theorem ok_make {q : Qry} {mk : Int} {p : Pn} (h1 : fitsM q p.w = true) (h2 : p.w.gone q mk = false) (h3 : 0 ≤ p.round ∧ p.round ≤ 1073741824) (h4 : p.g.right q = true) (h5 : 0 < p.g.n) (h6 : 0 < p.round ↔ p.w.ripe mk = true) : p.ok q mk = true := by
 rw [ok_eq, h1, h2, h4, decide_eq_true h3.1, decide_eq_true h3.2, decide_eq_true h5]; simp only [Bool.not_false, Bool.and_self, Bool.true_and]; rw [beq_iff_eq, Bool.eq_iff_iff, decide_eq_true_eq]; exact h6
def OutAt (q : Qry) (mk : Int) (l : List Pn) (o : Ot) : Prop := (o.late = false ∧ o.w.right = true) ∧ o.w.to ≤ mk ∧ 1 ≤ o.round ∧ (o.w.to + q.late ≤ mk ∨ ∃ p ∈ l, p.w = o.w ∧ p.round = o.round ∧ valueM q p.g = o.value)
structure PInv (q : Qry) (mk : Int) (l : List Pn) : Prop where
 ok : ∀ p ∈ l, p.ok q mk = true
 ord : Ord l
 stl : q.kind = 3 → Stl (l.map (·.w))
theorem right_inv {q : Qry} {s : Stt} (h : s.right q = true) : PInv q s.mark s.panes := by
 obtain ⟨-, -, -, h4, h5, h6⟩ := right_parts h; exact ⟨h4, h5, fun hk => settledW_iff.1 (h6 hk)⟩
theorem right_make {q : Qry} {s : Stt} (hq : q.right = true) (hm : -1 ≤ s.mark ∧ s.mark ≤ 1099511627776) (hl : s.panes.length ≤ 256) (h : PInv q s.mark s.panes) : s.right q = true := by
 rw [sright_eq, hq, decide_eq_true hm.1, decide_eq_true hm.2, decide_eq_true hl, List.all_eq_true.2 h.ok, ord_iff.2 h.ord]; simp only [Bool.true_and, Bool.or_eq_true, decide_eq_true_eq]
 by_cases hk : q.kind = 3
 · exact .inr (settledW_iff.2 (h.stl hk))
 · exact .inl hk
theorem ripe_to {x : Wd} {mk : Int} (h : x.ripe mk = true) : x.to ≤ mk := by
 unfold Wd.ripe at h; simp only [Bool.and_eq_true, decide_eq_true_eq] at h; exact h.2
theorem put_ok {q : Qry} {mk : Int} {x : Wd} {g : Ag} {r v : Int} {y : Pn × List Ot} (hq : q.right = true) (hv : valB v = true) (hf : fitsM q x = true) (hng : x.gone q mk = false) (hg : g.right q = true) (hr : 0 ≤ r ∧ r ≤ 1073741824) (hz : x.ripe mk = false → r = 0) (h : putM q mk x g r v = some y) :
    y.1.ok q mk = true ∧ ∀ o ∈ y.2, o.w = x ∧ o.late = false ∧ o.w.to ≤ mk ∧ 1 ≤ o.round ∧ y.1.w = o.w ∧ y.1.round = o.round ∧ valueM q y.1.g = o.value := by
 unfold putM at h
 cases hm : mergeM q g (singleM q v) with
 | none => rw [hm] at h; cases h
 | some a =>
  rw [hm] at h; simp only at h; have ha := merge_right hg (single_right hq hv) hm; have hn := merge_n hm; rw [single_n] at hn; have hgn : 0 ≤ g.n := (right_nums hg).2.1.1
  cases hrp : x.ripe mk with
  | true =>
   rw [if_pos hrp] at h
   split at h
   · cases h
   · rename_i hr2
     simp only [Option.some.injEq] at h; subst h; refine ⟨ok_make hf hng ⟨by simp only; omega, by simp only; omega⟩ ha (by simp only; omega) ⟨fun _ => hrp, fun _ => by simp only; omega⟩, fun o ho => ?_⟩
     simp only [List.mem_singleton] at ho; subst ho; exact ⟨rfl, rfl, ripe_to hrp, by simp only; omega, rfl, rfl, rfl⟩
  | false =>
   obtain rfl := hz hrp; rw [if_neg (by rw [hrp]; simp)] at h
   simp only [Option.some.injEq] at h; subst h; exact ⟨ok_make hf hng ⟨by simp, by simp⟩ ha (by simp only; omega) (by simp [hrp]), fun o ho => by simp at ho⟩
theorem lay_inv {q : Qry} {mk : Int} {own : Wd} {v : Int} {l : List Pn} {y : List Pn × List Ot} (hq : q.right = true) (hv : valB v = true) (hown : own.right = true) (hf : q.kind ≠ 3 → fitsM q own = true) (h3 : q.kind = 3 → q.size ≤ own.to - own.frm)
    (hng : (becM q l own).gone q mk = false) (h : PInv q mk l) (hy : layM q mk (becM q l own) (oldM q own) v l = some y) :
    PInv q mk y.1 ∧ (∀ p ∈ l, oldM q own p.w = false → p ∈ y.1) ∧ ∀ o ∈ y.2, OutAt q mk y.1 o ∧ o.w = becM q l own := by
 have hfx : fitsM q (becM q l own) = true := by
  by_cases hk : q.kind = 3
  · unfold becM fitsM; rw [if_pos hk, if_pos hk]; obtain ⟨b1, b2, b3, b4⟩ := bec_law hown (l.map (·.w)); rw [b1]; simp only [Bool.true_and, decide_eq_true_eq]; have := h3 hk
    omega
  · unfold becM; rw [if_neg hk]; exact hf hk
 unfold layM at hy
 cases hs : gathM q (becM q l own) (oldM q own) l (Ag.zero, 0) with
 | none => rw [hs] at hy; cases hy
 | some s =>
  rw [hs] at hy; simp only at hy
  have hsr : s.1.right q = true ∧ 0 ≤ s.2 ∧ s.2 ≤ 1073741824 := gath_right (s := (Ag.zero, 0)) (fun p hp => by
   obtain ⟨-, -, -, g4, g5, -, -⟩ := ok_parts (h.ok p hp)
   exact ⟨g5, g4.1, g4.2⟩) (zero_right hq) ⟨Int.le_refl 0, (by decide : (0 : Int) ≤ 1073741824)⟩ hs
  have hz : (becM q l own).ripe mk = false → s.2 = 0 := fun hr => by
   rcases gath_round hs with h1 | ⟨p, hp, h1, h2⟩
   · exact h1
   · obtain ⟨-, -, -, g4, -, -, g7⟩ := ok_parts (h.ok p hp); rw [h1, hr] at g7; have : ¬ 0 < p.round := fun hc => by simpa using g7.1 hc
     omega
  cases hp : putM q mk (becM q l own) s.1 s.2 v with
  | none => rw [hp] at hy; cases hy
  | some z =>
   rw [hp] at hy; simp only [Option.some.injEq] at hy; rw [← hy]; obtain ⟨hz1, hz2⟩ := put_ok hq hv hfx hng hsr.1 hsr.2 hz hp; have hzw := put_w hp; refine ⟨⟨fun p hpm => ?_, ?_, fun hk => ?_⟩, fun p hpm ho => with_mem.2 (.inr (List.mem_filter.2 ⟨hpm, by simp [ho]⟩)), fun o ho => ?_⟩
   · rcases with_mem.1 hpm with rfl | hpm
     · exact hz1
     · exact h.ok p (List.mem_filter.1 hpm).1
   · refine ord_with (ord_sub h.ord List.filter_sublist) (fun y hym => ?_)
     rw [hzw]; obtain ⟨g1, g2⟩ := List.mem_filter.1 hym
     by_cases hk : q.kind = 3
     · unfold becM; unfold oldM at g2; rw [if_pos hk]; rw [if_pos hk] at g2; exact fun e => bec_apart hown y.w (List.mem_filter.2 ⟨List.mem_map_of_mem g1, g2⟩) e.symm
     · unfold becM; unfold oldM at g2; rw [if_neg hk]; rw [if_neg hk] at g2
       simpa using g2
   · simp only; rw [with_map, hzw]
     have e1 : (fun p : Pn => !oldM q own p.w) = fun p : Pn => !p.w.joins own := by
      funext p
      unfold oldM; rw [if_pos hk]
     rw [e1, filter_out]; unfold becM; rw [if_pos hk]; exact took_stl (h.stl hk) hown
   · obtain ⟨k1, k2, k3, k4, k5, k6, k7⟩ := hz2 o ho; exact ⟨⟨⟨k2, by rw [k1]; exact fits_wd hfx⟩, k3, k4, .inr ⟨z.1, with_mem.2 (.inl rfl), k5, k6, k7⟩⟩, k1⟩
theorem lays_inv {q : Qry} {mk v : Int} (hq : q.right = true) (hv : valB v = true) : ∀ {ws : List Wd} {s y : EvS}, (∀ x ∈ ws, x.right = true ∧ (q.kind ≠ 3 → fitsM q x = true) ∧ (q.kind = 3 → q.size ≤ x.to - x.frm)) → ws.Nodup → (q.kind = 3 → ws.length ≤ 1 ∧ (ws ≠ [] → s.outs = [])) → (q.kind ≠ 3 → ∀ o ∈ s.outs, o.w ∉ ws) →
    PInv q mk s.panes → (∀ o ∈ s.outs, OutAt q mk s.panes o) → laysM q mk v ws s = some y → PInv q mk y.panes ∧ (∀ o ∈ y.outs, OutAt q mk y.panes o) ∧ (y.taken = false → s.taken = false ∧ y.panes = s.panes ∧ y.outs = s.outs)
 | [], s, y, _, _, _, _, h, ho, hy => by
  obtain rfl : s = y := by simpa [laysM] using hy
  exact ⟨h, ho, fun ht => ⟨ht, rfl, rfl⟩⟩
 | own :: r, s, y, hw, hnd, h3, h4, h, ho, hy => by
  rw [lays_cons] at hy; have hw2 := fun x hx => hw x (List.mem_cons_of_mem own hx)
  obtain ⟨hn1, hn2⟩ := List.nodup_cons.1 hnd
  have hr3 : q.kind = 3 → r = [] := fun hk => by
   have := (h3 hk).1; simp only [List.length_cons] at this; exact List.eq_nil_of_length_eq_zero (by omega)
  have hc3 : ∀ o, q.kind = 3 → r.length ≤ 1 ∧ (r ≠ [] → o = ([] : List Ot)) := fun o hk => by
   rw [hr3 hk]; exact ⟨by simp, fun h => absurd rfl h⟩
  split at hy
  · exact lays_inv hq hv hw2 hn2 (fun hk => hc3 _ hk) (fun hk o hm => fun hc => h4 hk o hm (List.mem_cons_of_mem _ hc)) h ho hy
  · rename_i hng
    have hng : (becM q s.panes own).gone q mk = false := by simpa using hng
    cases hl : layM q mk (becM q s.panes own) (oldM q own) v s.panes with
    | none => rw [hl] at hy; cases hy
    | some z =>
     rw [hl] at hy; simp only at hy; obtain ⟨g1, g2, g3⟩ := hw own (by simp)
     obtain ⟨k1, k2, k3⟩ := lay_inv hq hv g1 g2 g3 hng h hl; have hres := lays_inv hq hv (s := ⟨z.1, s.outs ++ z.2, true⟩) hw2 hn2 (fun hk => hc3 _ hk) (fun hk o hm hc => ?_) k1 (fun o hm => ?_) hy
     · exact ⟨hres.1, hres.2.1, fun ht => absurd (hres.2.2 ht).1 (by simp)⟩
     · rcases List.mem_append.1 hm with hm | hm
       · exact h4 hk o hm (List.mem_cons_of_mem _ hc)
       · have := (k3 o hm).2; unfold becM at this; rw [if_neg hk] at this; rw [this] at hc; exact hn1 hc
     · rcases List.mem_append.1 hm with hm | hm
       · obtain ⟨e1, e2, e3, e4⟩ := ho o hm; refine ⟨e1, e2, e3, ?_⟩; rcases e4 with e4 | ⟨p, hp, e4, e5⟩
         · exact .inl e4
         · refine .inr ⟨p, k2 p hp ?_, e4, e5⟩
           by_cases hk : q.kind = 3
           · rw [(h3 hk).2 (by simp)] at hm
             simp at hm
           · unfold oldM; rw [if_neg hk]; have : o.w ∉ own :: r := h4 hk o hm; rw [e4]; simp only [decide_eq_false_iff_not]; intro e; rw [e] at this
             simp at this
       · exact (k3 o hm).1
theorem wins_ok {q : Qry} {key : List UInt8} {t : Int} : ∀ x ∈ winsOf q key t, x.right = true ∧ (q.kind ≠ 3 → fitsM q x = true) ∧ (q.kind = 3 → q.size ≤ x.to - x.frm) := by
 intro x hx; obtain ⟨h1, h2, h3, h4, h5⟩ := wins_right x hx; refine ⟨h1, fun hk => ?_, fun _ => by omega⟩
 have h0 := (right_iff.1 h1).2.1; unfold fitsM; rw [if_neg hk, List.contains_iff_mem, h2]; unfold winsOf at hx ⊢
 split at hx
 · rename_i hg
   obtain ⟨hq, hkk, ht⟩ := hg; obtain ⟨hkd, hsz, hsl, -, -⟩ := q_size hq; rw [if_pos ⟨hq, hkk, h0, by omega⟩, if_neg hk]
   try rw [if_neg hk] at hx
   by_cases h2k : q.kind = 2
   · rw [if_pos h2k] at hx ⊢; have hs := hsl h2k; obtain ⟨k, hk2, rfl⟩ := List.mem_map.1 hx; refine List.mem_map.2 ⟨k, List.mem_filter.2 ⟨List.mem_range.2 ?_, ?_⟩, rfl⟩
     · simp only; rw [Int.mul_ediv_cancel _ (by omega)]
       omega
     · simp only [decide_eq_true_eq]
       omega
   · rw [if_neg h2k] at hx ⊢; rw [List.mem_singleton.1 hx]
     have e1 : (t - t % q.size) % q.size = 0 := by
      have := Int.mul_ediv_add_emod t q.size; rw [show t - t % q.size = q.size * (t / q.size) by omega]
      exact Int.mul_emod_right _ _
     simp only [e1, Int.sub_zero, List.mem_singleton]
 · cases hx
theorem wins_nodup {q : Qry} {key : List UInt8} {t : Int} : (winsOf q key t).Nodup := by
 unfold winsOf
 split
 · rename_i hg
   obtain ⟨hq, hkk, ht⟩ := hg; obtain ⟨hkd, hsz, hsl, -, -⟩ := q_size hq
   split
   · simp
   · split
     · rename_i h2
       have hs := hsl h2; unfold slideWs; refine List.pairwise_map.2 (pair_mono (R := fun a b : Nat => a ≠ b) (fun a b hab => ?_) (List.Pairwise.sublist List.filter_sublist List.nodup_range))
       intro e; refine hab ?_
       injection e with _ e1 _
       have := Int.eq_of_mul_eq_mul_right (show q.slide ≠ 0 by omega) e1
       omega
     · simp
 · simp
theorem wins_sess {q : Qry} {key : List UInt8} {t : Int} (h : q.kind = 3) : (winsOf q key t).length ≤ 1 := by
 unfold winsOf
 split
 · try rw [if_pos h]
   simp
 · simp
theorem item_time {x : Itm} (h : x.right = true) : 0 ≤ x.time ∧ x.time ≤ 1099511627776 := by
 unfold Itm.right at h; simp only [Bool.and_eq_true, decide_eq_true_eq] at h; exact ⟨h.1.1, h.1.2⟩
theorem step_right {q : Qry} {s : Stt} {x : Itm} (h : (stepM q s x).e = 0) : (stepM q s x).s.right q = true ∧ s.mark ≤ (stepM q s x).s.mark ∧ ∀ o ∈ (stepM q s x).outs, (o = lateO x ∧ (stepM q s x).s = s) ∨ OutAt q (stepM q s x).s.mark (stepM q s x).s.panes o := by
 unfold stepM at h ⊢
 by_cases hr : (s.right q && x.right) = true
 · rw [if_pos hr] at h ⊢; simp only [Bool.and_eq_true] at hr; obtain ⟨h1, h2⟩ := hr; have hi := right_inv h1; obtain ⟨hq, hmk, hlen, -, -, -⟩ := right_parts h1; have hxt := item_time h2
   by_cases hk : x.kind = 2
   · rw [if_pos hk]; simp only; unfold markM
     by_cases hm : x.time ≤ s.mark
     · rw [if_pos hm]; exact ⟨h1, Int.le_refl _, fun o ho => by simp at ho⟩
     · rw [if_neg hm]; simp only
       have hfl : ((s.panes.map (Pn.fire x.time)).filter fun p => !p.w.gone q x.time).length ≤ 256 := by
        have := List.length_filter_le (fun p : Pn => !p.w.gone q x.time) (s.panes.map (Pn.fire x.time))
        rw [List.length_map] at this
        omega
       have hfw : ∀ p : Pn, (p.fire x.time).w = p.w ∧ (p.fire x.time).g = p.g := fun p => by
        unfold Pn.fire
        split <;> exact ⟨rfl, rfl⟩
       have hmw : (s.panes.map (Pn.fire x.time)).map (·.w) = s.panes.map (·.w) := by
        rw [List.map_map]; refine List.map_congr_left (fun p _ => ?_)
        exact (hfw p).1
       have hrm : ∀ y : Wd, y.ripe s.mark = true → y.ripe x.time = true := fun y hy => by
        unfold Wd.ripe at hy ⊢; simp only [Bool.and_eq_true, decide_eq_true_eq] at hy ⊢; exact ⟨hy.1, by omega⟩
       refine ⟨right_make hq ⟨by simp only; omega, hxt.2⟩ hfl ⟨fun p hp => ?_, ?_, fun h3 => ?_⟩, by omega, fun o ho => .inr ?_⟩
       · obtain ⟨g1, g2⟩ := List.mem_filter.1 hp; obtain ⟨y, hy, rfl⟩ := List.mem_map.1 g1; obtain ⟨o1, o2, o3, o4, o5, o6, o7⟩ := ok_parts (hi.ok y hy); obtain ⟨e1, e2⟩ := hfw y; refine ok_make (by rw [e1]; exact o1) (by simpa using g2) ?_ (by rw [e2]; exact o5) (by rw [e2]; exact o6) ?_
         · unfold Pn.fire
           split
           · exact ⟨by simp, by simp⟩
           · exact o4
         · rw [e1]; unfold Pn.fire
           split
           · rename_i hn
             unfold Pn.now at hn; simp only [Bool.and_eq_true] at hn
             simp [hn.2]
           · rename_i hn
             constructor
             · exact fun hc => hrm _ (o7.1 hc)
             · intro hc; refine Decidable.byContradiction (fun hz => hn ?_)
               have : y.round = 0 := by omega
               unfold Pn.now
               simp [this, hc]
       · refine ord_sub ?_ List.filter_sublist; have := hi.ord; refine List.pairwise_map.2 (pair_mono (fun a b hab => ?_) this)
         rw [(hfw a).1, (hfw b).1]; exact hab
       · have hst := stl_pair.1 (hi.stl h3)
         have hsub : (((s.panes.map (Pn.fire x.time)).filter fun p => !p.w.gone q x.time).map (·.w)).Sublist (s.panes.map (·.w)) := by
          rw [← hmw]; exact List.Sublist.map _ List.filter_sublist
         exact stl_pair.2 ⟨fun z hz => hst.1 z (hsub.subset hz), List.Pairwise.sublist hsub hst.2⟩
       · obtain ⟨p, hp, rfl⟩ := List.mem_map.1 ho; obtain ⟨g1, g2⟩ := List.mem_filter.1 ((sortC_perm (s.panes.filter (Pn.now x.time))).subset hp); have g2c := g2; unfold Pn.now at g2; simp only [Bool.and_eq_true, decide_eq_true_eq] at g2; refine ⟨⟨rfl, (ok_parts (hi.ok p g1)).2.1⟩, ripe_to g2.2, by simp [fireO], ?_⟩
         cases hg : p.w.gone q x.time with
         | true =>
          left
          unfold Wd.gone at hg; simp only [Bool.and_eq_true, decide_eq_true_eq] at hg; exact hg.2
         | false =>
          right
          refine ⟨p.fire x.time, List.mem_filter.2 ⟨List.mem_map_of_mem g1, by rw [(hfw p).1, hg]; rfl⟩, (hfw p).1, ?_, ?_⟩
          · unfold Pn.fire; rw [if_pos g2c]
            rfl
          · rw [(hfw p).2]
            rfl
   · rw [if_neg hk] at h ⊢; unfold eventM at h ⊢
     cases hl : laysM q s.mark x.value (winsOf q x.key x.time) ⟨s.panes, [], false⟩ with
     | none => rw [hl] at h; simp at h
     | some y =>
      rw [hl] at h; simp only at h ⊢
      by_cases hf : 256 < y.panes.length
      · rw [if_pos hf] at h
        simp at h
      · rw [if_neg hf]; simp only; obtain ⟨g1, g2, g3⟩ := lays_inv hq (right_val h2 hk) (s := ⟨s.panes, [], false⟩) wins_ok wins_nodup (fun h3 => ⟨wins_sess h3, fun _ => rfl⟩) (fun _ o ho => by simp at ho) hi (fun o ho => by simp at ho) hl
        refine ⟨right_make hq hmk (by simp only; omega) g1, Int.le_refl _, fun o ho => ?_⟩
        cases ht : y.taken with
        | true =>
         rw [ht, if_pos rfl] at ho; exact .inr (g2 o ho)
        | false =>
         obtain ⟨-, e1, e2⟩ := g3 ht; rw [ht] at ho; simp only [Bool.false_eq_true, if_false, e2, List.nil_append, List.mem_singleton] at ho
         left
         refine ⟨ho, ?_⟩; rw [e1]
 · rw [if_neg hr] at h
   simp at h
end Go.Proofs.YtiglgfonhdfpmaaGreat
namespace Go.Proofs.YtiglgfonhdfpmaaGreat
def BestAt (m : Int) (cur : List Pn) (n : Nat) (b : Int) : Prop :=
 (b = -1 ∧ ∀ (j : Nat) p, j < n → cur[j]? = some p → p.now m = false) ∨ ∃ (k : Nat) (p : Pn), b = k ∧ k < n ∧ cur[k]? = some p ∧ p.now m = true ∧ ∀ (j : Nat) y, j < n → cur[j]? = some y → y.now m = true → ¬ y.w.cmp p.w < 0
theorem best_zero (m : Int) (cur : List Pn) : BestAt m cur 0 (-1) := .inl ⟨rfl, fun j p hj _ => by omega⟩
theorem best_no {m : Int} {cur : List Pn} {n : Nat} {b : Int} {p : Pn} (h : BestAt m cur n b) (hp : cur[n]? = some p) (hn : p.now m = false) : BestAt m cur (n + 1) b := by
 rcases h with ⟨rfl, h⟩ | ⟨k, y, rfl, hk, hy, hny, h⟩
 · refine .inl ⟨rfl, fun j z hj hz => ?_⟩
   by_cases e : j = n
   · subst e; rw [hp] at hz; obtain rfl := Option.some.inj hz; exact hn
   · exact h j z (by omega) hz
 · refine .inr ⟨k, y, rfl, by omega, hy, hny, fun j z hj hz hnz => ?_⟩
   by_cases e : j = n
   · subst e; rw [hp] at hz; obtain rfl := Option.some.inj hz; rw [hn] at hnz; cases hnz
   · exact h j z (by omega) hz hnz
theorem best_keep {m : Int} {cur : List Pn} {n k : Nat} {p y : Pn} (h : BestAt m cur n k) (hp : cur[n]? = some p) (hy : cur[k]? = some y) (hc : ¬ p.w.cmp y.w < 0) : BestAt m cur (n + 1) k := by
 rcases h with ⟨e, _⟩ | ⟨k', y', e, hk, hy', hny, h⟩
 · omega
 · obtain rfl : k = k' := by omega
   rw [hy] at hy'; obtain rfl := Option.some.inj hy'; refine .inr ⟨k, y, rfl, by omega, hy, hny, fun j z hj hz hnz => ?_⟩
   by_cases e : j = n
   · subst e; rw [hp] at hz; obtain rfl := Option.some.inj hz; exact hc
   · exact h j z (by omega) hz hnz
theorem best_first {m : Int} {cur : List Pn} {n : Nat} {p : Pn} (h : BestAt m cur n (-1)) (hp : cur[n]? = some p) (hn : p.now m = true) : BestAt m cur (n + 1) n := by
 rcases h with ⟨-, h⟩ | ⟨k, y, e, _⟩
 · refine .inr ⟨n, p, rfl, by omega, hp, hn, fun j z hj hz hnz => ?_⟩
   by_cases e : j = n
   · subst e; rw [hp] at hz; obtain rfl := Option.some.inj hz; rw [cmp_self]
     omega
   · rw [h j z (by omega) hz] at hnz
     cases hnz
 · omega
theorem best_less {m : Int} {cur : List Pn} {n k : Nat} {p y : Pn} (h : BestAt m cur n k) (hp : cur[n]? = some p) (hn : p.now m = true) (hy : cur[k]? = some y) (hc : p.w.cmp y.w < 0) : BestAt m cur (n + 1) n := by
 rcases h with ⟨e, _⟩ | ⟨k', y', e, hk, hy', hny, h⟩
 · omega
 · obtain rfl : k = k' := by omega
   rw [hy] at hy'; obtain rfl := Option.some.inj hy'; refine .inr ⟨n, p, rfl, by omega, hp, hn, fun j z hj hz hnz => ?_⟩
   by_cases e : j = n
   · subst e; rw [hp] at hz; obtain rfl := Option.some.inj hz; rw [cmp_self]
     omega
   · exact fun hc2 => h j z (by omega) hz hnz (cmp_trans hc2 hc)
theorem best_none {m : Int} {cur : List Pn} (h : BestAt m cur cur.length (-1)) : cur.filter (Pn.now m) = [] ∧ cur.map (Pn.fire m) = cur := by
 rcases h with ⟨-, h⟩ | ⟨k, y, e, _⟩
 · have hn : ∀ p ∈ cur, p.now m = false := fun p hp => by
    obtain ⟨i, hi⟩ := List.getElem?_of_mem hp; exact h i p (List.getElem?_eq_some_iff.1 hi).1 hi
   refine ⟨List.filter_eq_nil_iff.2 (fun p hp => by rw [hn p hp]; simp), ?_⟩
   refine (List.map_congr_left (fun p hp => ?_)).trans (List.map_id cur)
   unfold Pn.fire; rw [hn p hp]
   rfl
 · omega
theorem fire_not (m : Int) (p : Pn) : (p.fire m).now m = false := by
 unfold Pn.fire
 split
 · unfold Pn.now
   simp
 · rename_i h
   simpa using h
theorem fire_w (m : Int) (p : Pn) : (p.fire m).w = p.w := by
 unfold Pn.fire
 split <;> rfl
theorem best_take {m : Int} {cur : List Pn} {k : Nat} {p : Pn} (hne : cur.Pairwise fun a b => a.w ≠ b.w) (hk : cur[k]? = some p) (hp : p.now m = true) (hb : ∀ (j : Nat) y, cur[j]? = some y → y.now m = true → ¬ y.w.cmp p.w < 0) :
    sortC (cur.filter (Pn.now m)) = p :: sortC ((cur.set k (p.fire m)).filter (Pn.now m)) ∧ (cur.set k (p.fire m)).map (Pn.fire m) = cur.map (Pn.fire m) ∧ (cur.set k (p.fire m)).map (·.w) = cur.map (·.w) := by
 obtain ⟨hlt, hx⟩ := List.getElem?_eq_some_iff.1 hk; obtain ⟨A, B, rfl, hA⟩ : ∃ A B, cur = A ++ p :: B ∧ A.length = k := ⟨cur.take k, cur.drop (k + 1), by rw [← hx, ← List.drop_eq_getElem_cons hlt, List.take_append_drop], by rw [List.length_take]; omega⟩
 have hs : (A ++ p :: B).set k (p.fire m) = A ++ p.fire m :: B := by rw [← hA]; simp
 have hff : (p.fire m).fire m = p.fire m := by
  have := fire_not m p; obtain ⟨z, hz⟩ := zNm (p.fire m); rw [hz] at this ⊢; unfold Pn.fire; rw [this]
  rfl
 rw [hs]; refine ⟨?_, by simp [hff], by simp [fire_w]⟩
 have e1 : (A ++ p :: B).filter (Pn.now m) = A.filter (Pn.now m) ++ p :: B.filter (Pn.now m) := by simp [List.filter_cons, hp]
 have e2 : (A ++ p.fire m :: B).filter (Pn.now m) = A.filter (Pn.now m) ++ B.filter (Pn.now m) := by simp [List.filter_cons, fire_not]
 obtain ⟨n1, n2, n3⟩ := List.pairwise_append.1 hne; have n4 := List.pairwise_cons.1 n2
 have hne1 : (A.filter (Pn.now m) ++ p :: B.filter (Pn.now m)).Pairwise fun a b => a.w ≠ b.w := by
  rw [← e1]; exact List.Pairwise.sublist List.filter_sublist hne
 have hne2 : (A.filter (Pn.now m) ++ B.filter (Pn.now m)).Pairwise fun a b => a.w ≠ b.w := List.Pairwise.sublist ((List.Sublist.refl _).append (List.sublist_cons_self _ _)) hne1
 rw [e1, e2]; refine sortC_is hne1 (List.pairwise_cons.2 ⟨fun y hy => ?_, sortC_fire hne2⟩) (((sortC_perm _).cons p).trans List.perm_middle.symm)
 have hm := (sortC_perm _).subset hy
 have hy2 : y ∈ A ++ p :: B ∧ y.now m = true ∧ y.w ≠ p.w := by
  rcases List.mem_append.1 hm with hm | hm
  · obtain ⟨g1, g2⟩ := List.mem_filter.1 hm; exact ⟨List.mem_append_left _ g1, g2, n3 y g1 p (by simp)⟩
  · obtain ⟨g1, g2⟩ := List.mem_filter.1 hm; exact ⟨List.mem_append_right _ (List.mem_cons_of_mem _ g1), g2, fun e => n4.1 y g1 e.symm⟩
 obtain ⟨h1, h2, h3⟩ := hy2; obtain ⟨j, hj⟩ := List.getElem?_of_mem h1; have h4 := hb j y hj h2; have h5 : y.w.cmp p.w ≠ 0 := fun e => h3 (cmp_zero e)
 rw [cmp_swap y.w p.w]
 omega
end Go.Proofs.YtiglgfonhdfpmaaGreat
namespace Go.Proofs.YtiglgfonhdfpmaaGreat
theorem take_gave (x : Wd) : ∀ (l : List Wd) (i : Nat), (i : Int) ∈ (takeF l x).gave ↔ ∃ o, l[i]? = some o ∧ o.joins x = true := by
 refine snoc_ind (p := fun l => ∀ i : Nat, (i : Int) ∈ (takeF l x).gave ↔ ∃ o, l[i]? = some o ∧ o.joins x = true) ?_ ?_
 · intro i
   simp [takeF]
 · intro l o ih i; have hn := takeF_n l x; rw [takeF_snoc]; unfold takeStep
   by_cases hi : i < l.length
   · have e1 : (l ++ [o])[i]? = l[i]? := List.getElem?_append_left hi; rw [e1, ← ih i]
     split
     · simp only [List.mem_append, List.mem_singleton]
       constructor
       · rintro (h | h)
         · exact h
         · omega
       · exact .inl
     · exact Iff.rfl
   · have hnot : ¬ (i : Int) ∈ (takeF l x).gave := fun h => by
      have := takeF_gave l x _ h
      omega
     by_cases he : i = l.length
     · subst he; have e1 : (l ++ [o])[l.length]? = some o := by simp
       rw [e1]
       split
       · rename_i hj
         simp only [List.mem_append, List.mem_singleton, hn]; exact ⟨fun _ => ⟨o, rfl, hj⟩, fun _ => .inr trivial⟩
       · rename_i hj
         constructor
         · exact fun h => absurd h hnot
         · rintro ⟨y, hy, hy2⟩
           injection hy with hy
           subst hy; exact absurd hy2 hj
     · have e1 : (l ++ [o])[i]? = none := by
        rw [List.getElem?_eq_none_iff]
        simp
        omega
       rw [e1]
       constructor
       · intro h
         split at h
         · simp only [List.mem_append, List.mem_singleton] at h; rcases h with h | h
           · exact absurd h hnot
           · omega
         · exact absurd h hnot
       · rintro ⟨y, hy, -⟩; cases hy
def gaveW (l : List Wd) (G : List Int) : List Wd := G.map fun i => (l[i.toNat]?).getD wd000
theorem gave_has {l : List Wd} {x y : Wd} (hy : y ∈ l) : (gaveW l (takeF l x).gave).contains y = y.joins x := by
 rw [Bool.eq_iff_iff, List.contains_iff_mem]; unfold gaveW; rw [List.mem_map]
 constructor
 · rintro ⟨i, hi, e⟩; have hr := takeF_gave l x i hi; obtain ⟨n, rfl⟩ : ∃ n : Nat, i = (n : Int) := ⟨i.toNat, by omega⟩
   obtain ⟨o, ho, hj⟩ := (take_gave x l n).1 hi; simp only [Int.toNat_natCast, ho, Option.getD_some] at e; rw [← e]; exact hj
 · intro hj; obtain ⟨n, hn⟩ := List.getElem?_of_mem hy; exact ⟨(n : Int), (take_gave x l n).2 ⟨y, hn, hj⟩, by simp [hn]⟩
def docOld (q : Qry) (l : List Wd) (own : Wd) : List Wd := if q.kind = 3 then gaveW l (takeF l own).gave else if l.contains own = true then [own] else []
theorem doc_old {q : Qry} {l : List Wd} {own y : Wd} (hy : y ∈ l) : (docOld q l own).contains y = oldM q own y := by
 unfold docOld oldM
 by_cases hk : q.kind = 3
 · rw [if_pos hk, if_pos hk]; exact gave_has hy
 · rw [if_neg hk, if_neg hk]
   by_cases h : l.contains own = true
   · rw [if_pos h, Bool.eq_iff_iff, List.contains_iff_mem]
     simp
   · rw [if_neg h, Bool.eq_iff_iff, List.contains_iff_mem]; simp only [List.not_mem_nil, false_iff, decide_eq_true_eq]; intro e; rw [e] at hy; exact h (List.contains_iff_mem.2 hy)
theorem gone_right {q : Qry} {x : Wd} {mk : Int} (hq : q.right = true) (hx : x.right = true) : x.gone q mk = decide (x.to + q.late ≤ mk) := by
 unfold Wd.gone; rw [hq, hx]
 simp
theorem ripe_right {x : Wd} {mk : Int} (hx : x.right = true) : x.ripe mk = decide (x.to ≤ mk) := by
 unfold Wd.ripe; rw [hx]
 simp
end Go.Proofs.YtiglgfonhdfpmaaGreat
