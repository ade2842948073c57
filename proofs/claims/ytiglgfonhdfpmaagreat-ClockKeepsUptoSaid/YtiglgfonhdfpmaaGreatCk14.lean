import Derived.Test.YtiglgfonhdfpmaaGreatCk1
import Derived.Test.YtiglgfonhdfpmaaGreatCk2
import Derived.Test.YtiglgfonhdfpmaaGreatCk3
import Derived.Test.YtiglgfonhdfpmaaGreatCk4
import Derived.Test.YtiglgfonhdfpmaaGreatCk5
import Derived.Test.YtiglgfonhdfpmaaGreatCk13
import Derived.Deep.CutBlock
import Derived.Lib.ItoaNum
import Derived.Lib.AtoiAll
import Derived.Lib.Split
import Derived.Lib.SplitLaws
import Derived.Lib.IndexLaws
import Derived.Lib.CountLaws
/- The stepper's mark. Conditions: the state is right. (Printed by a program of mine.) -/
set_option linter.unusedVariables false
set_option linter.unusedSimpArgs false
namespace Go.Proofs.YtiglgfonhdfpmaaGreat
open Go.RowKit

theorem Tryz.info198 : (Tryz.prog.info? 198).map (fun i => (i.zero, i.size, i.bytes)) = some (some (.pointer none), 1, 8) := by kernel_rfl
theorem ptrs_app (g : Nat) (a b : List Nat) : ptrs g (a ++ b) = ptrs g a ++ ptrs g b := by unfold ptrs; rw [List.map_append]
theorem nowI_len (m : Int) (ms : List Pm) (n : Nat) : (nowI m ms n).length ≤ n := by
  unfold nowI
  have := List.length_filter_le (nowAt m ms) (List.range n)
  rwa [List.length_range] at this

set_option maxHeartbeats 2000000 in
set_option maxRecDepth 100000 in
theorem mark_no {t : Nat} {q : Qry} {mk at1 : Int} {l : List Pn} {o : List Ot} {w : World} {S : Nat → Prop} (hle : at1 ≤ mk) (H0 : Sep w [Stp t q mk l o] S) :
    Calls Tryz.prog 72 #[.pointer (some ⟨t, 0, none⟩), .int .i64 at1] w fun e w' => e = .returned (.tuple #[]) ∧ St S w w' [Stp t q mk l o] := by
  obtain ⟨pv, ov, ms, os, H, hml, hol, hmo, hoo, H1⟩ := Stp.open (St.refl H0)
  have hmlh := Lib.hid hml
  have holh := Lib.hid hol
  have hmoh := Lib.hid hmo
  have hooh := Lib.hid hoo
  clear hml hol hmo hoo H0
  have H2 : St S w _ (_ :: _) := H1.allocAt rfl #[.pointer (some ⟨t, 0, none⟩)] 135
  have H3 : St S w _ (_ :: _) := H2.allocAt (B := w.heap.size + 1) (Array.size_push _) #[.int .i64 at1] 3
  obtain ⟨b2, hb2⟩ : ∃ b, w.heap.size = b := ⟨_, rfl⟩
  obtain ⟨b3, hb3⟩ : ∃ b, b2 + 1 = b := ⟨_, rfl⟩
  obtain ⟨w1, hw1⟩ : ∃ z, (w.alloc (.cells #[.pointer (some ⟨t, 0, none⟩)] 135)).alloc (.cells #[.int .i64 at1] 3) = z := ⟨_, rfl⟩
  go_enter Tryz.func72, Tryz.ntmps72
  go_upto_region 1 with (fail)
  rw [hw1, hb2, hb3] at H3
  try rw [hw1]
  try simp only [hb2, hb3]
  have H4 : St S w w1 [Blk b3 #[.int .i64 at1] 3, Blk b2 #[.pointer (some ⟨t, 0, none⟩)] 135, Blk t (stC q mk pv ov) 137, Row 68 8 pv ms.length (encP.all ms), Row 63 10 ov os.length (encO.all os), Pool H] := H3
  have hb2h := Lib.hid hb2
  clear hw1 hb2 hb3 H1 H2 H3
  refine wp_calm (fun w' => St S w w' [Blk b3 #[.int .i64 at1] 3, Blk b2 #[.pointer (some ⟨t, 0, none⟩)] 135, Blk t (stC q mk pv ov) 137, Row 68 8 pv ms.length (encP.all ms), Row 63 10 ov os.length (encO.all os), Pool H]) (by kernel_rfl) (by kernel_rfl) (H4.drew) ?_
  iterate 7 first
    | (apply calm_pass
       · rfl
       intro K hK
       go_simp
       refine hK _ ?_
       clear hK K)
    | (apply calm_step
       · rfl
       · intro w1 h1
         have c0 := h1.cell 0 0 rfl rfl
         have c1 := h1.cell 1 0 rfl rfl
         have c6 := h1.cell 2 6 rfl rfl
         first
           | (go_simp
              first
                | rfl
                | exact ⟨rfl, h1⟩
             )
       intro K hK
       go_simp
       refine hK _ ?_
       clear hK K)
  refine calm_nil ?_
  intro w2 H5
  go_wp2
  refine bodyPost_ret (results_none rfl _ _ _) rfl ?_
  exact ⟨rfl, Stp.mk' hmlh.out holh.out hmoh.out hooh.out (H5.pick [2, 3, 4, 5])⟩

set_option maxHeartbeats 8000000 in
set_option maxRecDepth 100000 in
theorem mark_yes {t : Nat} {q : Qry} {mk at1 : Int} {l : List Pn} {o : List Ot} {w : World} {S : Nat → Prop} (hle : ¬ at1 ≤ mk) (hs : Stt.right q ⟨mk, l⟩ = true) (hol : o.length ≤ 1073741000) (hne : l ≠ []) (H0 : Sep w [Stp t q mk l o] S) :
    Calls Tryz.prog 72 #[.pointer (some ⟨t, 0, none⟩), .int .i64 at1] w fun e w' => e = .returned (.tuple #[]) ∧ St S w w' [Stp t q at1 ((l.map (Pn.fire at1)).filter fun p => !p.w.gone q at1) (o ++ (sortC (l.filter (Pn.now at1))).map (fireO q))] := by
  obtain ⟨hq, hmk, hlen, hall, hord, -⟩ := right_parts hs
  simp only at hmk hlen hall hord
  have hokp := fun p hp => ok_parts (hall p hp)
  obtain ⟨pv, ov, ms, os, H, rfl, rfl, hmo, hoo, H1⟩ := Stp.open (St.refl H0)
  clear H0 hs hall
  rw [List.length_map] at hlen hol
  have hms : ms ≠ [] := fun e => hne (by rw [e]; rfl)
  have hml : ms.length ≠ 0 := fun h => hms (List.eq_nil_of_length_eq_zero h)
  obtain ⟨g, cap, R, rfl, hnc, hcm, hxl, hcs, HB⟩ := H1.row_blk 1 rfl hml
  have HB : St S w w [Blk t (stC q mk (.slice (some ⟨g, 0, none⟩) ms.length cap) ov) 137, Blk g (encP.all ms ++ R).toArray 68, Row 63 10 ov os.length (encO.all os), Pool H] := HB
  have kr := Lib.hid (fun (m : Pm) (hm : m ∈ ms) w' => wd_ripe m.p.w (fits_right (hokp m.p (List.mem_map.2 ⟨m, hm, rfl⟩)).2.1) at1 w')
  have hgr := Lib.hid (fun (m : Pm) (hm : m ∈ ms) => (hokp m.p (List.mem_map.2 ⟨m, hm, rfl⟩)).2.2.2.2.1)
  have hrd := Lib.hid (fun (m : Pm) (hm : m ∈ ms) => (hokp m.p (List.mem_map.2 ⟨m, hm, rfl⟩)).2.2.2.1)
  have hwf := Lib.hid (fun (m : Pm) (hm : m ∈ ms) => fits_right (hokp m.p (List.mem_map.2 ⟨m, hm, rfl⟩)).2.1)
  have hordh := Lib.hid hord
  have hmoh := Lib.hid hmo
  have hooh := Lib.hid hoo
  have hcsh := Lib.hid hcs
  clear hokp hord hmo hoo hne hms H1 hcs hxl hq
  have H2 : St S w _ (_ :: _) := HB.allocAt rfl #[.pointer (some ⟨t, 0, none⟩)] 135
  have H3 : St S w _ (_ :: _) := H2.allocAt (B := w.heap.size + 1) (Array.size_push _) #[.int .i64 at1] 3
  obtain ⟨b2, hb2⟩ : ∃ b, w.heap.size = b := ⟨_, rfl⟩
  obtain ⟨b3, hb3⟩ : ∃ b, b2 + 1 = b := ⟨_, rfl⟩
  obtain ⟨w1, hw1⟩ : ∃ z, (w.alloc (.cells #[.pointer (some ⟨t, 0, none⟩)] 135)).alloc (.cells #[.int .i64 at1] 3) = z := ⟨_, rfl⟩
  go_enter Tryz.func72, Tryz.ntmps72
  go_upto_region 1 with (fail)
  rw [hw1, hb2, hb3] at H3
  try rw [hw1]
  try simp only [hb2, hb3]
  have H4 : St S w w1 [Blk b3 #[.int .i64 at1] 3, Blk b2 #[.pointer (some ⟨t, 0, none⟩)] 135, Blk t (stC q mk (.slice (some ⟨g, 0, none⟩) ms.length cap) ov) 137, Blk g (encP.all ms ++ R).toArray 68, Row 63 10 ov os.length (encO.all os), Pool H] := H3
  have hb2h := Lib.hid hb2
  clear hw1 hb2 hb3 HB H2 H3
  refine wp_calm (fun w' => St S w w' [Blk b3 #[.int .i64 at1] 3, Blk b2 #[.pointer (some ⟨t, 0, none⟩)] 135, Blk t (stC q mk (.slice (some ⟨g, 0, none⟩) ms.length cap) ov) 137, Blk g (encP.all ms ++ R).toArray 68, Row 63 10 ov os.length (encO.all os), Pool H]) (by kernel_rfl) (by kernel_rfl) (H4.drew) ?_
  iterate 7 first
    | (apply calm_pass
       · rfl
       intro K hK
       go_simp
       refine hK _ ?_
       clear hK K)
    | (apply calm_step
       · rfl
       · intro w1 h1
         have c0 := h1.cell 0 0 rfl rfl
         have c1 := h1.cell 1 0 rfl rfl
         have c6 := h1.cell 2 6 rfl rfl
         first
           | (go_simp
              first
                | rfl
                | exact ⟨rfl, h1⟩
             )
       intro K hK
       go_simp
       refine hK _ ?_
       clear hK K)
  refine calm_nil ?_
  intro w2 H5
  clear H4
  have c0 := H5.cell 0 0 rfl rfl
  have c1 := H5.cell 1 0 rfl rfl
  have c6 := H5.cell 2 6 rfl rfl
  have f6 := H5.free 2 6 rfl
  have H6 := H5.set 2 rfl 6 (.int .i64 at1)
  go_upto_region 3 with (fail)
  obtain ⟨w3, hw3⟩ : ∃ z, w2.setCell ⟨t, 6, none⟩ (.int .i64 at1) = z := ⟨_, rfl⟩
  rw [hw3] at H6
  try rw [hw3]
  clear hw3 c0 c1 c6 f6 H5
  have H7 : St S w w3 [Row 198 1 (.slice none 0 0) 0 (ptrs g []), Blk b3 #[.int .i64 at1] 3, Blk b2 #[.pointer (some ⟨t, 0, none⟩)] 135, Blk t (stC q at1 (.slice (some ⟨g, 0, none⟩) ms.length cap) ov) 137, Blk g (encP.all ms ++ R).toArray 68, Row 63 10 ov os.length (encO.all os), Pool H] := H6.row_nil 198 1
  clear H6
  have c1 := H7.cell 2 0 rfl rfl
  have c7 := H7.cell 3 7 rfl rfl
  go_upto_block 1 with (fail)
  clear c1 c7
  go_loopw [4, 5, 6, 27] (fun u _ _ j wr => ∃ (i : Nat), i ≤ ms.length ∧ j = .int .i64 i ∧ Hid (nowI at1 ms i = [] → u = .slice none 0 0) ∧ St S w wr [Row 198 1 u (nowI at1 ms i).length (ptrs g (nowI at1 ms i)), Blk b3 #[.int .i64 at1] 3, Blk b2 #[.pointer (some ⟨t, 0, none⟩)] 135, Blk t (stC q at1 (.slice (some ⟨g, 0, none⟩) ms.length cap) ov) 137, Blk g (encP.all ms ++ R).toArray 68, Row 63 10 ov os.length (encO.all os), Pool H]) (fun _ _ _ j _ => ms.length - (intOf j).toNat)
  case atStart => exact ⟨0, by omega, rfl, Lib.hid (fun _ => rfl), H7⟩
  case round =>
    clear H7
    obtain ⟨i, hi, rfl, hnil, HM⟩ := hrel
    have hnl := nowI_len at1 ms i
    by_cases hlt : i < ms.length
    · obtain ⟨m, hm⟩ : ∃ m, ms[i]? = some m := ⟨_, List.getElem?_eq_getElem hlt⟩
      have krm := kr.out m (List.mem_of_getElem? hm)
      have hno : nowAt at1 ms i = (decide (m.p.round = 0) && m.p.w.ripe at1) := by unfold nowAt; rw [hm]; rfl
      have hsucc := nowI_succ at1 ms i
      obtain ⟨rp, hrp⟩ : ∃ z, m.p.w.ripe at1 = z := ⟨_, rfl⟩
      rw [hrp] at hno
      simp only [hrp] at krm
      have hmh := Lib.hid hm
      have hnoh := Lib.hid hno
      have hsucch := Lib.hid hsucc
      have hi2 : (i : Int) < (ms.length : Int) := by omega
      clear hm hrp hno hsucc
      obtain ⟨⟨⟨xk, xf, xt⟩, ⟨gn, ga, gt, gx, gy⟩, xr⟩, xa, xc⟩ := m
      unfold wdV wdC textV at krm
      simp only at krm hnoh
      have c1 := HM.cell 2 0 rfl rfl
      have c7 := HM.cell 3 7 rfl rfl
      go_upto_region 8 with (fail)
      clear c1 c7
      have hcc : (¬ xr = 0) ∨ (xr = 0 ∧ rp = false) ∨ (xr = 0 ∧ rp = true) := by
        by_cases h : xr = 0
        · cases rp
          · exact .inr (.inl ⟨h, rfl⟩)
          · exact .inr (.inr ⟨h, rfl⟩)
        · exact .inl h
      rcases hcc with hx0 | ⟨hx0, rfl⟩ | ⟨hx0, rfl⟩
      case' inl => have hx0' : (xr == 0) = false := by simpa using hx0
      case' inr.inl => subst hx0
      case' inr.inr => subst hx0
      all_goals
        refine wp_calm (fun w' => St S w w' [Row 198 1 u4 (nowI at1 ms i).length (ptrs g (nowI at1 ms i)), Blk b3 #[.int .i64 at1] 3, Blk b2 #[.pointer (some ⟨t, 0, none⟩)] 135, Blk t (stC q at1 (.slice (some ⟨g, 0, none⟩) ms.length cap) ov) 137, Blk g (encP.all ms ++ R).toArray 68, Row 63 10 ov os.length (encO.all os), Pool H]) (by kernel_rfl) (by kernel_rfl) (HM.drew) ?_
        iterate 13 first
          | (apply calm_pass
             · rfl
             intro K hK
             go_simp
             refine hK _ ?_
             clear hK K)
          | (apply calm_step
             · rfl
             · intro w1 h1
               obtain ⟨p0, p1, p2, p3, p4, p5, p6, p7⟩ := pn_blk (h1.blk 4 rfl) hmh.out
               unfold textV at p0
               simp only at p0 p1 p2 p7
               have d0 := h1.cell 1 0 rfl rfl
               first
                 | (go_simp
                    first
                      | rfl
                      | exact ⟨rfl, h1⟩
                      | (go_at_call 129; with_reducible exact St.callPast (krm w1) h1)
                   )
             intro K hK
             go_simp
             refine hK _ ?_
             clear hK K)
        refine calm_nil ?_
        intro w5 H5
      case inl =>
        have hn : nowAt at1 ms i = false := by rw [hnoh.out, decide_eq_false hx0]; rfl
        have hs1 := hsucch.out
        rw [hn, if_neg (by simp), List.append_nil] at hs1
        have hs1h := Lib.hid hs1
        clear hn hs1
        go_wp2
        go_roundw
        case rel => exact ⟨i + 1, by omega, by go_num, Lib.hid (by rw [hs1h.out]; exact hnil.out), by rw [hs1h.out]; exact H5⟩
        case measure => simp [intOf]; omega
      case inr.inl =>
        have hn : nowAt at1 ms i = false := by rw [hnoh.out]; rfl
        have hs1 := hsucch.out
        rw [hn, if_neg (by simp), List.append_nil] at hs1
        have hs1h := Lib.hid hs1
        clear hn hs1
        go_wp2
        go_roundw
        case rel => exact ⟨i + 1, by omega, by go_num, Lib.hid (by rw [hs1h.out]; exact hnil.out), by rw [hs1h.out]; exact H5⟩
        case measure => simp [intOf]; omega
      case inr.inr =>
        have hn : nowAt at1 ms i = true := by rw [hnoh.out]; rfl
        have hs1 := hsucch.out
        rw [hn, if_pos rfl] at hs1
        have hs1h := Lib.hid hs1
        clear hn hs1
        go_wp2_with (at_builtin; go_must (refine St.list_app (H5.skip _) 0 rfl rfl (.tmp 50) (.tmp 52) 197 rfl Tryz.underlying197 Tryz.info198 (by decide) rfl [.pointer (some ⟨g, i * 8, none⟩)] rfl rfl (new_cells #[.pointer (some ⟨g, i * 8, none⟩)] _) (by simp [Value.oneCell']) (by omega) (by omega) ?_; intro g5 cap5 w6 H6 hz6))
        go_roundw
        case rel =>
          refine ⟨i + 1, by omega, by go_num, Lib.hid (by rw [hs1h.out]; intro h; simp at h), ?_⟩
          rw [hs1h.out, ptrs_app, List.length_append, List.length_singleton]
          exact H6
        case measure => simp [intOf]; omega
    · obtain rfl : i = ms.length := by omega
      clear hlt
      have ksort : Calls Tryz.prog 130 #[u4, .func (.func 131) #[] #[]] wr fun e w' => ∃ idx', e = .returned (.tuple #[]) ∧ idx'.Perm (nowI at1 ms ms.length) ∧ (idx'.Pairwise fun a b => ∀ x y, ms[a]? = some x → ms[b]? = some y → ¬ y.p.w.cmp x.p.w < 0) ∧
          St S w w' [Row 198 1 u4 (nowI at1 ms ms.length).length (ptrs g idx'), Blk b3 #[.int .i64 at1] 3, Blk b2 #[.pointer (some ⟨t, 0, none⟩)] 135, Blk t (stC q at1 (.slice (some ⟨g, 0, none⟩) ms.length cap) ov) 137, Blk g (encP.all ms ++ R).toArray 68, Row 63 10 ov os.length (encO.all os), Pool H] := by
        by_cases he : nowI at1 ms ms.length = []
        · rw [hnil.out he]
          refine (sort_nil wr _).mono ?_
          rintro e w' ⟨rfl, rfl⟩
          refine ⟨[], rfl, by rw [he], List.Pairwise.nil, ?_⟩
          rw [hnil.out he, he] at HM
          rw [he]
          exact HM
        · obtain ⟨ao, cp, rfl, hcp, hao⟩ := slice_form' (HM.row 0 rfl)
          have hl0 : (nowI at1 ms ms.length).length ≠ 0 := fun h => he (List.eq_nil_of_length_eq_zero h)
          obtain ⟨rb, rfl⟩ := hao hl0
          refine (pns_sort (HM.pick [0, 4, 1, 2, 3, 5, 6]) hl0 (by omega) (fun j hj => (nowI_mem.1 hj).1)).mono ?_
          rintro e w' ⟨idx', rfl, h1, h2, h3⟩
          exact ⟨idx', rfl, h1, h2, h3.pick [0, 2, 3, 4, 1, 5, 6]⟩
      obtain ⟨ua, uc, hu4, huc, hua⟩ := slice_form' (HM.row 0 rfl)
      have hndp := nowI_nodup at1 ms ms.length
      obtain ⟨I0, hI0⟩ : ∃ z, nowI at1 ms ms.length = z := ⟨_, rfl⟩
      rw [hI0] at ksort hnl hndp hu4 huc hua
      obtain ⟨N, hN⟩ : ∃ z, I0.length = z := ⟨_, rfl⟩
      rw [hN] at ksort hnl hu4 huc hua
      have hI0h := Lib.hid hI0
      have hNh := Lib.hid hN
      have huah := Lib.hid hua
      have hndph := Lib.hid hndp
      subst hu4
      clear hI0 hN hua hndp hnil HM
      go_upto_block 3 with (go_at_call 130; go_must (refine ksort.mono ?_; rintro e w6 ⟨idx, rfl, hperm, hsrt, H6⟩))
      clear ksort
      have hil : idx.length = N := by rw [hperm.length_eq]; exact hNh.out
      have hnd : idx.Nodup := hperm.nodup_iff.2 hndph.out
      have hilh := Lib.hid hil
      have hndh := Lib.hid hnd
      have hpermh := Lib.hid hperm
      have hsrth := Lib.hid hsrt
      clear hil hnd hperm hsrt
      go_loopw [8, 59] (fun _ jj wr => ∃ (j : Nat) (cur : List Pm) (os2 : List Om) (ov2 : Value) (HH : List (Value × List Int)), j ≤ N ∧ jj = .int .i64 j ∧ Hid (FiredAt ms cur (idx.take j)) ∧ Hid (os2.map (·.o) = os.map (·.o) ++ (panesAt ms (idx.take j)).map (fireO q)) ∧ Hid (∀ m ∈ cur, Pm.own m ∈ HH) ∧ Hid (∀ y ∈ os2, Om.own y ∈ HH) ∧ os2.length ≤ os.length + j ∧ St S w wr [Row 198 1 (.slice ua N uc) N (ptrs g idx), Blk b3 #[.int .i64 at1] 3, Blk b2 #[.pointer (some ⟨t, 0, none⟩)] 135, Blk t (stC q at1 (.slice (some ⟨g, 0, none⟩) ms.length cap) ov2) 137, Blk g (encP.all cur ++ R).toArray 68, Row 63 10 ov2 os2.length (encO.all os2), Pool HH]) (fun _ jj _ => N - (intOf jj).toNat)
      case atStart => exact ⟨0, ms, os, ov, H, by omega, rfl, Lib.hid (fired_nil ms), Lib.hid (by simp [panesAt]), hmoh, hooh, by omega, H6⟩
      case round =>
        clear H6
        obtain ⟨j, cur, os2, ov2, HH, hj, rfl, hfired, hosm, hmo2, hoo2, hol2, HM⟩ := hrel
        by_cases hlt : j < N
        · obtain ⟨k, hk⟩ : ∃ k, idx[j]? = some k := ⟨_, List.getElem?_eq_getElem (by have := hilh.out; omega)⟩
          obtain ⟨rb, rfl⟩ := huah.out (by omega)
          have hkm := List.mem_of_getElem? hk
          have hkn : k ∈ nowI at1 ms ms.length := by rw [hI0h.out]; exact hpermh.out.mem_iff.1 hkm
          obtain ⟨hkl, hkno⟩ := nowI_mem.1 hkn
          obtain ⟨m, hm⟩ : ∃ m, ms[k]? = some m := ⟨_, List.getElem?_eq_getElem hkl⟩
          have hmm := List.mem_of_getElem? hm
          have hr0 : m.p.round = 0 := by
            unfold nowAt at hkno
            rw [hm] at hkno
            unfold Pn.now at hkno
            simp only [Bool.and_eq_true, decide_eq_true_eq] at hkno
            exact hkno.1
          have htk := take_snoc' hk
          have hnotin : k ∉ idx.take j := fun h => by
            have hnd2 := hndh.out
            rw [← List.take_append_drop j idx, drop_cons_of hk] at hnd2
            have := (List.nodup_append.1 hnd2).2.2
            exact this k h k (List.mem_cons_self) rfl
          obtain ⟨hcur, hnext⟩ := fired_snoc hfired.out hnotin hm
          have hpan : panesAt ms (idx.take (j + 1)) = panesAt ms (idx.take j) ++ [m.p] := by
            rw [htk]
            unfold panesAt
            rw [List.filterMap_append]
            congr 1
            have : atP ms k = some m.p := by unfold atP; rw [hm]; rfl
            simp [this]
          rw [← htk] at hnext
          have hcell : wr.cell? ⟨rb, j, none⟩ = some (.pointer (some ⟨g, k * 8, none⟩)) := own_cell (HM.row 0 rfl) (by unfold ptrs; rw [List.getElem?_map, hk]; rfl)
          have HF : St S w wr [Blk t (stC q at1 (.slice (some ⟨g, 0, none⟩) ms.length cap) ov2) 137, Blk g (encP.all cur ++ R).toArray 68, Row 63 10 ov2 os2.length (encO.all os2), Pool HH, Row 198 1 (.slice (some ⟨rb, 0, none⟩) N uc) N (ptrs g idx), Blk b3 #[.int .i64 at1] 3, Blk b2 #[.pointer (some ⟨t, 0, none⟩)] 135] := HM.pick [3, 4, 5, 6, 0, 1, 2]
          obtain ⟨S1, K1, G1⟩ := St.call (l1 := [_, _, _, _]) (l2 := [_, _, _]) HF
          have kf := step_fire (i := k) (m := m) hcur (hgr.out m hmm) (hrd.out m hmm) (hmo2.out m (List.mem_of_getElem? hcur)) (by omega) K1
          have c1 := HM.cell 2 0 rfl rfl
          have hj2 : (j : Int) < (N : Int) := by omega
          have hnexth := Lib.hid hnext
          have hpanh := Lib.hid hpan
          have hr0h := Lib.hid hr0
          have hcurh := Lib.hid hcur
          clear hk hkm hkn hkl hkno hm htk hnotin hcur hnext hpan hr0 HM HF K1
          go_wp2_with (go_at_call 133; go_must (refine kf.mono ?_; rintro e w7 ⟨ov3, ad3, cap3, rfl, H7⟩))
          go_roundw
          case rel =>
            have H8 := G1 _ _ H7
            refine ⟨j + 1, cur.set k (fire1 m), os2 ++ [⟨⟨false, itm00, m.p.w, m.p.round + 1, valueM q m.p.g⟩, ad3, cap3⟩], ov3, (.slice ad3 (valueM q m.p.g).length cap3, valueM q m.p.g) :: HH, by omega, by go_num, Lib.hid hnexth.out, Lib.hid ?_, Lib.hid (mem_set_own hmo2.out k (List.mem_cons_of_mem _ (hmo2.out m (List.mem_of_getElem? hcurh.out))) (fun y hy => List.mem_cons_of_mem _ hy)), Lib.hid (fun y hy => ?_), by rw [List.length_append, List.length_singleton]; omega, ?_⟩
            · rw [hpanh.out, List.map_append, List.map_append, hosm.out, hr0h.out, List.append_assoc]
              rfl
            · rcases List.mem_append.1 hy with hy | hy
              · exact List.mem_cons_of_mem _ (hoo2.out y hy)
              · rw [List.mem_singleton.1 hy]; exact List.mem_cons_self
            · rw [List.length_append, List.length_singleton]
              exact H8.pick [4, 5, 6, 0, 1, 2, 3]
          case measure => simp [intOf]; omega
        · obtain rfl : j = N := by omega
          clear hlt
          have hidl : idx.take j = idx := List.take_of_length_le (by rw [hilh.out]; exact Nat.le_refl _)
          have hfr := hfired.out
          have hom := hosm.out
          rw [hidl] at hfr hom
          have hpn : idx.Perm (nowI at1 ms ms.length) := by rw [hI0h.out]; exact hpermh.out
          have hall := fired_all hfr hpn
          have hsr2 : idx.Pairwise fun a b => ∀ x y, ms[a]? = some x → ms[b]? = some y → ¬ y.p.w.cmp x.p.w < 0 := by
            rw [List.pairwise_iff_getElem]
            intro a b ha hb hab x y hx hy
            have := List.pairwise_iff_getElem.1 hsrth.out a b ha hb hab x y hx hy
            omega
          rw [fire_order hordh.out hpn hsr2] at hom
          have hcl := hfr.1
          have hcw : ∀ m ∈ cur, m.p.w.fits := fun m hm => by
            obtain ⟨k, hk⟩ := List.getElem?_of_mem hm
            have h2 := hfr.2 k
            rw [hk] at h2
            split at h2
            · obtain ⟨m0, hm0, he⟩ := Option.map_eq_some_iff.1 h2.symm
              rw [← he]
              exact hwf.out m0 (List.mem_of_getElem? hm0)
            · exact hwf.out m (List.mem_of_getElem? h2.symm)
          have HR : St S w wr [Row 198 1 (.slice ua j uc) j (ptrs g idx), Blk b3 #[.int .i64 at1] 3, Blk b2 #[.pointer (some ⟨t, 0, none⟩)] 135, Blk t (stC q at1 (.slice (some ⟨g, 0, none⟩) ms.length cap) ov2) 137, Row 68 8 (.slice (some ⟨g, 0, none⟩) ms.length cap) ms.length (encP.all cur), Row 63 10 ov2 os2.length (encO.all os2), Pool HH] := by
            have h := HM.blk_row 4 (e := 68) (size := 8) (cap := cap) (n := ms.length) (xs := encP.all cur) rfl hnc hcm (by
              have h3 := hcsh.out
              rw [List.length_append, pns_len] at h3 ⊢
              rw [hcl]
              exact h3) (by rw [List.take_append_of_le_length (by rw [pns_len, hcl]; exact Nat.le_refl _), List.take_of_length_le (by rw [pns_len, hcl]; exact Nat.le_refl _)])
            exact h
          have hdelh := Lib.hid (fun (w' : World) (S' : Nat → Prop) (h : Sep w' [Row 68 8 (.slice (some ⟨g, 0, none⟩) ms.length cap) cur.length (encP.all cur), Blk t (stC q at1 (.slice (some ⟨g, 0, none⟩) ms.length cap) ov2) 137, Blk b2 #[.pointer (some ⟨t, 0, none⟩)] 135, Blk b3 #[.int .i64 at1] 3] S') => pns_deleteM (l := cur) (fun m : Pm => m.p.w.gone q at1) (by omega) (fun m hm w hb => mark_two m q at1 at1 _ _ (hcw m hm) w hb) h)
          rw [hcl] at hdelh
          obtain ⟨DL, hDL⟩ : ∃ z, (cur.filter fun m => !m.p.w.gone q at1) = z := ⟨_, rfl⟩
          have hDm : DL.map (·.p) = ((ms.map (·.p)).map (Pn.fire at1)).filter fun p => !p.w.gone q at1 := by rw [← hDL, ← hall, List.filter_map]; rfl
          have hDs : ∀ m ∈ DL, m ∈ cur := fun m hm => by rw [← hDL] at hm; exact (List.mem_filter.1 hm).1
          rw [hDL] at hdelh
          have hDmh := Lib.hid hDm
          have hDsh := Lib.hid hDs
          have homh := Lib.hid hom
          clear hDL hDm hDs hom hall hcw hcl hfr hpn hsr2 hidl HM hfired hosm hsrth hordh hwf hgr hrd hI0h hpermh hndh hndph hilh hNh
          go_upto_region 17 with (fail)
          refine wp_script_tail 11 [(0, false), (1, false), (2, false), (3, false), (4, false), (5, false), (6, false), (7, true), (8, false), (9, false), (10, false)] (Fam fun w' => St S w w' [Blk b3 #[.int .i64 at1] 3, Blk b2 #[.pointer (some ⟨t, 0, none⟩)] 135, Blk t (stC q at1 (.slice (some ⟨g, 0, none⟩) ms.length cap) ov2) 137]) (fun w' => St S w w' [Row 68 8 (.slice (some ⟨g, 0, none⟩) ms.length cap) ms.length (encP.all cur), Blk b3 #[.int .i64 at1] 3, Blk b2 #[.pointer (some ⟨t, 0, none⟩)] 135, Blk t (stC q at1 (.slice (some ⟨g, 0, none⟩) ms.length cap) ov2) 137, Row 63 10 ov2 os2.length (encO.all os2), Pool HH]) (by kernel_rfl) (by rfl) (by kernel_rfl) (by kernel_rfl) (HR.pick [4, 1, 2, 3, 5, 6]).drew (Fam.st (fun _ h => h.pick [1, 2, 3])) ?_
          iterate 7 first
            | (apply script_pass
               · rfl
               · rfl
               intro K hK
               go_simp
               refine hK _ ?_
               clear hK K)
            | (apply script_step
               · rfl
               · rfl
               · intro I hI w1 h1'
                 have h1 := hI.2 _ h1'
                 have d0 := h1.cell 0 0 rfl rfl
                 have e0 := h1.cell 1 0 rfl rfl
                 have c7 := h1.cell 2 7 rfl rfl
                 first
                   | (go_simp
                      first
                        | rfl
                        | exact ⟨rfl, h1'⟩
                     )
               intro K hK
               go_simp
               refine hK _ ?_
               clear hK K)
          refine script_alone rfl rfl ?_
          intro V hV w1 h1
          go_simp
          obtain ⟨S1, K1, G1⟩ := St.call (l1 := [_, _, _, _]) (l2 := [_, _]) (h1.pick [0, 3, 2, 1, 4, 5])
          refine (hdelh.out w1 S1 K1).mono ?_
          rintro e w2 ⟨nv, rfl, G2⟩
          have HX : St S w w2 [Row 68 8 nv DL.length (encP.all DL), Blk b3 #[.int .i64 at1] 3, Blk b2 #[.pointer (some ⟨t, 0, none⟩)] 135, Blk t (stC q at1 (.slice (some ⟨g, 0, none⟩) ms.length cap) ov2) 137, Row 63 10 ov2 os2.length (encO.all os2), Pool HH] := (G1 _ _ G2).pick [0, 3, 2, 1, 4, 5]
          refine ⟨_, rfl, fun w' => St S w w' [Row 68 8 nv DL.length (encP.all DL), Blk b3 #[.int .i64 at1] 3, Blk b2 #[.pointer (some ⟨t, 0, none⟩)] 135, Blk t (stC q at1 (.slice (some ⟨g, 0, none⟩) ms.length cap) ov2) 137, Row 63 10 ov2 os2.length (encO.all os2), Pool HH], hV _ _ _ (fun _ h => h) (Fam.st (fun _ h => h.pick [1, 2, 3])) ?_, HX⟩
          intro K hK
          go_simp
          refine hK _ ?_
          clear hK K hV V
          clear HX h1 w1 w2 K1 G1 G2
          iterate 3 first
            | (apply script_pass
               · rfl
               · rfl
               intro K hK
               go_simp
               refine hK _ ?_
               clear hK K)
            | (apply script_step
               · rfl
               · rfl
               · intro I hI w1 h1'
                 have h1 := hI.2 _ h1'
                 first
                   | (go_simp
                      first
                        | rfl
                        | exact ⟨rfl, h1'⟩
                     )
               intro K hK
               go_simp
               refine hK _ ?_
               clear hK K)
          refine script_nil ?_
          intro w8 H8
          simp only [List.drop_succ_cons, List.drop_zero]
          have f7 := H8.free 3 7 rfl
          have c7 := H8.cell 3 7 rfl rfl
          obtain ⟨na, nc, rfl, -, -⟩ := slice_form' (H8.row 0 rfl)
          have H9 := H8.set 3 rfl 7 (.slice na DL.length nc)
          go_wp2
          go_end0
          refine ⟨rfl, ?_⟩
          exact Stp.mk' (pv := .slice na DL.length nc) (ov := ov2) (ms := DL) (os := os2) (H := HH) (by rw [hDmh.out, List.map_map]) homh.out (fun m hm => hmo2.out m (hDsh.out m hm)) hoo2.out (H9.pick [3, 0, 4, 5])

end Go.Proofs.YtiglgfonhdfpmaaGreat

/- The stepper's mark. Conditions: the state is right. -/
set_option linter.unusedVariables false
set_option linter.unusedSimpArgs false
namespace Go.Proofs.YtiglgfonhdfpmaaGreat
open Go.RowKit

set_option maxHeartbeats 4000000 in
set_option maxRecDepth 100000 in
theorem mark_nil {t : Nat} {q : Qry} {mk at1 : Int} {o : List Ot} {w : World} {S : Nat → Prop} (hle : ¬ at1 ≤ mk) (hol : o.length ≤ 1073741000) (H0 : Sep w [Stp t q mk [] o] S) :
    Calls Tryz.prog 72 #[.pointer (some ⟨t, 0, none⟩), .int .i64 at1] w fun e w' => e = .returned (.tuple #[]) ∧ St S w w' [Stp t q at1 [] o] := by
  obtain ⟨pv, ov, ms, os, H, hml, rfl, hmo, hoo, HB⟩ := Stp.open (St.refl H0)
  clear H0
  obtain rfl : ms = [] := List.map_eq_nil_iff.1 hml
  clear hml hmo
  obtain ⟨pa, pc, rfl, -, -⟩ := slice_form' (HB.row 1 rfl)
  have hooh := Lib.hid hoo
  clear hoo
  have H2 : St S w _ (_ :: _) := HB.allocAt rfl #[.pointer (some ⟨t, 0, none⟩)] 135
  have H3 : St S w _ (_ :: _) := H2.allocAt (B := w.heap.size + 1) (Array.size_push _) #[.int .i64 at1] 3
  obtain ⟨b2, hb2⟩ : ∃ b, w.heap.size = b := ⟨_, rfl⟩
  obtain ⟨b3, hb3⟩ : ∃ b, b2 + 1 = b := ⟨_, rfl⟩
  obtain ⟨w1, hw1⟩ : ∃ z, (w.alloc (.cells #[.pointer (some ⟨t, 0, none⟩)] 135)).alloc (.cells #[.int .i64 at1] 3) = z := ⟨_, rfl⟩
  go_enter Tryz.func72, Tryz.ntmps72
  go_upto_region 1 with (fail)
  rw [hw1, hb2, hb3] at H3
  try rw [hw1]
  try simp only [hb2, hb3]
  have H4 : St S w w1 [Blk b3 #[.int .i64 at1] 3, Blk b2 #[.pointer (some ⟨t, 0, none⟩)] 135, Blk t (stC q mk (.slice pa 0 pc) ov) 137, Row 68 8 (.slice pa 0 pc) 0 (encP.all []), Row 63 10 ov os.length (encO.all os), Pool H] := H3
  have hb2h := Lib.hid hb2
  clear hw1 hb2 hb3 HB H2 H3
  refine wp_calm (fun w' => St S w w' [Blk b3 #[.int .i64 at1] 3, Blk b2 #[.pointer (some ⟨t, 0, none⟩)] 135, Blk t (stC q mk (.slice pa 0 pc) ov) 137, Row 68 8 (.slice pa 0 pc) 0 (encP.all []), Row 63 10 ov os.length (encO.all os), Pool H]) (by kernel_rfl) (by kernel_rfl) (H4.drew) ?_
  iterate 7 first
    | (apply calm_pass
       · rfl
       intro K hK
       go_simp
       refine hK _ ?_
       clear hK K)
    | (apply calm_step
       · rfl
       · intro w1 h1
         have c0 := h1.cell 0 0 rfl rfl
         have c1 := h1.cell 1 0 rfl rfl
         have c6 := h1.cell 2 6 rfl rfl
         first
           | (go_simp
              first
                | rfl
                | exact ⟨rfl, h1⟩
             )
       intro K hK
       go_simp
       refine hK _ ?_
       clear hK K)
  refine calm_nil ?_
  intro w2 H5
  clear H4
  have c0 := H5.cell 0 0 rfl rfl
  have c1 := H5.cell 1 0 rfl rfl
  have c6 := H5.cell 2 6 rfl rfl
  have f6 := H5.free 2 6 rfl
  have H6 := H5.set 2 rfl 6 (.int .i64 at1)
  go_upto_region 3 with (fail)
  obtain ⟨w3, hw3⟩ : ∃ z, w2.setCell ⟨t, 6, none⟩ (.int .i64 at1) = z := ⟨_, rfl⟩
  rw [hw3] at H6
  try rw [hw3]
  clear hw3 c0 c1 c6 f6 H5
  have H7 : St S w w3 [Blk b3 #[.int .i64 at1] 3, Blk b2 #[.pointer (some ⟨t, 0, none⟩)] 135, Blk t (stC q at1 (.slice pa 0 pc) ov) 137, Row 68 8 (.slice pa 0 pc) 0 (encP.all []), Row 63 10 ov os.length (encO.all os), Pool H] := H6
  clear H6
  have c1 := H7.cell 1 0 rfl rfl
  have c7 := H7.cell 2 7 rfl rfl
  go_upto_block 1 with (fail)
  clear c1 c7
  go_loopw [4, 5, 6, 27] (fun u _ _ j wr => u = .slice none 0 0 ∧ j = .int .i64 0 ∧ wr = w3) (fun _ _ _ _ _ => 0)
  case atStart => exact ⟨rfl, rfl, rfl⟩
  case round =>
    obtain ⟨rfl, rfl, rfl⟩ := hrel
    go_upto_block 3 with (go_at_call 130; go_must (refine (sort_nil _ _).mono ?_; rintro e w6 ⟨rfl, rfl⟩))
    go_loopw [8, 59] (fun _ jj wr => jj = .int .i64 0 ∧ wr = w6) (fun _ _ _ => 0)
    case atStart => exact ⟨rfl, rfl⟩
    case round =>
      obtain ⟨rfl, rfl⟩ := hrel
      have hdelh := Lib.hid (fun (w' : World) (S' : Nat → Prop) (h : Sep w' [Row 68 8 (.slice pa 0 pc) 0 (encP.all []), Blk t (stC q at1 (.slice pa 0 pc) ov) 137, Blk b2 #[.pointer (some ⟨t, 0, none⟩)] 135, Blk b3 #[.int .i64 at1] 3] S') => pns_deleteM (l := []) (fun m : Pm => m.p.w.gone q at1) (by simp) (fun m hm w hb => by cases hm) h)
      simp only [List.filter_nil, List.length_nil] at hdelh
      go_upto_region 17 with (fail)
      refine wp_script_tail 11 [(0, false), (1, false), (2, false), (3, false), (4, false), (5, false), (6, false), (7, true), (8, false), (9, false), (10, false)] (Fam fun w' => St S w w' [Blk b3 #[.int .i64 at1] 3, Blk b2 #[.pointer (some ⟨t, 0, none⟩)] 135, Blk t (stC q at1 (.slice pa 0 pc) ov) 137]) (fun w' => St S w w' [Row 68 8 (.slice pa 0 pc) 0 (encP.all []), Blk b3 #[.int .i64 at1] 3, Blk b2 #[.pointer (some ⟨t, 0, none⟩)] 135, Blk t (stC q at1 (.slice pa 0 pc) ov) 137, Row 63 10 ov os.length (encO.all os), Pool H]) (by kernel_rfl) (by rfl) (by kernel_rfl) (by kernel_rfl) (H7.pick [3, 0, 1, 2, 4, 5]).drew (Fam.st (fun _ h => h.pick [1, 2, 3])) ?_
      iterate 7 first
        | (apply script_pass
           · rfl
           · rfl
           intro K hK
           go_simp
           refine hK _ ?_
           clear hK K)
        | (apply script_step
           · rfl
           · rfl
           · intro I hI w1 h1'
             have h1 := hI.2 _ h1'
             have d0 := h1.cell 0 0 rfl rfl
             have e0 := h1.cell 1 0 rfl rfl
             have c7 := h1.cell 2 7 rfl rfl
             first
               | (go_simp
                  first
                    | rfl
                    | exact ⟨rfl, h1'⟩
                 )
           intro K hK
           go_simp
           refine hK _ ?_
           clear hK K)
      refine script_alone rfl rfl ?_
      intro V hV w1 h1
      go_simp
      obtain ⟨S1, K1, G1⟩ := St.call (l1 := [_, _, _, _]) (l2 := [_, _]) (h1.pick [0, 3, 2, 1, 4, 5])
      refine (hdelh.out w1 S1 K1).mono ?_
      rintro e w2 ⟨nv, rfl, G2⟩
      have HX : St S w w2 [Row 68 8 nv 0 (encP.all []), Blk b3 #[.int .i64 at1] 3, Blk b2 #[.pointer (some ⟨t, 0, none⟩)] 135, Blk t (stC q at1 (.slice pa 0 pc) ov) 137, Row 63 10 ov os.length (encO.all os), Pool H] := (G1 _ _ G2).pick [0, 3, 2, 1, 4, 5]
      refine ⟨_, rfl, fun w' => St S w w' [Row 68 8 nv 0 (encP.all []), Blk b3 #[.int .i64 at1] 3, Blk b2 #[.pointer (some ⟨t, 0, none⟩)] 135, Blk t (stC q at1 (.slice pa 0 pc) ov) 137, Row 63 10 ov os.length (encO.all os), Pool H], hV _ _ _ (fun _ h => h) (Fam.st (fun _ h => h.pick [1, 2, 3])) ?_, HX⟩
      intro K hK
      go_simp
      refine hK _ ?_
      clear hK K hV V
      clear HX h1 w1 w2 K1 G1 G2
      iterate 3 first
        | (apply script_pass
           · rfl
           · rfl
           intro K hK
           go_simp
           refine hK _ ?_
           clear hK K)
        | (apply script_step
           · rfl
           · rfl
           · intro I hI w1 h1'
             have h1 := hI.2 _ h1'
             first
               | (go_simp
                  first
                    | rfl
                    | exact ⟨rfl, h1'⟩
                 )
           intro K hK
           go_simp
           refine hK _ ?_
           clear hK K)
      refine script_nil ?_
      intro w8 H8
      simp only [List.drop_succ_cons, List.drop_zero]
      have f7 := H8.free 3 7 rfl
      have c7 := H8.cell 3 7 rfl rfl
      obtain ⟨na, nc, rfl, -, -⟩ := slice_form' (H8.row 0 rfl)
      have H9 := H8.set 3 rfl 7 (.slice na 0 nc)
      go_wp2
      go_end0
      refine ⟨rfl, ?_⟩
      exact Stp.mk' (pv := .slice na 0 nc) (ov := ov) (ms := []) (os := os) (H := H) rfl rfl (fun m hm => by cases hm) hooh.out (H9.pick [3, 0, 4, 5])
theorem step_mark {t : Nat} {q : Qry} {mk at1 : Int} {l : List Pn} {o : List Ot} {w : World} {S : Nat → Prop} (hs : Stt.right q ⟨mk, l⟩ = true) (hol : o.length ≤ 1073741000) (H0 : Sep w [Stp t q mk l o] S) :
    Calls Tryz.prog 72 #[.pointer (some ⟨t, 0, none⟩), .int .i64 at1] w fun e w' => e = .returned (.tuple #[]) ∧ St S w w' [Stp t q (markM q ⟨mk, l⟩ at1).1.mark (markM q ⟨mk, l⟩ at1).1.panes (o ++ (markM q ⟨mk, l⟩ at1).2)] := by
  unfold markM
  simp only
  by_cases hle : at1 ≤ mk
  · rw [if_pos hle]
    simp only [List.append_nil]
    exact mark_no hle H0
  · rw [if_neg hle]
    simp only
    by_cases hne : l = []
    · subst hne
      have := mark_nil hle hol H0
      simpa [sortC] using this
    · exact mark_yes hle hs hol hne H0

end Go.Proofs.YtiglgfonhdfpmaaGreat

/- What a step leaves: panes that may be. Plain laws. -/
set_option linter.unusedVariables false
set_option linter.unusedSimpArgs false
namespace Go.Proofs.YtiglgfonhdfpmaaGreat
open Go.RowKit

/-- Panes that a machine can hold. -/
def GoodA (q : Qry) (l : List Pn) : Prop := ∀ p ∈ l, p.g.right q = true ∧ (0 ≤ p.round ∧ p.round ≤ 1073741824) ∧ p.w.right = true
theorem good_fits {q : Qry} {l : List Pn} (h : GoodA q l) : ∀ p ∈ l, p.fits := fun p hp => by
  obtain ⟨h1, -, h3⟩ := h p hp
  obtain ⟨-, -, -, ht, -, -, hx, hy⟩ := right_nums h1
  exact ⟨fits_right h3, by omega, by omega, by omega⟩
theorem right_good {q : Qry} {s : Stt} (h : s.right q = true) : GoodA q s.panes := fun p hp => by
  obtain ⟨-, -, -, h4, -, -⟩ := right_parts h
  have := ok_parts (h4 p hp)
  exact ⟨this.2.2.2.2.1, this.2.2.2.1, this.2.1⟩
theorem with_mem {l : List Pn} {p y : Pn} : y ∈ withP l p ↔ y = p ∨ y ∈ l := by
  unfold withP
  constructor
  · intro h
    rcases List.mem_append.1 h with h | h
    · exact .inr (List.mem_of_mem_take h)
    · rcases List.mem_cons.1 h with h | h
      · exact .inl h
      · exact .inr (List.mem_of_mem_drop h)
  · rintro (rfl | h)
    · exact List.mem_append_right _ (List.mem_cons_self)
    · rw [← List.take_append_drop (placeP l p.w) l] at h
      rcases List.mem_append.1 h with h | h
      · exact List.mem_append_left _ h
      · exact List.mem_append_right _ (List.mem_cons_of_mem _ h)
theorem lay_good {q : Qry} {mk : Int} {x : Wd} {old : Wd → Bool} {v : Int} {l : List Pn} {y : List Pn × List Ot} (hq : q.right = true) (hv : valB v = true) (hx : x.right = true) (h : GoodA q l) (hy : layM q mk x old v l = some y) : GoodA q y.1 := by
  unfold layM at hy
  cases hg : gathM q x old l (Ag.zero, 0) with
  | none => rw [hg] at hy; cases hy
  | some s =>
    rw [hg] at hy
    simp only at hy
    have hs : s.1.right q = true ∧ 0 ≤ s.2 ∧ s.2 ≤ 1073741824 := gath_right (s := (Ag.zero, 0)) (fun p hp => ⟨(h p hp).1, (h p hp).2.1.1, (h p hp).2.1.2⟩) (zero_right hq) ⟨Int.le_refl 0, (by decide : (0 : Int) ≤ 1073741824)⟩ hg
    cases hp : putM q mk x s.1 s.2 v with
    | none => rw [hp] at hy; cases hy
    | some z =>
      rw [hp] at hy
      simp only [Option.some.injEq] at hy
      rw [← hy]
      have hz := put_good hs.1 hs.2 hv hp
      have hzw := put_w hp
      intro p hp2
      rcases with_mem.1 hp2 with rfl | hp2
      · exact ⟨hz.1, hz.2.1, by rw [hzw]; exact hx⟩
      · exact h p (List.mem_filter.1 hp2).1
theorem bec_right (q : Qry) {l : List Pn} {own : Wd} (h : own.right = true) : (becM q l own).right = true := by
  unfold becM
  split
  · exact (bec_law h _).1
  · exact h
theorem lays_good {q : Qry} {mk v : Int} (hq : q.right = true) (hv : valB v = true) : ∀ {ws : List Wd} {s y : EvS}, (∀ x ∈ ws, x.right = true) → GoodA q s.panes → laysM q mk v ws s = some y → GoodA q y.panes
  | [], s, y, _, h, hy => by
    obtain rfl : s = y := by simpa [laysM] using hy
    exact h
  | own :: r, s, y, hw, h, hy => by
    rw [lays_cons] at hy
    split at hy
    · exact lays_good hq hv (fun x hx => hw x (List.mem_cons_of_mem _ hx)) h hy
    · cases hl : layM q mk (becM q s.panes own) (oldM q own) v s.panes with
      | none => rw [hl] at hy; cases hy
      | some z =>
        rw [hl] at hy
        exact lays_good hq hv (fun x hx => hw x (List.mem_cons_of_mem _ hx)) (s := ⟨z.1, s.outs ++ z.2, true⟩) (lay_good hq hv (bec_right q (hw own (by simp))) h hl) hy
theorem right_val {x : Itm} (h : x.right = true) (hk : ¬ x.kind = 2) : valB x.value = true := by
  unfold Itm.right at h
  simp only [Bool.and_eq_true, decide_eq_true_eq] at h
  obtain ⟨-, h⟩ := h
  split at h
  · simp only [Bool.and_eq_true, decide_eq_true_eq] at h
    exact valB_iff.2 ⟨h.1.2, h.2⟩
  · first
    | (rw [if_neg hk] at h; cases h)
    | cases h
/-- Where a step goes, the state was right, and its panes may be. -/
theorem step_good {q : Qry} {s : Stt} {x : Itm} (h : (stepM q s x).e = 0) : s.right q = true ∧ x.right = true ∧ GoodA q (stepM q s x).s.panes ∧ (stepM q s x).s.panes.length ≤ 256 := by
  unfold stepM at h ⊢
  by_cases hr : (s.right q && x.right) = true
  · rw [if_pos hr] at h ⊢
    simp only [Bool.and_eq_true] at hr
    obtain ⟨h1, h2⟩ := hr
    have hg := right_good h1
    obtain ⟨hq, hmk, hlen, -, -, -⟩ := right_parts h1
    refine ⟨h1, h2, ?_⟩
    by_cases hk : x.kind = 2
    · rw [if_pos hk]
      simp only
      unfold markM
      split
      · exact ⟨hg, hlen⟩
      · refine ⟨fun p hp => ?_, ?_⟩
        · obtain ⟨y, hy, rfl⟩ := List.mem_map.1 (List.mem_filter.1 hp).1
          obtain ⟨g1, g2, g3⟩ := hg y hy
          unfold Pn.fire
          split
          · exact ⟨g1, ⟨by simp, by simp⟩, g3⟩
          · exact ⟨g1, g2, g3⟩
        · have := List.length_filter_le (fun p : Pn => !p.w.gone q x.time) (s.panes.map (Pn.fire x.time))
          rw [List.length_map] at this
          simp only
          omega
    · rw [if_neg hk] at h ⊢
      unfold eventM at h ⊢
      cases hl : laysM q s.mark x.value (winsOf q x.key x.time) ⟨s.panes, [], false⟩ with
      | none => exact ⟨hg, hlen⟩
      | some y =>
        simp only
        by_cases hf : 256 < y.panes.length
        · rw [if_pos hf]
          exact ⟨hg, hlen⟩
        · rw [if_neg hf]
          exact ⟨lays_good hq (right_val h2 hk) (fun z hz => (wins_right z hz).1) (s := ⟨s.panes, [], false⟩) hg hl, by simp only; omega⟩
  · rw [if_neg hr] at h
    simp at h
theorem outs_lays {q : Qry} {mk v : Int} : ∀ {ws : List Wd} {s y : EvS}, laysM q mk v ws s = some y → y.outs.length ≤ s.outs.length + ws.length
  | [], s, y, hy => by
    obtain rfl : s = y := by simpa [laysM] using hy
    simp
  | own :: r, s, y, hy => by
    rw [lays_cons] at hy
    split at hy
    · have := outs_lays hy
      rw [List.length_cons]
      omega
    · cases hl : layM q mk (becM q s.panes own) (oldM q own) v s.panes with
      | none => rw [hl] at hy; cases hy
      | some z =>
        rw [hl] at hy
        have h1 := outs_lay hl
        have h2 := outs_lays hy
        simp only [List.length_append, List.length_cons] at h2 ⊢
        omega
theorem sortC_len (l : List Pn) : (sortC l).length = l.length := (sortC_perm l).length_eq
theorem step_outs (q : Qry) (s : Stt) (x : Itm) : (stepM q s x).outs.length ≤ 256 := by
  unfold stepM
  by_cases hr : (s.right q && x.right) = true
  · rw [if_pos hr]
    simp only [Bool.and_eq_true] at hr
    obtain ⟨hq, hmk, hlen, -, -, -⟩ := right_parts hr.1
    by_cases hk : x.kind = 2
    · rw [if_pos hk]
      simp only
      unfold markM
      split
      · simp
      · simp only [List.length_map, sortC_len]
        have := List.length_filter_le (Pn.now x.time) s.panes
        omega
    · rw [if_neg hk]
      unfold eventM
      cases hl : laysM q s.mark x.value (winsOf q x.key x.time) ⟨s.panes, [], false⟩ with
      | none => simp
      | some y =>
        simp only
        have h1 := outs_lays hl
        have h2 := wins_len q x.key x.time
        simp only [List.length_nil] at h1
        split
        · simp
        · split
          · simp only; omega
          · simp only [List.length_append, List.length_singleton]; omega
  · rw [if_neg hr]
    simp

end Go.Proofs.YtiglgfonhdfpmaaGreat

/- Runs, by law: a run over two lists is a run and another from its state on; what a run leaves. Plain laws. -/
set_option linter.unusedVariables false
set_option linter.unusedSimpArgs false
namespace Go.Proofs.YtiglgfonhdfpmaaGreat

/-- What a run leaves: panes that may be; outs with few numbers, and not too many. -/
structure RunGood (q : Qry) (N : Nat) (r : RunR) : Prop where
  panes : GoodA q r.s.panes
  few : r.s.panes.length ≤ 256
  outs : r.outs.length ≤ 256 * N
  vals : ∀ o ∈ r.outs, o.value.length ≤ 8
end Go.Proofs.YtiglgfonhdfpmaaGreat

/- batch.Outs by law: items one by one, those that a step refuses left out. Nothing is late where no mark runs ahead. Plain laws. -/
set_option linter.unusedVariables false
set_option linter.unusedSimpArgs false
namespace Go.Proofs.YtiglgfonhdfpmaaGreat

/-- All items, those that are refused left out. -/
def batM (q : Qry) : List Itm → RunR → RunR
  | [], r => r
  | x :: l, r => batM q l (if (stepM q r.s x).e = 0 then ⟨(stepM q r.s x).s, r.outs ++ (stepM q r.s x).outs, r.n + 1, 0⟩ else r)
theorem bat_drop {q : Qry} {l : List Itm} {i : Nat} {x : Itm} (h : l[i]? = some x) (r : RunR) : batM q (l.drop i) r = batM q (l.drop (i + 1)) (if (stepM q r.s x).e = 0 then ⟨(stepM q r.s x).s, r.outs ++ (stepM q r.s x).outs, r.n + 1, 0⟩ else r) := by
  obtain ⟨hlt, hx⟩ := List.getElem?_eq_some_iff.1 h
  rw [List.drop_eq_getElem_cons hlt, hx, batM]
def NoLate (o : List Ot) : Prop := ∀ x ∈ o, x.late = false
theorem NoLate.app {a b : List Ot} (ha : NoLate a) (hb : NoLate b) : NoLate (a ++ b) := fun x hx => by
  rcases List.mem_append.1 hx with h | h
  · exact ha x h
  · exact hb x h
theorem put_nolate {q : Qry} {mk : Int} {x : Wd} {g : Ag} {r v : Int} {y : Pn × List Ot} (h : putM q mk x g r v = some y) : NoLate y.2 := by
  unfold putM at h
  split at h
  · cases h
  · split at h
    · split at h
      · cases h
      · cases h
        intro z hz
        rw [List.mem_singleton.1 hz]
    · cases h
      intro z hz
      cases hz
theorem lay_nolate {q : Qry} {mk : Int} {x : Wd} {old : Wd → Bool} {v : Int} {l : List Pn} {y : List Pn × List Ot} (h : layM q mk x old v l = some y) : NoLate y.2 := by
  unfold layM at h
  split at h
  · cases h
  · split at h
    · cases h
    · rename_i hp
      cases h
      exact put_nolate hp
theorem bec_to (q : Qry) {l : List Pn} {own : Wd} (h : own.right = true) : own.to ≤ (becM q l own).to := by
  unfold becM
  split
  · exact (bec_law h _).2.2.2
  · exact Int.le_refl _
theorem not_gone {q : Qry} {x : Wd} {mk : Int} (hq : q.right = true) (h : mk < x.to) : x.gone q mk = false := by
  have hl : 0 ≤ q.late := by
    unfold Qry.right at hq
    simp only [Bool.and_eq_true, decide_eq_true_eq] at hq
    omega
  unfold Wd.gone
  rw [show decide (x.to + q.late ≤ mk) = false by simp; omega]
  simp
theorem lays_taken {q : Qry} {mk v : Int} (hq : q.right = true) : ∀ {ws : List Wd} {s y : EvS}, (∀ x ∈ ws, x.right = true ∧ mk < x.to) → laysM q mk v ws s = some y → NoLate s.outs → NoLate y.outs ∧ (s.taken = true ∨ ws ≠ [] → y.taken = true)
  | [], s, y, _, h, hn => by
    injection h with h
    subst h
    exact ⟨hn, fun h => h.elim id (fun h => absurd rfl h)⟩
  | own :: r, s, y, hw, h, hn => by
    obtain ⟨h1, h2⟩ := hw own List.mem_cons_self
    have hng : (becM q s.panes own).gone q mk = false := not_gone hq (by have := bec_to q (l := s.panes) h1; omega)
    unfold laysM at h
    rw [hng] at h
    simp only [Bool.false_eq_true, if_false] at h
    split at h
    · cases h
    · rename_i z hz
      obtain ⟨k1, k2⟩ := lays_taken hq (fun x hx => hw x (List.mem_cons_of_mem _ hx)) h (hn.app (lay_nolate hz))
      exact ⟨k1, fun _ => k2 (.inl rfl)⟩
theorem wins_some {q : Qry} {key : List UInt8} {t : Int} (hq : q.right = true) (hk : nameB key = true) (ht : 0 ≤ t ∧ t ≤ 1099511627776) : winsOf q key t ≠ [] := by
  obtain ⟨hkd, hsz, hsl, -, -⟩ := q_size hq
  unfold winsOf
  rw [if_pos ⟨hq, hk, ht⟩]
  split
  · simp
  · split
    · rename_i h2
      obtain ⟨hs, hs1, hs2⟩ := hsl h2
      unfold slideWs
      intro e
      have e1 := List.map_eq_nil_iff.1 e
      have hd : 0 ≤ t / q.slide := Int.ediv_nonneg ht.1 (by omega)
      have hm := Int.mul_ediv_add_emod t q.slide
      have hl := Int.emod_lt_of_pos t (show 0 < q.slide by omega)
      have := List.filter_eq_nil_iff.1 e1 (t / q.slide).toNat (List.mem_range.2 (by omega))
      refine this ?_
      rw [decide_eq_true_eq, Int.toNat_of_nonneg hd, Int.mul_comm]
      omega
    · simp
theorem step_nolate {q : Qry} {s : Stt} {x : Itm} (h : x.kind = 2 ∨ s.mark ≤ x.time) : NoLate (stepM q s x).outs := by
  unfold stepM
  by_cases hg : (s.right q && x.right) = true
  · rw [if_pos hg]
    obtain ⟨hs, hx⟩ := (Bool.and_eq_true _ _).mp hg
    by_cases hk : x.kind = 2
    · rw [if_pos hk]
      unfold markM
      split
      · intro z hz
        cases hz
      · intro z hz
        obtain ⟨p, -, rfl⟩ := List.mem_map.1 hz
        rfl
    · rw [if_neg hk]
      have hm := h.resolve_left hk
      unfold eventM
      split
      · intro z hz
        cases hz
      · rename_i y hy
        split
        · intro z hz
          cases hz
        · have hx2 := hx
          unfold Itm.right at hx2
          simp only [Bool.and_eq_true, decide_eq_true_eq] at hx2
          obtain ⟨hx3, hx4⟩ := hx2
          have hk1 : x.kind = 1 := by
            refine Classical.byContradiction fun h3 => ?_
            rw [if_neg h3, if_neg hk] at hx4
            cases hx4
          rw [if_pos hk1] at hx4
          simp only [Bool.and_eq_true, decide_eq_true_eq] at hx4
          have hq := (right_parts hs).1
          obtain ⟨k1, k2⟩ := lays_taken hq (fun o ho => ⟨(wins_right o ho).1, by have := (wins_right o ho).2.2.2.1; omega⟩) hy (fun z hz => by cases hz)
          have := k2 (.inr (wins_some hq hx4.1.1 hx3))
          simp only [this, if_true]
          exact k1
  · rw [if_neg hg]
    intro z hz
    cases hz
theorem step_markle (q : Qry) (s : Stt) (x : Itm) : (stepM q s x).s.mark = s.mark ∨ x.kind = 2 ∧ (stepM q s x).s.mark = x.time := by
  unfold stepM
  split
  · split
    · rename_i hk
      unfold markM
      split
      · exact .inl rfl
      · exact .inr ⟨hk, rfl⟩
    · unfold eventM
      split
      · exact .inl rfl
      · split <;> exact .inl rfl
  · exact .inl rfl
/-- What an item makes of a batch. -/
def batS (q : Qry) (r : RunR) (x : Itm) : RunR := if (stepM q r.s x).e = 0 then ⟨(stepM q r.s x).s, r.outs ++ (stepM q r.s x).outs, r.n + 1, 0⟩ else r
theorem bat_cons (q : Qry) (x : Itm) (l : List Itm) (r : RunR) : batM q (x :: l) r = batM q l (batS q r x) := rfl
theorem bat_one {q : Qry} {r : RunR} {x : Itm} {m : Int} (hn : NoLate r.outs) (h1 : r.s.mark ≤ m) (h2 : x.kind = 2 ∨ m ≤ x.time) (h3 : x.kind = 2 → x.time ≤ m) : NoLate (batS q r x).outs ∧ (batS q r x).s.mark ≤ m := by
  unfold batS
  split
  · refine ⟨hn.app (step_nolate (h2.imp id (fun h => by omega))), ?_⟩
    rcases step_markle q r.s x with e | ⟨hk, e⟩
    · rw [e]; exact h1
    · rw [e]; exact h3 hk
  · exact ⟨hn, h1⟩

end Go.Proofs.YtiglgfonhdfpmaaGreat

/- oper.Step. Conditions: the state and the item fit the machine; so many. (Printed by a program of mine.) -/
set_option linter.unusedVariables false
set_option linter.unusedSimpArgs false
namespace Go.Proofs.YtiglgfonhdfpmaaGreat
open Go.RowKit

theorem results_ctt {P : Program} {fn : Func} {t b1 c1 : Tmp} {ty : TypeId} (h : fn.results = #[.cell t ty, .tmp b1, .tmp c1]) {tmps : Array Value} {w : World} {b : Nat} {cs : List Value} {d : TypeDesc} (ht : tmps.getD t undef = .pointer (some ⟨b, 0, none⟩)) (hr : w.rangeAt b 0 cs)
    (hu : P.underlying ty = some d) (hd : d.isRow = true) (hi : (P.info? ty).map (·.size) = some cs.length) : (results fn tmps).run P w = .ok (.tuple #[.agg cs.toArray, tmps.getD b1 undef, tmps.getD c1 undef]) w := by
  have h2 := run_loadVar_mid (P := P) w b 0 ty cs d hr hu hd hi
  have h3 : tmps[t]?.getD undef = .pointer (some ⟨b, 0, none⟩) := by simpa using ht
  simp [results, h, h3, asAddr, h2]
/-- What a step hands back, all its own. -/
def StepOk (S : Nat → Prop) (w : World) (r : StepR) (e : Ending) (w' : World) : Prop :=
  ∃ hs ho ms os H, e = .returned (.tuple #[.agg #[.int .i64 r.s.mark, hs], ho, .int .i64 r.e]) ∧ ms.map (·.p) = r.s.panes ∧ os.map (·.o) = r.outs ∧ (∀ m ∈ ms, Pm.own m ∈ H) ∧ (∀ y ∈ os, Om.own y ∈ H) ∧
    St S w w' [Row 68 8 hs ms.length (encP.all ms), Row 63 10 ho os.length (encO.all os), Pool H]

set_option maxHeartbeats 8000000 in
set_option maxRecDepth 100000 in
theorem oper_step (q : Qry) (s : Stt) (x : Itm) {v : Value} (w : World) (hv : PnsRO w v s.panes) (hl : s.panes.length ≤ 1073741824) (hf : ∀ p ∈ s.panes, p.fits) (hx : x.fits) :
    Calls Tryz.prog 27 #[qyV q, .agg #[.int .i64 s.mark, v], itmV x] w fun e w' => StepOk (fun _ => False) w (stepM q s x) e w' := by
  obtain ⟨mk, l⟩ := s
  simp only at hv hl hf
  have kc := fun w' (hk : Kept (fun _ => False) w w') => oper_copied (hv.later hk) hl (fun p hp => (hf p hp).2.1)
  have krg := fun w' (hk : Kept (fun _ => False) w w') => oper_right q ⟨mk, l⟩ w' (hv.later hk) hl hf
  have kev := fun w' => ev_right x hx w'
  have kst := Lib.hid (fun (h : x.right = true) => h)
  obtain ⟨ms0, hm0, hv0, -⟩ := hv
  obtain ⟨va, vc, rfl, -, -⟩ := hv0
  have e0 : ms0.length = l.length := by rw [← hm0, List.length_map]
  rw [e0] at kc krg ⊢
  clear hm0 e0 hf
  have hstep : stepM q ⟨mk, l⟩ x = if (Stt.right q ⟨mk, l⟩ && x.right) = true then (if x.kind = 2 then ⟨(markM q ⟨mk, l⟩ x.time).1, (markM q ⟨mk, l⟩ x.time).2, 0⟩ else eventM q ⟨mk, l⟩ x) else ⟨⟨mk, l⟩, [], 2⟩ := rfl
  have kmk := Lib.hid (fun (h : Stt.right q ⟨mk, l⟩ = true) (t : Nat) w' S' (hS : Sep w' [Stp t q mk l []] S') => step_mark (at1 := x.time) h (by simp) hS)
  have kvt := Lib.hid (fun (h : Stt.right q ⟨mk, l⟩ = true) (h2 : x.right = true) (h3 : x.kind = 1) (t : Nat) w' S' (hS : Sep w' [Stp t q mk l []] S') => step_event h h2 h3 (by simp) hS)
  have hkind : x.right = true → ¬ x.kind = 2 → x.kind = 1 := fun h h2 => by
    unfold Itm.right at h
    simp only [Bool.and_eq_true] at h
    refine Classical.byContradiction fun h3 => ?_
    rw [if_neg h3, if_neg h2] at h
    simp at h
  have hkindh := Lib.hid hkind
  obtain ⟨res, hres⟩ : ∃ z, stepM q ⟨mk, l⟩ x = z := ⟨_, rfl⟩
  rw [hres] at hstep ⊢
  have hsteph := Lib.hid hstep
  obtain ⟨sr, hsr⟩ : ∃ z, Stt.right q ⟨mk, l⟩ = z := ⟨_, rfl⟩
  obtain ⟨xr, hxr⟩ : ∃ z, x.right = z := ⟨_, rfl⟩
  simp only [hsr] at krg
  simp only [hxr] at kev
  have hsrh := Lib.hid hsr
  have hxrh := Lib.hid hxr
  clear hstep hkind hsr hxr hres kst
  obtain ⟨xx, hxx⟩ : ∃ z, z = x := ⟨_, rfl⟩
  have hxxh := Lib.hid hxx
  obtain ⟨xk, xy, xt, xv⟩ := x
  unfold itmV textV at kev
  unfold qyV qyC at krg
  unfold qyV qyC itmV textV
  simp only at kev krg ⊢
  have H1 : St (fun _ => False) w _ [_] := (St.nil _ w).allocAt rfl #[.int .i64 q.kind, .int .i64 q.size, .int .i64 q.slide, .int .i64 q.late, .int .i64 q.agg, .int .i64 q.k] 23
  have H2 : St (fun _ => False) w _ [_, _] := H1.allocAt (B := w.heap.size + 1) (Array.size_push _) #[.int .i64 mk, .slice va l.length vc] 45
  have H3 : St (fun _ => False) w _ [_, _, _] := H2.allocAt (B := w.heap.size + 1 + 1) (by simp [Array.size_push]) #[.int .i64 xk, .string ⟨xy.toArray⟩, .int .i64 xt, .int .i64 xv] 56
  have H4 : St (fun _ => False) w _ [_, _, _, _] := H3.allocAt (B := w.heap.size + 1 + 1 + 1) (by simp [Array.size_push]) #[.int .i64 0, .slice none 0 0] 45
  go_enter Tryz.func27, Tryz.ntmps27
  go_upto_region 1 with (fail)
  obtain ⟨bq, hbq⟩ : ∃ b, w.heap.size = b := ⟨_, rfl⟩
  obtain ⟨bs, hbs⟩ : ∃ b, bq + 1 = b := ⟨_, rfl⟩
  obtain ⟨bx, hbx⟩ : ∃ b, bs + 1 = b := ⟨_, rfl⟩
  obtain ⟨br, hbr⟩ : ∃ b, bx + 1 = b := ⟨_, rfl⟩
  simp only [hbq, hbs, hbx, hbr] at H4 ⊢
  obtain ⟨w1, hw1⟩ : ∃ z, (((w.alloc (.cells #[.int .i64 q.kind, .int .i64 q.size, .int .i64 q.slide, .int .i64 q.late, .int .i64 q.agg, .int .i64 q.k] 23)).alloc (.cells #[.int .i64 mk, .slice va l.length vc] 45)).alloc (.cells #[.int .i64 xk, .string ⟨xy.toArray⟩, .int .i64 xt, .int .i64 xv] 56)).alloc (.cells #[.int .i64 0, .slice none 0 0] 45) = z := ⟨_, rfl⟩
  rw [hw1] at H4
  rw [hw1]
  have H5 : St (fun _ => False) w w1 [Blk bq #[.int .i64 q.kind, .int .i64 q.size, .int .i64 q.slide, .int .i64 q.late, .int .i64 q.agg, .int .i64 q.k] 23, Blk bs #[.int .i64 mk, .slice va l.length vc] 45, Blk bx #[.int .i64 xk, .string ⟨xy.toArray⟩, .int .i64 xt, .int .i64 xv] 56, Blk br #[.int .i64 0, .slice none 0 0] 45] := H4.pick [3, 2, 1, 0]
  have hbqh := Lib.hid hbq
  clear hw1 hbq hbs hbx hbr H1 H2 H3 H4
  go_cut [9] from 12 to 17 (fun p9 wx => ∃ (bw : Nat) (ca : Option Addr) (cc : Nat) (ms : List Pm), p9 = .pointer (some ⟨bw, 0, none⟩) ∧ Hid (ms.map (·.p) = l) ∧ St (fun _ => False) w wx [Row 68 8 (.slice ca ms.length cc) ms.length (encP.all ms), Pool (ms.map Pm.own), Blk bw #[.int .i64 mk, .slice ca ms.length cc] 45, Blk bq #[.int .i64 q.kind, .int .i64 q.size, .int .i64 q.slide, .int .i64 q.late, .int .i64 q.agg, .int .i64 q.k] 23, Blk bs #[.int .i64 mk, .slice va l.length vc] 45, Blk bx #[.int .i64 xk, .string ⟨xy.toArray⟩, .int .i64 xt, .int .i64 xv] 56, Blk br #[.int .i64 0, .slice none 0 0] 45])
  case first =>
    refine wp_plan (.small 0 (.small 1 (.small 2 (.small 3 (.fork 4 6 (.small 5 (.alone 6 (.alone 7 .nil))) (.alone 4 (.small 5 (.alone 7 .nil)))))))) (Fam fun w' => St (fun _ => False) w w' [Blk bs #[.int .i64 mk, .slice va l.length vc] 45]) (fun w' => St (fun _ => False) w w' [Blk bq #[.int .i64 q.kind, .int .i64 q.size, .int .i64 q.slide, .int .i64 q.late, .int .i64 q.agg, .int .i64 q.k] 23, Blk bs #[.int .i64 mk, .slice va l.length vc] 45, Blk bx #[.int .i64 xk, .string ⟨xy.toArray⟩, .int .i64 xt, .int .i64 xv] 56, Blk br #[.int .i64 0, .slice none 0 0] 45]) (by kernel_rfl) (by rfl) (by kernel_rfl) (by kernel_rfl) H5.drew (Fam.st (fun _ h => h.pick [1])) ?_
    iterate 4 first
      | (apply plan_pass
         · rfl
         · rfl
         intro K hK
         go_simp
         refine hK _ ?_
         clear hK K)
      | (apply plan_step
         · rfl
         · rfl
         · intro I hI w1 h1'
           have h1 := hI.2 _ h1'
           have c0 := h1.cell 0 0 rfl rfl
           have c1 := h1.cell 0 1 rfl rfl
           first
             | (go_simp
                first
                  | rfl
                  | exact ⟨rfl, h1'⟩
               )
         intro K hK
         go_simp
         refine hK _ ?_
         clear hK K)
    refine plan_two rfl rfl rfl rfl ?_ ?_
    · skip
      intro V hV w1 h1
      go_simp
      refine (kc w1 h1.kept).mono ?_
      rintro e w2 ⟨cv, ms, rfl, hms, G1⟩
      have hmsh := Lib.hid hms
      clear hms
      obtain ⟨ca, cc, rfl, -, -⟩ := slice_form' (G1.row 0 rfl)
      have HX : St (fun _ => False) w w2 [Row 68 8 (.slice ca ms.length cc) ms.length (encP.all ms), Pool (ms.map Pm.own), Blk bq #[.int .i64 q.kind, .int .i64 q.size, .int .i64 q.slide, .int .i64 q.late, .int .i64 q.agg, .int .i64 q.k] 23, Blk bs #[.int .i64 mk, .slice va l.length vc] 45, Blk bx #[.int .i64 xk, .string ⟨xy.toArray⟩, .int .i64 xt, .int .i64 xv] 56, Blk br #[.int .i64 0, .slice none 0 0] 45] := h1.call0 G1
      refine ⟨_, rfl, fun w' => St (fun _ => False) w w' [Row 68 8 (.slice ca ms.length cc) ms.length (encP.all ms), Pool (ms.map Pm.own), Blk bq #[.int .i64 q.kind, .int .i64 q.size, .int .i64 q.slide, .int .i64 q.late, .int .i64 q.agg, .int .i64 q.k] 23, Blk bs #[.int .i64 mk, .slice va l.length vc] 45, Blk bx #[.int .i64 xk, .string ⟨xy.toArray⟩, .int .i64 xt, .int .i64 xv] 56, Blk br #[.int .i64 0, .slice none 0 0] 45], hV _ _ _ (fun _ h => h) (Fam.st (fun _ h => h.pick [3])) ?_, HX⟩
      intro K hK
      go_simp
      refine hK _ ?_
      clear hK K hV V
      clear HX h1 G1 w1 w2
      iterate 1 first
        | (apply plan_pass
           · rfl
           · rfl
           intro K hK
           go_simp
           refine hK _ ?_
           clear hK K)
        | (apply plan_step
           · rfl
           · rfl
           · intro I hI w1 h1'
             have h1 := hI.2 _ h1'
             first
               | (go_simp
                  first
                    | rfl
                    | exact ⟨rfl, h1'⟩
                 )
           intro K hK
           go_simp
           refine hK _ ?_
           clear hK K)
      refine plan_one rfl rfl ?_
      intro V hV w1 h1
      go_simp
      obtain ⟨bw, hbw⟩ : ∃ g, w1.heap.size = g := ⟨_, rfl⟩
      have HX : St (fun _ => False) w _ [Blk bw #[.int .i64 0, .slice none 0 0] 45, Row 68 8 (.slice ca ms.length cc) ms.length (encP.all ms), Pool (ms.map Pm.own), Blk bq #[.int .i64 q.kind, .int .i64 q.size, .int .i64 q.slide, .int .i64 q.late, .int .i64 q.agg, .int .i64 q.k] 23, Blk bs #[.int .i64 mk, .slice va l.length vc] 45, Blk bx #[.int .i64 xk, .string ⟨xy.toArray⟩, .int .i64 xt, .int .i64 xv] 56, Blk br #[.int .i64 0, .slice none 0 0] 45] := h1.allocAt hbw #[.int .i64 0, .slice none 0 0] 45
      simp only [hbw]
      refine ⟨fun w' => St (fun _ => False) w w' [Blk bw #[.int .i64 0, .slice none 0 0] 45, Row 68 8 (.slice ca ms.length cc) ms.length (encP.all ms), Pool (ms.map Pm.own), Blk bq #[.int .i64 q.kind, .int .i64 q.size, .int .i64 q.slide, .int .i64 q.late, .int .i64 q.agg, .int .i64 q.k] 23, Blk bs #[.int .i64 mk, .slice va l.length vc] 45, Blk bx #[.int .i64 xk, .string ⟨xy.toArray⟩, .int .i64 xt, .int .i64 xv] 56, Blk br #[.int .i64 0, .slice none 0 0] 45], hV _ _ _ (fun _ h => h) (Fam.st (fun _ h => h.pick [4])) ?_, HX⟩
      intro K hK
      go_simp
      refine hK _ ?_
      clear hK K hV V
      clear HX h1 hbw w1
      refine plan_one rfl rfl ?_
      intro V hV w1 h1
      have r0 := h1.free 0 0 rfl
      have r1 := h1.free 0 1 rfl
      have x0 := h1.cell 0 0 rfl rfl
      have x1 := h1.cell 0 1 rfl rfl
      have H5 := (h1.set 0 rfl 0 (.int .i64 mk)).set 0 rfl 1 (.slice ca ms.length cc)
      go_simp
      refine ⟨fun w' => St (fun _ => False) w w' [Blk bw #[.int .i64 mk, .slice ca ms.length cc] 45, Row 68 8 (.slice ca ms.length cc) ms.length (encP.all ms), Pool (ms.map Pm.own), Blk bq #[.int .i64 q.kind, .int .i64 q.size, .int .i64 q.slide, .int .i64 q.late, .int .i64 q.agg, .int .i64 q.k] 23, Blk bs #[.int .i64 mk, .slice va l.length vc] 45, Blk bx #[.int .i64 xk, .string ⟨xy.toArray⟩, .int .i64 xt, .int .i64 xv] 56, Blk br #[.int .i64 0, .slice none 0 0] 45], hV _ _ _ (fun _ h => h) (Fam.st (fun _ h => h.pick [4])) ?_, H5⟩
      intro K hK
      go_simp
      refine hK _ ?_
      clear hK K hV V
      clear H5 h1 w1 r0 r1 x0 x1
      refine plan_nil ?_
      intro w9 H9
      go_wp2
      go_meet
      exact ⟨bw, ca, cc, ms, rfl, hmsh, H9.pick [1, 2, 0, 3, 4, 5, 6]⟩
    · skip
      intro V hV w1 h1
      go_simp
      obtain ⟨bw, hbw⟩ : ∃ g, w1.heap.size = g := ⟨_, rfl⟩
      have HX : St (fun _ => False) w _ [Blk bw #[.int .i64 0, .slice none 0 0] 45, Blk bq #[.int .i64 q.kind, .int .i64 q.size, .int .i64 q.slide, .int .i64 q.late, .int .i64 q.agg, .int .i64 q.k] 23, Blk bs #[.int .i64 mk, .slice va l.length vc] 45, Blk bx #[.int .i64 xk, .string ⟨xy.toArray⟩, .int .i64 xt, .int .i64 xv] 56, Blk br #[.int .i64 0, .slice none 0 0] 45] := h1.allocAt hbw #[.int .i64 0, .slice none 0 0] 45
      simp only [hbw]
      refine ⟨fun w' => St (fun _ => False) w w' [Blk bw #[.int .i64 0, .slice none 0 0] 45, Blk bq #[.int .i64 q.kind, .int .i64 q.size, .int .i64 q.slide, .int .i64 q.late, .int .i64 q.agg, .int .i64 q.k] 23, Blk bs #[.int .i64 mk, .slice va l.length vc] 45, Blk bx #[.int .i64 xk, .string ⟨xy.toArray⟩, .int .i64 xt, .int .i64 xv] 56, Blk br #[.int .i64 0, .slice none 0 0] 45], hV _ _ _ (fun _ h => h) (Fam.st (fun _ h => h.pick [2])) ?_, HX⟩
      intro K hK
      go_simp
      refine hK _ ?_
      clear hK K hV V
      clear HX h1 hbw w1
      refine plan_one rfl rfl ?_
      intro V hV w1 h1
      go_simp
      refine (kc w1 h1.kept).mono ?_
      rintro e w2 ⟨cv, ms, rfl, hms, G1⟩
      have hmsh := Lib.hid hms
      clear hms
      obtain ⟨ca, cc, rfl, -, -⟩ := slice_form' (G1.row 0 rfl)
      have HX : St (fun _ => False) w w2 [Row 68 8 (.slice ca ms.length cc) ms.length (encP.all ms), Pool (ms.map Pm.own), Blk bw #[.int .i64 0, .slice none 0 0] 45, Blk bq #[.int .i64 q.kind, .int .i64 q.size, .int .i64 q.slide, .int .i64 q.late, .int .i64 q.agg, .int .i64 q.k] 23, Blk bs #[.int .i64 mk, .slice va l.length vc] 45, Blk bx #[.int .i64 xk, .string ⟨xy.toArray⟩, .int .i64 xt, .int .i64 xv] 56, Blk br #[.int .i64 0, .slice none 0 0] 45] := h1.call0 G1
      refine ⟨_, rfl, fun w' => St (fun _ => False) w w' [Row 68 8 (.slice ca ms.length cc) ms.length (encP.all ms), Pool (ms.map Pm.own), Blk bw #[.int .i64 0, .slice none 0 0] 45, Blk bq #[.int .i64 q.kind, .int .i64 q.size, .int .i64 q.slide, .int .i64 q.late, .int .i64 q.agg, .int .i64 q.k] 23, Blk bs #[.int .i64 mk, .slice va l.length vc] 45, Blk bx #[.int .i64 xk, .string ⟨xy.toArray⟩, .int .i64 xt, .int .i64 xv] 56, Blk br #[.int .i64 0, .slice none 0 0] 45], hV _ _ _ (fun _ h => h) (Fam.st (fun _ h => h.pick [4])) ?_, HX⟩
      intro K hK
      go_simp
      refine hK _ ?_
      clear hK K hV V
      clear HX h1 G1 w1 w2
      iterate 1 first
        | (apply plan_pass
           · rfl
           · rfl
           intro K hK
           go_simp
           refine hK _ ?_
           clear hK K)
        | (apply plan_step
           · rfl
           · rfl
           · intro I hI w1 h1'
             have h1 := hI.2 _ h1'
             first
               | (go_simp
                  first
                    | rfl
                    | exact ⟨rfl, h1'⟩
                 )
           intro K hK
           go_simp
           refine hK _ ?_
           clear hK K)
      refine plan_one rfl rfl ?_
      intro V hV w1 h1
      have r0 := h1.free 2 0 rfl
      have r1 := h1.free 2 1 rfl
      have x0 := h1.cell 2 0 rfl rfl
      have x1 := h1.cell 2 1 rfl rfl
      have H5 := (h1.set 2 rfl 0 (.int .i64 mk)).set 2 rfl 1 (.slice ca ms.length cc)
      go_simp
      refine ⟨fun w' => St (fun _ => False) w w' [Row 68 8 (.slice ca ms.length cc) ms.length (encP.all ms), Pool (ms.map Pm.own), Blk bw #[.int .i64 mk, .slice ca ms.length cc] 45, Blk bq #[.int .i64 q.kind, .int .i64 q.size, .int .i64 q.slide, .int .i64 q.late, .int .i64 q.agg, .int .i64 q.k] 23, Blk bs #[.int .i64 mk, .slice va l.length vc] 45, Blk bx #[.int .i64 xk, .string ⟨xy.toArray⟩, .int .i64 xt, .int .i64 xv] 56, Blk br #[.int .i64 0, .slice none 0 0] 45], hV _ _ _ (fun _ h => h) (Fam.st (fun _ h => h.pick [4])) ?_, H5⟩
      intro K hK
      go_simp
      refine hK _ ?_
      clear hK K hV V
      clear H5 h1 w1 r0 r1 x0 x1
      refine plan_nil ?_
      intro w9 H9
      go_wp2
      go_meet
      exact ⟨bw, ca, cc, ms, rfl, hmsh, H9⟩
  case rest =>
    obtain ⟨bw, ca, cc, ms, rfl, hmsh, HC⟩ := hcut
    clear H5
    have d0 := HC.cell 3 0 rfl rfl
    have d1 := HC.cell 3 1 rfl rfl
    have d2 := HC.cell 3 2 rfl rfl
    have d3 := HC.cell 3 3 rfl rfl
    have d4 := HC.cell 3 4 rfl rfl
    have d5 := HC.cell 3 5 rfl rfl
    have s0 := HC.cell 4 0 rfl rfl
    have s1 := HC.cell 4 1 rfl rfl
    have hcc : (sr = false ∨ (sr = true ∧ xr = false)) ∨ (sr = true ∧ xr = true) := by cases sr <;> cases xr <;> simp
    rcases hcc with hbad | ⟨rfl, rfl⟩
    · have hfr : res = ⟨⟨mk, l⟩, [], 2⟩ := by
        rw [hsteph.out, hsrh.out, hxrh.out, if_neg (by rcases hbad with h | h <;> simp [h])]
      have hfres := Lib.hid hfr
      clear hfr hsteph kmk kvt hkindh
      rcases hbad with rfl | ⟨rfl, rfl⟩
      all_goals
        go_upto_region 3 with (first
          | (go_at_call 29; go_must (refine (St.callPast (krg _ HC.kept) HC).mono ?_; rintro e w3 ⟨rfl, H6⟩; have i0 := H6.cell 5 0 rfl rfl; have i1 := H6.cell 5 1 rfl rfl; have i2 := H6.cell 5 2 rfl rfl; have i3 := H6.cell 5 3 rfl rfl))
          | (go_at_call 71; go_must (refine (St.callPast (kev _) H6).mono ?_; rintro e w4 ⟨rfl, H7⟩)))
      · skip
        have y0 := H6.cell 2 0 rfl rfl
        have y1 := H6.cell 2 1 rfl rfl
        have x0 := H6.cell 6 0 rfl rfl
        have x1 := H6.cell 6 1 rfl rfl
        have r0 := H6.free 6 0 rfl
        have r1 := H6.free 6 1 rfl
        have H8 := (H6.set 6 rfl 0 (.int .i64 mk)).set 6 rfl 1 (.slice ca ms.length cc)
        go_wp2
        try simp only [Exit.inBlock, Exit.then]
        refine bodyPost_ret (results_ctt rfl rfl (blk_range (cs := [.int .i64 mk, .slice ca ms.length cc]) (H8.blk 6 rfl)) Tryz.underlying45 rfl (by kernel_rfl)) rfl ?_
        rw [hfres.out]
        exact ⟨.slice ca ms.length cc, .slice none 0 0, ms, [], ms.map Pm.own, rfl, hmsh.out, rfl, fun m hm => List.mem_map_of_mem hm, (fun y hy => by cases hy), (H8.row_nil 63 10).pick [1, 0, 2]⟩
      · skip
        have y0 := H7.cell 2 0 rfl rfl
        have y1 := H7.cell 2 1 rfl rfl
        have x0 := H7.cell 6 0 rfl rfl
        have x1 := H7.cell 6 1 rfl rfl
        have r0 := H7.free 6 0 rfl
        have r1 := H7.free 6 1 rfl
        have H8 := (H7.set 6 rfl 0 (.int .i64 mk)).set 6 rfl 1 (.slice ca ms.length cc)
        go_wp2
        try simp only [Exit.inBlock, Exit.then]
        refine bodyPost_ret (results_ctt rfl rfl (blk_range (cs := [.int .i64 mk, .slice ca ms.length cc]) (H8.blk 6 rfl)) Tryz.underlying45 rfl (by kernel_rfl)) rfl ?_
        rw [hfres.out]
        exact ⟨.slice ca ms.length cc, .slice none 0 0, ms, [], ms.map Pm.own, rfl, hmsh.out, rfl, fun m hm => List.mem_map_of_mem hm, (fun y hy => by cases hy), (H8.row_nil 63 10).pick [1, 0, 2]⟩
    · go_upto_region 4 with (first
        | (go_at_call 29; go_must (refine (St.callPast (krg _ HC.kept) HC).mono ?_; rintro e w3 ⟨rfl, H6⟩; have i0 := H6.cell 5 0 rfl rfl; have i1 := H6.cell 5 1 rfl rfl; have i2 := H6.cell 5 2 rfl rfl; have i3 := H6.cell 5 3 rfl rfl))
        | (go_at_call 71; go_must (refine (St.callPast (kev _) H6).mono ?_; rintro e w4 ⟨rfl, H7⟩)))
      clear H6 HC d0 d1 d2 d3 d4 d5 s0 s1 i0 i1 i2 i3 krg kev
      refine wp_script [(0, false), (1, false), (2, false), (3, false), (4, false), (5, true), (6, false), (7, false), (8, true), (9, false)] (Fam fun w' => St (fun _ => False) w w' [Blk bq #[.int .i64 q.kind, .int .i64 q.size, .int .i64 q.slide, .int .i64 q.late, .int .i64 q.agg, .int .i64 q.k] 23, Blk bs #[.int .i64 mk, .slice va l.length vc] 45]) (fun w' => St (fun _ => False) w w' [Row 68 8 (.slice ca ms.length cc) ms.length (encP.all ms), Pool (ms.map Pm.own), Blk bw #[.int .i64 mk, .slice ca ms.length cc] 45, Blk bq #[.int .i64 q.kind, .int .i64 q.size, .int .i64 q.slide, .int .i64 q.late, .int .i64 q.agg, .int .i64 q.k] 23, Blk bs #[.int .i64 mk, .slice va l.length vc] 45, Blk bx #[.int .i64 xk, .string ⟨xy.toArray⟩, .int .i64 xt, .int .i64 xv] 56, Blk br #[.int .i64 0, .slice none 0 0] 45]) (by kernel_rfl) (by rfl) (by kernel_rfl) (by kernel_rfl) H7.drew (Fam.st (fun _ h => h.pick [3, 4])) ?_
      iterate 5 first
        | (apply script_pass
           · rfl
           · rfl
           intro K hK
           go_simp
           refine hK _ ?_
           clear hK K)
        | (apply script_step
           · rfl
           · rfl
           · intro I hI w1 h1'
             have h1 := hI.2 _ h1'
             have d0 := h1.cell 0 0 rfl rfl
             have d1 := h1.cell 0 1 rfl rfl
             have d2 := h1.cell 0 2 rfl rfl
             have d3 := h1.cell 0 3 rfl rfl
             have d4 := h1.cell 0 4 rfl rfl
             have d5 := h1.cell 0 5 rfl rfl
             have s0 := h1.cell 1 0 rfl rfl
             have s1 := h1.cell 1 1 rfl rfl
             first
               | (go_simp
                  first
                    | rfl
                    | exact ⟨rfl, h1'⟩
                 )
           intro K hK
           go_simp
           refine hK _ ?_
           clear hK K)
      refine script_alone rfl rfl ?_
      intro V hV w1 h1
      go_simp
      refine (kc w1 h1.kept).mono ?_
      rintro e w2 ⟨cv, ms3, rfl, hms3, G1⟩
      have hms3h := Lib.hid hms3
      clear hms3
      obtain ⟨ca2, cc2, rfl, -, -⟩ := slice_form' (G1.row 0 rfl)
      have HX : St (fun _ => False) w w2 [Row 68 8 (.slice ca2 ms3.length cc2) ms3.length (encP.all ms3), Pool (ms3.map Pm.own), Row 68 8 (.slice ca ms.length cc) ms.length (encP.all ms), Pool (ms.map Pm.own), Blk bw #[.int .i64 mk, .slice ca ms.length cc] 45, Blk bq #[.int .i64 q.kind, .int .i64 q.size, .int .i64 q.slide, .int .i64 q.late, .int .i64 q.agg, .int .i64 q.k] 23, Blk bs #[.int .i64 mk, .slice va l.length vc] 45, Blk bx #[.int .i64 xk, .string ⟨xy.toArray⟩, .int .i64 xt, .int .i64 xv] 56, Blk br #[.int .i64 0, .slice none 0 0] 45] := h1.call0 G1
      refine ⟨_, rfl, fun w' => St (fun _ => False) w w' [Row 68 8 (.slice ca2 ms3.length cc2) ms3.length (encP.all ms3), Pool (ms3.map Pm.own), Row 68 8 (.slice ca ms.length cc) ms.length (encP.all ms), Pool (ms.map Pm.own), Blk bw #[.int .i64 mk, .slice ca ms.length cc] 45, Blk bq #[.int .i64 q.kind, .int .i64 q.size, .int .i64 q.slide, .int .i64 q.late, .int .i64 q.agg, .int .i64 q.k] 23, Blk bs #[.int .i64 mk, .slice va l.length vc] 45, Blk bx #[.int .i64 xk, .string ⟨xy.toArray⟩, .int .i64 xt, .int .i64 xv] 56, Blk br #[.int .i64 0, .slice none 0 0] 45], hV _ _ _ (fun _ h => h) (Fam.st (fun _ h => h.pick [5, 6])) ?_, HX⟩
      intro K hK
      go_simp
      refine hK _ ?_
      clear hK K hV V
      clear HX h1 G1 w1 w2
      iterate 2 first
        | (apply script_pass
           · rfl
           · rfl
           intro K hK
           go_simp
           refine hK _ ?_
           clear hK K)
        | (apply script_step
           · rfl
           · rfl
           · intro I hI w1 h1'
             have h1 := hI.2 _ h1'
             first
               | (go_simp
                  first
                    | rfl
                    | exact ⟨rfl, h1'⟩
                 )
           intro K hK
           go_simp
           refine hK _ ?_
           clear hK K)
      refine script_alone rfl rfl ?_
      intro V hV w1 h1
      go_simp
      obtain ⟨bt, hbt⟩ : ∃ g, w1.heap.size = g := ⟨_, rfl⟩
      have HX : St (fun _ => False) w _ [Blk bt (stC q mk (.slice ca2 ms3.length cc2) (.slice none 0 0)) 137, Row 68 8 (.slice ca2 ms3.length cc2) ms3.length (encP.all ms3), Pool (ms3.map Pm.own), Row 68 8 (.slice ca ms.length cc) ms.length (encP.all ms), Pool (ms.map Pm.own), Blk bw #[.int .i64 mk, .slice ca ms.length cc] 45, Blk bq #[.int .i64 q.kind, .int .i64 q.size, .int .i64 q.slide, .int .i64 q.late, .int .i64 q.agg, .int .i64 q.k] 23, Blk bs #[.int .i64 mk, .slice va l.length vc] 45, Blk bx #[.int .i64 xk, .string ⟨xy.toArray⟩, .int .i64 xt, .int .i64 xv] 56, Blk br #[.int .i64 0, .slice none 0 0] 45] := h1.allocAt hbt (stC q mk (.slice ca2 ms3.length cc2) (.slice none 0 0)) 137
      simp only [hbt]
      refine ⟨fun w' => St (fun _ => False) w w' [Blk bt (stC q mk (.slice ca2 ms3.length cc2) (.slice none 0 0)) 137, Row 68 8 (.slice ca2 ms3.length cc2) ms3.length (encP.all ms3), Pool (ms3.map Pm.own), Row 68 8 (.slice ca ms.length cc) ms.length (encP.all ms), Pool (ms.map Pm.own), Blk bw #[.int .i64 mk, .slice ca ms.length cc] 45, Blk bq #[.int .i64 q.kind, .int .i64 q.size, .int .i64 q.slide, .int .i64 q.late, .int .i64 q.agg, .int .i64 q.k] 23, Blk bs #[.int .i64 mk, .slice va l.length vc] 45, Blk bx #[.int .i64 xk, .string ⟨xy.toArray⟩, .int .i64 xt, .int .i64 xv] 56, Blk br #[.int .i64 0, .slice none 0 0] 45], hV _ _ _ (fun _ h => h) (Fam.st (fun _ h => h.pick [6, 7])) ?_, HX⟩
      intro K hK
      go_simp
      refine hK _ ?_
      clear hK K hV V
      clear HX h1 hbt w1
      iterate 1 first
        | (apply script_pass
           · rfl
           · rfl
           intro K hK
           go_simp
           refine hK _ ?_
           clear hK K)
        | (apply script_step
           · rfl
           · rfl
           · intro I hI w1 h1'
             have h1 := hI.2 _ h1'
             first
               | (go_simp
                  first
                    | rfl
                    | exact ⟨rfl, h1'⟩
                 )
           intro K hK
           go_simp
           refine hK _ ?_
           clear hK K)
      refine script_nil ?_
      intro w5 H8
      have H9 : St (fun _ => False) w w5 [Blk bt (stC q mk (.slice ca2 ms3.length cc2) (.slice none 0 0)) 137, Row 68 8 (.slice ca2 ms3.length cc2) ms3.length (encP.all ms3), Row 63 10 (.slice none 0 0) 0 (encO.all []), Pool (ms3.map Pm.own), Row 68 8 (.slice ca ms.length cc) ms.length (encP.all ms), Pool (ms.map Pm.own), Blk bw #[.int .i64 mk, .slice ca ms.length cc] 45, Blk bq #[.int .i64 q.kind, .int .i64 q.size, .int .i64 q.slide, .int .i64 q.late, .int .i64 q.agg, .int .i64 q.k] 23, Blk bs #[.int .i64 mk, .slice va l.length vc] 45, Blk bx #[.int .i64 xk, .string ⟨xy.toArray⟩, .int .i64 xt, .int .i64 xv] 56, Blk br #[.int .i64 0, .slice none 0 0] 45] := (H8.row_nil 63 10).pick [1, 2, 0, 3, 4, 5, 6, 7, 8, 9, 10]
      have hms3h := (by assumption : Hid (ms3.map (·.p) = l))
      have HS := Stp.mk' (q := q) (mk := mk) (l := l) (o := []) (os := []) hms3h.out rfl (fun m hm => List.mem_map_of_mem hm) (fun y hy => by cases hy) H9
      have HS : St (fun _ => False) w w5 [Stp bt q mk l [], Row 68 8 (.slice ca ms.length cc) ms.length (encP.all ms), Pool (ms.map Pm.own), Blk bw #[.int .i64 mk, .slice ca ms.length cc] 45, Blk bq #[.int .i64 q.kind, .int .i64 q.size, .int .i64 q.slide, .int .i64 q.late, .int .i64 q.agg, .int .i64 q.k] 23, Blk bs #[.int .i64 mk, .slice va l.length vc] 45, Blk bx #[.int .i64 xk, .string ⟨xy.toArray⟩, .int .i64 xt, .int .i64 xv] 56, Blk br #[.int .i64 0, .slice none 0 0] 45] := HS
      clear H7 H8 H9 kc
      have i0 := HS.cell 6 0 rfl rfl
      have i1 := HS.cell 6 1 rfl rfl
      have i2 := HS.cell 6 2 rfl rfl
      have i3 := HS.cell 6 3 rfl rfl
      obtain ⟨S1, K1, G1⟩ := St.call (l1 := [_]) (l2 := [_, _, _, _, _, _, _]) HS
      by_cases hk2 : xk = 2
      · subst hk2
        have hfr : res = ⟨(markM q ⟨mk, l⟩ xt).1, (markM q ⟨mk, l⟩ xt).2, 0⟩ := by
          rw [hsteph.out, hsrh.out, hxrh.out]
          rfl
        have hfres := Lib.hid hfr
        have km := kmk.out hsrh.out bt w5 S1 K1
        simp only [List.nil_append] at km
        obtain ⟨MM, hMM⟩ : ∃ z, markM q ⟨mk, l⟩ xt = z := ⟨_, rfl⟩
        rw [hMM] at hfres
        simp only [hMM] at km
        clear hMM
        obtain ⟨⟨MK1, L1⟩, O1⟩ := MM
        try simp only at km
        try simp only at hfres
        clear hfr hsteph kmk kvt hkindh HS K1
        go_upto_region 10 with (go_at_call 72; go_must (refine km.mono ?_; rintro e w6 ⟨rfl, H10⟩))
        have H11 : St (fun _ => False) w w6 [Stp bt q MK1 L1 O1, Row 68 8 (.slice ca ms.length cc) ms.length (encP.all ms), Pool (ms.map Pm.own), Blk bw #[.int .i64 mk, .slice ca ms.length cc] 45, Blk bq #[.int .i64 q.kind, .int .i64 q.size, .int .i64 q.slide, .int .i64 q.late, .int .i64 q.agg, .int .i64 q.k] 23, Blk bs #[.int .i64 mk, .slice va l.length vc] 45, Blk bx #[.int .i64 2, .string ⟨xy.toArray⟩, .int .i64 xt, .int .i64 xv] 56, Blk br #[.int .i64 0, .slice none 0 0] 45] := G1 _ _ H10
        clear H10 G1 km i0 i1 i2 i3
        obtain ⟨pv, ov, ms2, os2, HH, hml2, hol2, hmo2, hoo2, HO⟩ := Stp.open H11
        have hml2h := Lib.hid hml2
        have hol2h := Lib.hid hol2
        have hmo2h := Lib.hid hmo2
        have hoo2h := Lib.hid hoo2
        clear hml2 hol2 hmo2 hoo2 H11
        obtain ⟨pa, pc, rfl, -, -⟩ := slice_form' (HO.row 1 rfl)
        obtain ⟨oa, oc, rfl, -, -⟩ := slice_form' (HO.row 2 rfl)
        have HO2 : St (fun _ => False) w _ [Blk br #[.int .i64 0, .slice none 0 0] 45, Blk bt (stC q MK1 (.slice pa ms2.length pc) (.slice oa os2.length oc)) 137, Row 68 8 (.slice pa ms2.length pc) ms2.length (encP.all ms2), Row 63 10 (.slice oa os2.length oc) os2.length (encO.all os2), Pool HH] := HO.pick [10, 0, 1, 2, 3]
        clear HO
        go_upto_region 10 with (fail)
        refine wp_script [(0, false), (1, false), (2, false), (3, false), (4, false), (5, false), (6, false), (7, false), (8, true), (9, false), (10, false)] (Fam fun w' => St (fun _ => False) w w' [Blk bt (stC q MK1 (.slice pa ms2.length pc) (.slice oa os2.length oc)) 137]) (fun w' => St (fun _ => False) w w' [Blk br #[.int .i64 0, .slice none 0 0] 45, Blk bt (stC q MK1 (.slice pa ms2.length pc) (.slice oa os2.length oc)) 137, Row 68 8 (.slice pa ms2.length pc) ms2.length (encP.all ms2), Row 63 10 (.slice oa os2.length oc) os2.length (encO.all os2), Pool HH]) (by kernel_rfl) (by rfl) (by kernel_rfl) (by kernel_rfl) HO2.drew (Fam.st (fun _ h => h.pick [1])) ?_
        iterate 8 first
          | (apply script_pass
             · rfl
             · rfl
             intro K hK
             go_simp
             refine hK _ ?_
             clear hK K)
          | (apply script_step
             · rfl
             · rfl
             · intro I hI w1 h1'
               have h1 := hI.2 _ h1'
               have c6 := h1.cell 0 6 rfl rfl
               have c7 := h1.cell 0 7 rfl rfl
               have c8 := h1.cell 0 8 rfl rfl
               first
                 | (go_simp
                    first
                      | rfl
                      | exact ⟨rfl, h1'⟩
                   )
             intro K hK
             go_simp
             refine hK _ ?_
             clear hK K)
        refine script_alone rfl rfl ?_
        intro V hV w1 h1
        have r0 := h1.free 0 0 rfl
        have r1 := h1.free 0 1 rfl
        have x0 := h1.cell 0 0 rfl rfl
        have x1 := h1.cell 0 1 rfl rfl
        have HX := (h1.set 0 rfl 0 (.int .i64 MK1)).set 0 rfl 1 (.slice pa ms2.length pc)
        go_simp
        refine ⟨fun w' => St (fun _ => False) w w' [Blk br #[.int .i64 MK1, .slice pa ms2.length pc] 45, Blk bt (stC q MK1 (.slice pa ms2.length pc) (.slice oa os2.length oc)) 137, Row 68 8 (.slice pa ms2.length pc) ms2.length (encP.all ms2), Row 63 10 (.slice oa os2.length oc) os2.length (encO.all os2), Pool HH], hV _ _ _ (fun _ h => h) (Fam.st (fun _ h => h.pick [1])) ?_, HX⟩
        intro K hK
        go_simp
        refine hK _ ?_
        clear hK K hV V
        clear HX h1 w1 r0 r1 x0 x1
        iterate 2 first
          | (apply script_pass
             · rfl
             · rfl
             intro K hK
             go_simp
             refine hK _ ?_
             clear hK K)
          | (apply script_step
             · rfl
             · rfl
             · intro I hI w1 h1'
               have h1 := hI.2 _ h1'
               first
                 | (go_simp
                    first
                      | rfl
                      | exact ⟨rfl, h1'⟩
                   )
             intro K hK
             go_simp
             refine hK _ ?_
             clear hK K)
        refine script_nil ?_
        intro w9 H9
        go_wp2
        try simp only [Exit.inBlock, Exit.then]
        refine bodyPost_ret (results_ctt rfl rfl (blk_range (cs := [.int .i64 MK1, .slice pa ms2.length pc]) (H9.blk 0 rfl)) Tryz.underlying45 rfl (by kernel_rfl)) rfl ?_
        rw [hfres.out]
        exact ⟨.slice pa ms2.length pc, .slice oa os2.length oc, ms2, os2, HH, rfl, hml2h.out, hol2h.out, hmo2h.out, hoo2h.out, H9.pick [2, 3, 4]⟩
      · have hk1 := hkindh.out hxrh.out hk2
        subst hk1
        have hfr : res = eventM q ⟨mk, l⟩ ⟨1, xy, xt, xv⟩ := by
          rw [hsteph.out, hsrh.out, hxrh.out]
          rfl
        have kv := kvt.out hsrh.out hxrh.out rfl bt w5 S1 K1
        unfold eventM at hfr
        try simp only at hfr
        obtain ⟨LS, hLS⟩ : ∃ z, laysM q mk xv (winsOf q xy xt) ⟨l, [], false⟩ = z := ⟨_, rfl⟩
        rw [hLS] at hfr kv
        unfold EvOk at kv
        clear hLS hsteph kmk kvt hkindh HS K1 hk2
        unfold itmV textV at kv
        simp only at kv
        cases LS with
        | none =>
          simp only at hfr kv
          have hfres := Lib.hid hfr
          clear hfr
          go_upto_region 9 with (go_at_call 73; go_must (refine kv.mono ?_; rintro e w6 ⟨rfl, H10⟩))
          have H11 : St (fun _ => False) w w6 [Row 68 8 (.slice ca ms.length cc) ms.length (encP.all ms), Pool (ms.map Pm.own), Blk bw #[.int .i64 mk, .slice ca ms.length cc] 45, Blk bq #[.int .i64 q.kind, .int .i64 q.size, .int .i64 q.slide, .int .i64 q.late, .int .i64 q.agg, .int .i64 q.k] 23, Blk bs #[.int .i64 mk, .slice va l.length vc] 45, Blk bx #[.int .i64 1, .string ⟨xy.toArray⟩, .int .i64 xt, .int .i64 xv] 56, Blk br #[.int .i64 0, .slice none 0 0] 45] := G1 _ _ H10
          clear H10 G1 kv i0 i1 i2 i3
          have y0 := H11.cell 2 0 rfl rfl
          have y1 := H11.cell 2 1 rfl rfl
          have x0 := H11.cell 6 0 rfl rfl
          have x1 := H11.cell 6 1 rfl rfl
          have r0 := H11.free 6 0 rfl
          have r1 := H11.free 6 1 rfl
          have H12 := (H11.set 6 rfl 0 (.int .i64 mk)).set 6 rfl 1 (.slice ca ms.length cc)
          go_wp2
          try simp only [Exit.inBlock, Exit.then]
          refine bodyPost_ret (results_ctt rfl rfl (blk_range (cs := [.int .i64 mk, .slice ca ms.length cc]) (H12.blk 6 rfl)) Tryz.underlying45 rfl (by kernel_rfl)) rfl ?_
          rw [hfres.out]
          exact ⟨.slice ca ms.length cc, .slice none 0 0, ms, [], ms.map Pm.own, rfl, hmsh.out, rfl, fun m hm => List.mem_map_of_mem hm, (fun y hy => by cases hy), (H12.row_nil 63 10).pick [1, 0, 2]⟩
        | some y =>
          simp only at hfr kv
          by_cases hfull : 256 < y.panes.length
          · simp only [if_pos hfull] at hfr kv
            have hfres := Lib.hid hfr
            clear hfr
            go_upto_region 9 with (go_at_call 73; go_must (refine kv.mono ?_; rintro e w6 ⟨rfl, H10⟩))
            have H11 : St (fun _ => False) w w6 [Row 68 8 (.slice ca ms.length cc) ms.length (encP.all ms), Pool (ms.map Pm.own), Blk bw #[.int .i64 mk, .slice ca ms.length cc] 45, Blk bq #[.int .i64 q.kind, .int .i64 q.size, .int .i64 q.slide, .int .i64 q.late, .int .i64 q.agg, .int .i64 q.k] 23, Blk bs #[.int .i64 mk, .slice va l.length vc] 45, Blk bx #[.int .i64 1, .string ⟨xy.toArray⟩, .int .i64 xt, .int .i64 xv] 56, Blk br #[.int .i64 0, .slice none 0 0] 45] := G1 _ _ H10
            clear H10 G1 kv i0 i1 i2 i3 hfull
            have y0 := H11.cell 2 0 rfl rfl
            have y1 := H11.cell 2 1 rfl rfl
            have x0 := H11.cell 6 0 rfl rfl
            have x1 := H11.cell 6 1 rfl rfl
            have r0 := H11.free 6 0 rfl
            have r1 := H11.free 6 1 rfl
            have H12 := (H11.set 6 rfl 0 (.int .i64 mk)).set 6 rfl 1 (.slice ca ms.length cc)
            go_wp2
            try simp only [Exit.inBlock, Exit.then]
            refine bodyPost_ret (results_ctt rfl rfl (blk_range (cs := [.int .i64 mk, .slice ca ms.length cc]) (H12.blk 6 rfl)) Tryz.underlying45 rfl (by kernel_rfl)) rfl ?_
            rw [hfres.out]
            exact ⟨.slice ca ms.length cc, .slice none 0 0, ms, [], ms.map Pm.own, rfl, hmsh.out, rfl, fun m hm => List.mem_map_of_mem hm, (fun y hy => by cases hy), (H12.row_nil 63 10).pick [1, 0, 2]⟩
          · simp only [if_neg hfull] at hfr kv
            obtain ⟨O1, hO1⟩ : ∃ z, (if y.taken = true then y.outs else y.outs ++ [lateO ⟨1, xy, xt, xv⟩]) = z := ⟨_, rfl⟩
            rw [hO1] at hfr kv
            have hfres := Lib.hid hfr
            obtain ⟨MK1, hMK1⟩ : ∃ z, z = mk := ⟨_, rfl⟩
            obtain ⟨L1, hL1⟩ : ∃ z, y.panes = z := ⟨_, rfl⟩
            rw [hL1] at kv hfres
            clear hfr hO1 hfull hL1
            go_upto_region 10 with (go_at_call 73; go_must (refine kv.mono ?_; rintro e w6 ⟨rfl, H10⟩))
            have H11 : St (fun _ => False) w w6 [Stp bt q mk L1 O1, Row 68 8 (.slice ca ms.length cc) ms.length (encP.all ms), Pool (ms.map Pm.own), Blk bw #[.int .i64 mk, .slice ca ms.length cc] 45, Blk bq #[.int .i64 q.kind, .int .i64 q.size, .int .i64 q.slide, .int .i64 q.late, .int .i64 q.agg, .int .i64 q.k] 23, Blk bs #[.int .i64 mk, .slice va l.length vc] 45, Blk bx #[.int .i64 1, .string ⟨xy.toArray⟩, .int .i64 xt, .int .i64 xv] 56, Blk br #[.int .i64 0, .slice none 0 0] 45] := G1 _ _ H10
            clear H10 G1 kv i0 i1 i2 i3
            rw [← hMK1] at H11 hfres
            clear hMK1
            obtain ⟨pv, ov, ms2, os2, HH, hml2, hol2, hmo2, hoo2, HO⟩ := Stp.open H11
            have hml2h := Lib.hid hml2
            have hol2h := Lib.hid hol2
            have hmo2h := Lib.hid hmo2
            have hoo2h := Lib.hid hoo2
            clear hml2 hol2 hmo2 hoo2 H11
            obtain ⟨pa, pc, rfl, -, -⟩ := slice_form' (HO.row 1 rfl)
            obtain ⟨oa, oc, rfl, -, -⟩ := slice_form' (HO.row 2 rfl)
            have HO2 : St (fun _ => False) w _ [Blk br #[.int .i64 0, .slice none 0 0] 45, Blk bt (stC q MK1 (.slice pa ms2.length pc) (.slice oa os2.length oc)) 137, Row 68 8 (.slice pa ms2.length pc) ms2.length (encP.all ms2), Row 63 10 (.slice oa os2.length oc) os2.length (encO.all os2), Pool HH] := HO.pick [10, 0, 1, 2, 3]
            clear HO
            go_upto_region 10 with (fail)
            refine wp_script [(0, false), (1, false), (2, false), (3, false), (4, false), (5, false), (6, false), (7, false), (8, true), (9, false), (10, false)] (Fam fun w' => St (fun _ => False) w w' [Blk bt (stC q MK1 (.slice pa ms2.length pc) (.slice oa os2.length oc)) 137]) (fun w' => St (fun _ => False) w w' [Blk br #[.int .i64 0, .slice none 0 0] 45, Blk bt (stC q MK1 (.slice pa ms2.length pc) (.slice oa os2.length oc)) 137, Row 68 8 (.slice pa ms2.length pc) ms2.length (encP.all ms2), Row 63 10 (.slice oa os2.length oc) os2.length (encO.all os2), Pool HH]) (by kernel_rfl) (by rfl) (by kernel_rfl) (by kernel_rfl) HO2.drew (Fam.st (fun _ h => h.pick [1])) ?_
            iterate 8 first
              | (apply script_pass
                 · rfl
                 · rfl
                 intro K hK
                 go_simp
                 refine hK _ ?_
                 clear hK K)
              | (apply script_step
                 · rfl
                 · rfl
                 · intro I hI w1 h1'
                   have h1 := hI.2 _ h1'
                   have c6 := h1.cell 0 6 rfl rfl
                   have c7 := h1.cell 0 7 rfl rfl
                   have c8 := h1.cell 0 8 rfl rfl
                   first
                     | (go_simp
                        first
                          | rfl
                          | exact ⟨rfl, h1'⟩
                       )
                 intro K hK
                 go_simp
                 refine hK _ ?_
                 clear hK K)
            refine script_alone rfl rfl ?_
            intro V hV w1 h1
            have r0 := h1.free 0 0 rfl
            have r1 := h1.free 0 1 rfl
            have x0 := h1.cell 0 0 rfl rfl
            have x1 := h1.cell 0 1 rfl rfl
            have HX := (h1.set 0 rfl 0 (.int .i64 MK1)).set 0 rfl 1 (.slice pa ms2.length pc)
            go_simp
            refine ⟨fun w' => St (fun _ => False) w w' [Blk br #[.int .i64 MK1, .slice pa ms2.length pc] 45, Blk bt (stC q MK1 (.slice pa ms2.length pc) (.slice oa os2.length oc)) 137, Row 68 8 (.slice pa ms2.length pc) ms2.length (encP.all ms2), Row 63 10 (.slice oa os2.length oc) os2.length (encO.all os2), Pool HH], hV _ _ _ (fun _ h => h) (Fam.st (fun _ h => h.pick [1])) ?_, HX⟩
            intro K hK
            go_simp
            refine hK _ ?_
            clear hK K hV V
            clear HX h1 w1 r0 r1 x0 x1
            iterate 2 first
              | (apply script_pass
                 · rfl
                 · rfl
                 intro K hK
                 go_simp
                 refine hK _ ?_
                 clear hK K)
              | (apply script_step
                 · rfl
                 · rfl
                 · intro I hI w1 h1'
                   have h1 := hI.2 _ h1'
                   first
                     | (go_simp
                        first
                          | rfl
                          | exact ⟨rfl, h1'⟩
                       )
                 intro K hK
                 go_simp
                 refine hK _ ?_
                 clear hK K)
            refine script_nil ?_
            intro w9 H9
            go_wp2
            try simp only [Exit.inBlock, Exit.then]
            refine bodyPost_ret (results_ctt rfl rfl (blk_range (cs := [.int .i64 MK1, .slice pa ms2.length pc]) (H9.blk 0 rfl)) Tryz.underlying45 rfl (by kernel_rfl)) rfl ?_
            rw [hfres.out]
            exact ⟨.slice pa ms2.length pc, .slice oa os2.length oc, ms2, os2, HH, rfl, hml2h.out, hol2h.out, hmo2h.out, hoo2h.out, H9.pick [2, 3, 4]⟩

end Go.Proofs.YtiglgfonhdfpmaaGreat

/- slices.EqualFunc at panes, of the same ones; oper.Same, oper.New. Condition: they fit. (Printed by a program of mine.) -/
set_option linter.unusedVariables false
set_option linter.unusedSimpArgs false
namespace Go.Proofs.YtiglgfonhdfpmaaGreat
open Go.RowKit

set_option maxHeartbeats 2000000 in
set_option maxRecDepth 100000 in
theorem oper_new (w : World) : Calls Tryz.prog 22 #[] w fun e w' => e = .returned (.agg #[.int .i64 (-1), .slice none 0 0]) ∧ St (fun _ => False) w w' [] := by
  have H0 : St (fun _ => False) w _ [_] := (St.nil _ w).allocAt rfl #[.int .i64 (-1), .slice none 0 0] 45
  go_enter Tryz.func22, Tryz.ntmps22
  go_wp2
  try simp only [Exit.inBlock, Exit.then]
  refine bodyPost_ret (results_ag rfl rfl (blk_range (cs := [.int .i64 (-1), .slice none 0 0]) (H0.blk 0 rfl)) Tryz.underlying45 rfl (by kernel_rfl)) rfl ?_
  exact ⟨rfl, H0.pick []⟩

end Go.Proofs.YtiglgfonhdfpmaaGreat

/- oper.SameOuts of the same ones. Condition: they fit. (Printed by a program of mine.) -/
set_option linter.unusedVariables false
set_option linter.unusedSimpArgs false
namespace Go.Proofs.YtiglgfonhdfpmaaGreat
open Go.RowKit
/-- The cells of an out of a slice. -/
theorem ot_cells {w w' : World} {b o i : Nat} {x : Om} (h : w.rangeAt b (o + i * 10) (otC x).toList) (hb : w'.heap[b]? = w.heap[b]?) :
    w'.cell? ⟨b, o + i * 10, none⟩ = some (.bool x.o.late) ∧ w'.cell? ⟨b, o + i * 10 + 1, none⟩ = some (.int .i64 x.o.item.kind) ∧ w'.cell? ⟨b, o + i * 10 + 2, none⟩ = some (textV x.o.item.key) ∧ w'.cell? ⟨b, o + i * 10 + 3, none⟩ = some (.int .i64 x.o.item.time) ∧ w'.cell? ⟨b, o + i * 10 + 4, none⟩ = some (.int .i64 x.o.item.value) ∧
    w'.cell? ⟨b, o + i * 10 + 5, none⟩ = some (textV x.o.w.key) ∧ w'.cell? ⟨b, o + i * 10 + 6, none⟩ = some (.int .i64 x.o.w.frm) ∧ w'.cell? ⟨b, o + i * 10 + 7, none⟩ = some (.int .i64 x.o.w.to) ∧ w'.cell? ⟨b, o + i * 10 + 8, none⟩ = some (.int .i64 x.o.round) ∧ w'.cell? ⟨b, o + i * 10 + 9, none⟩ = some x.hd :=
  ⟨Enc.at (E := encO) h hb (j := 0) rfl, Enc.at (E := encO) h hb (j := 1) rfl, Enc.at (E := encO) h hb (j := 2) rfl, Enc.at (E := encO) h hb (j := 3) rfl, Enc.at (E := encO) h hb (j := 4) rfl, Enc.at (E := encO) h hb (j := 5) rfl, Enc.at (E := encO) h hb (j := 6) rfl, Enc.at (E := encO) h hb (j := 7) rfl, Enc.at (E := encO) h hb (j := 8) rfl, Enc.at (E := encO) h hb (j := 9) rfl⟩
end Go.Proofs.YtiglgfonhdfpmaaGreat

/- law10's first. (Printed by a program of mine.) -/
set_option linter.unusedVariables false
set_option linter.unusedSimpArgs false
namespace Go.Proofs.YtiglgfonhdfpmaaGreat
open Go.RowKit

theorem new_below (w : World) : Calls Tryz.prog 22 #[] w fun e w' => e = .returned (.agg #[.int .i64 (-1), .slice none 0 0]) ∧ Below w.heap.size w w' := by
  refine (oper_new w).mono ?_
  rintro e w' ⟨rfl, H⟩
  exact ⟨rfl, H.below (Nat.le_refl _) (fun _ h => h.elim)⟩

end Go.Proofs.YtiglgfonhdfpmaaGreat
