import Derived.Test.YtiglgfonhdfpmaaGreatLw1
import Derived.Test.YtiglgfonhdfpmaaGreatLw2
import Derived.Test.YtiglgfonhdfpmaaGreatLw3
import Derived.Test.YtiglgfonhdfpmaaGreatLw4
import Derived.Test.YtiglgfonhdfpmaaGreatLw10
import Derived.Test.YtiglgfonhdfpmaaGreatLw12
import Derived.Deep.CutBlock
import Derived.Lib.ItoaNum
import Derived.Lib.AtoiAll
import Derived.Lib.Split
import Derived.Lib.SplitLaws
import Derived.Lib.IndexLaws
import Derived.Lib.CountLaws
/- The stepper's mark. Conditions: the state is right. (Printed by a program of mine.) -/
set_option linter.unusedVariables false
set_option linter.unusedSimpArgs false
namespace Go.Proofs.YtiglgfonhdfpmaaGreat
open Go.RowKit

theorem Tryz.info198 : (Tryz.prog.info? 198).map (fun i => (i.zero, i.size, i.bytes)) = some (some (.pointer none), 1, 8) := by kernel_rfl
theorem ptrs_app (g : Nat) (a b : List Nat) : ptrs g (a ++ b) = ptrs g a ++ ptrs g b := by unfold ptrs; rw [List.map_append]
theorem nowI_len (m : Int) (ms : List Pm) (n : Nat) : (nowI m ms n).length ≤ n := by
  unfold nowI
  have := List.length_filter_le (nowAt m ms) (List.range n)
  rwa [List.length_range] at this

set_option maxHeartbeats 2000000 in
set_option maxRecDepth 100000 in
theorem mark_no {t : Nat} {q : Qry} {mk at1 : Int} {l : List Pn} {o : List Ot} {w : World} {S : Nat → Prop} (hle : at1 ≤ mk) (H0 : Sep w [Stp t q mk l o] S) :
    Calls Tryz.prog 72 #[.pointer (some ⟨t, 0, none⟩), .int .i64 at1] w fun e w' => e = .returned (.tuple #[]) ∧ St S w w' [Stp t q mk l o] := by
  obtain ⟨pv, ov, ms, os, H, hml, hol, hmo, hoo, H1⟩ := Stp.open (St.refl H0)
  have hmlh := Lib.hid hml
  have holh := Lib.hid hol
  have hmoh := Lib.hid hmo
  have hooh := Lib.hid hoo
  clear hml hol hmo hoo H0
  have H2 : St S w _ (_ :: _) := H1.allocAt rfl #[.pointer (some ⟨t, 0, none⟩)] 135
  have H3 : St S w _ (_ :: _) := H2.allocAt (B := w.heap.size + 1) (Array.size_push _) #[.int .i64 at1] 3
  obtain ⟨b2, hb2⟩ : ∃ b, w.heap.size = b := ⟨_, rfl⟩
  obtain ⟨b3, hb3⟩ : ∃ b, b2 + 1 = b := ⟨_, rfl⟩
  obtain ⟨w1, hw1⟩ : ∃ z, (w.alloc (.cells #[.pointer (some ⟨t, 0, none⟩)] 135)).alloc (.cells #[.int .i64 at1] 3) = z := ⟨_, rfl⟩
  go_enter Tryz.func72, Tryz.ntmps72
  go_upto_region 1 with (fail)
  rw [hw1, hb2, hb3] at H3
  try rw [hw1]
  try simp only [hb2, hb3]
  have H4 : St S w w1 [Blk b3 #[.int .i64 at1] 3, Blk b2 #[.pointer (some ⟨t, 0, none⟩)] 135, Blk t (stC q mk pv ov) 137, Row 68 8 pv ms.length (encP.all ms), Row 63 10 ov os.length (encO.all os), Pool H] := H3
  have hb2h := Lib.hid hb2
  clear hw1 hb2 hb3 H1 H2 H3
  refine wp_calm (fun w' => St S w w' [Blk b3 #[.int .i64 at1] 3, Blk b2 #[.pointer (some ⟨t, 0, none⟩)] 135, Blk t (stC q mk pv ov) 137, Row 68 8 pv ms.length (encP.all ms), Row 63 10 ov os.length (encO.all os), Pool H]) (by kernel_rfl) (by kernel_rfl) (H4.drew) ?_
  iterate 7 first
    | (apply calm_pass
       · rfl
       intro K hK
       go_simp
       refine hK _ ?_
       clear hK K)
    | (apply calm_step
       · rfl
       · intro w1 h1
         have c0 := h1.cell 0 0 rfl rfl
         have c1 := h1.cell 1 0 rfl rfl
         have c6 := h1.cell 2 6 rfl rfl
         first
           | (go_simp
              first
                | rfl
                | exact ⟨rfl, h1⟩
             )
       intro K hK
       go_simp
       refine hK _ ?_
       clear hK K)
  refine calm_nil ?_
  intro w2 H5
  go_wp2
  refine bodyPost_ret (results_none rfl _ _ _) rfl ?_
  exact ⟨rfl, Stp.mk' hmlh.out holh.out hmoh.out hooh.out (H5.pick [2, 3, 4, 5])⟩

set_option maxHeartbeats 8000000 in
set_option maxRecDepth 100000 in
theorem mark_yes {t : Nat} {q : Qry} {mk at1 : Int} {l : List Pn} {o : List Ot} {w : World} {S : Nat → Prop} (hle : ¬ at1 ≤ mk) (hs : Stt.right q ⟨mk, l⟩ = true) (hol : o.length ≤ 1073741000) (hne : l ≠ []) (H0 : Sep w [Stp t q mk l o] S) :
    Calls Tryz.prog 72 #[.pointer (some ⟨t, 0, none⟩), .int .i64 at1] w fun e w' => e = .returned (.tuple #[]) ∧ St S w w' [Stp t q at1 ((l.map (Pn.fire at1)).filter fun p => !p.w.gone q at1) (o ++ (sortC (l.filter (Pn.now at1))).map (fireO q))] := by
  obtain ⟨hq, hmk, hlen, hall, hord, -⟩ := right_parts hs
  simp only at hmk hlen hall hord
  have hokp := fun p hp => ok_parts (hall p hp)
  obtain ⟨pv, ov, ms, os, H, rfl, rfl, hmo, hoo, H1⟩ := Stp.open (St.refl H0)
  clear H0 hs hall
  rw [List.length_map] at hlen hol
  have hms : ms ≠ [] := fun e => hne (by rw [e]; rfl)
  have hml : ms.length ≠ 0 := fun h => hms (List.eq_nil_of_length_eq_zero h)
  obtain ⟨g, cap, R, rfl, hnc, hcm, hxl, hcs, HB⟩ := H1.row_blk 1 rfl hml
  have HB : St S w w [Blk t (stC q mk (.slice (some ⟨g, 0, none⟩) ms.length cap) ov) 137, Blk g (encP.all ms ++ R).toArray 68, Row 63 10 ov os.length (encO.all os), Pool H] := HB
  have kr := Lib.hid (fun (m : Pm) (hm : m ∈ ms) w' => wd_ripe m.p.w (fits_right (hokp m.p (List.mem_map.2 ⟨m, hm, rfl⟩)).2.1) at1 w')
  have hgr := Lib.hid (fun (m : Pm) (hm : m ∈ ms) => (hokp m.p (List.mem_map.2 ⟨m, hm, rfl⟩)).2.2.2.2.1)
  have hrd := Lib.hid (fun (m : Pm) (hm : m ∈ ms) => (hokp m.p (List.mem_map.2 ⟨m, hm, rfl⟩)).2.2.2.1)
  have hwf := Lib.hid (fun (m : Pm) (hm : m ∈ ms) => fits_right (hokp m.p (List.mem_map.2 ⟨m, hm, rfl⟩)).2.1)
  have hordh := Lib.hid hord
  have hmoh := Lib.hid hmo
  have hooh := Lib.hid hoo
  have hcsh := Lib.hid hcs
  clear hokp hord hmo hoo hne hms H1 hcs hxl hq
  have H2 : St S w _ (_ :: _) := HB.allocAt rfl #[.pointer (some ⟨t, 0, none⟩)] 135
  have H3 : St S w _ (_ :: _) := H2.allocAt (B := w.heap.size + 1) (Array.size_push _) #[.int .i64 at1] 3
  obtain ⟨b2, hb2⟩ : ∃ b, w.heap.size = b := ⟨_, rfl⟩
  obtain ⟨b3, hb3⟩ : ∃ b, b2 + 1 = b := ⟨_, rfl⟩
  obtain ⟨w1, hw1⟩ : ∃ z, (w.alloc (.cells #[.pointer (some ⟨t, 0, none⟩)] 135)).alloc (.cells #[.int .i64 at1] 3) = z := ⟨_, rfl⟩
  go_enter Tryz.func72, Tryz.ntmps72
  go_upto_region 1 with (fail)
  rw [hw1, hb2, hb3] at H3
  try rw [hw1]
  try simp only [hb2, hb3]
  have H4 : St S w w1 [Blk b3 #[.int .i64 at1] 3, Blk b2 #[.pointer (some ⟨t, 0, none⟩)] 135, Blk t (stC q mk (.slice (some ⟨g, 0, none⟩) ms.length cap) ov) 137, Blk g (encP.all ms ++ R).toArray 68, Row 63 10 ov os.length (encO.all os), Pool H] := H3
  have hb2h := Lib.hid hb2
  clear hw1 hb2 hb3 HB H2 H3
  refine wp_calm (fun w' => St S w w' [Blk b3 #[.int .i64 at1] 3, Blk b2 #[.pointer (some ⟨t, 0, none⟩)] 135, Blk t (stC q mk (.slice (some ⟨g, 0, none⟩) ms.length cap) ov) 137, Blk g (encP.all ms ++ R).toArray 68, Row 63 10 ov os.length (encO.all os), Pool H]) (by kernel_rfl) (by kernel_rfl) (H4.drew) ?_
  iterate 7 first
    | (apply calm_pass
       · rfl
       intro K hK
       go_simp
       refine hK _ ?_
       clear hK K)
    | (apply calm_step
       · rfl
       · intro w1 h1
         have c0 := h1.cell 0 0 rfl rfl
         have c1 := h1.cell 1 0 rfl rfl
         have c6 := h1.cell 2 6 rfl rfl
         first
           | (go_simp
              first
                | rfl
                | exact ⟨rfl, h1⟩
             )
       intro K hK
       go_simp
       refine hK _ ?_
       clear hK K)
  refine calm_nil ?_
  intro w2 H5
  clear H4
  have c0 := H5.cell 0 0 rfl rfl
  have c1 := H5.cell 1 0 rfl rfl
  have c6 := H5.cell 2 6 rfl rfl
  have f6 := H5.free 2 6 rfl
  have H6 := H5.set 2 rfl 6 (.int .i64 at1)
  go_upto_region 3 with (fail)
  obtain ⟨w3, hw3⟩ : ∃ z, w2.setCell ⟨t, 6, none⟩ (.int .i64 at1) = z := ⟨_, rfl⟩
  rw [hw3] at H6
  try rw [hw3]
  clear hw3 c0 c1 c6 f6 H5
  have H7 : St S w w3 [Row 198 1 (.slice none 0 0) 0 (ptrs g []), Blk b3 #[.int .i64 at1] 3, Blk b2 #[.pointer (some ⟨t, 0, none⟩)] 135, Blk t (stC q at1 (.slice (some ⟨g, 0, none⟩) ms.length cap) ov) 137, Blk g (encP.all ms ++ R).toArray 68, Row 63 10 ov os.length (encO.all os), Pool H] := H6.row_nil 198 1
  clear H6
  have c1 := H7.cell 2 0 rfl rfl
  have c7 := H7.cell 3 7 rfl rfl
  go_upto_block 1 with (fail)
  clear c1 c7
  go_loopw [4, 5, 6, 27] (fun u _ _ j wr => ∃ (i : Nat), i ≤ ms.length ∧ j = .int .i64 i ∧ Hid (nowI at1 ms i = [] → u = .slice none 0 0) ∧ St S w wr [Row 198 1 u (nowI at1 ms i).length (ptrs g (nowI at1 ms i)), Blk b3 #[.int .i64 at1] 3, Blk b2 #[.pointer (some ⟨t, 0, none⟩)] 135, Blk t (stC q at1 (.slice (some ⟨g, 0, none⟩) ms.length cap) ov) 137, Blk g (encP.all ms ++ R).toArray 68, Row 63 10 ov os.length (encO.all os), Pool H]) (fun _ _ _ j _ => ms.length - (intOf j).toNat)
  case atStart => exact ⟨0, by omega, rfl, Lib.hid (fun _ => rfl), H7⟩
  case round =>
    clear H7
    obtain ⟨i, hi, rfl, hnil, HM⟩ := hrel
    have hnl := nowI_len at1 ms i
    by_cases hlt : i < ms.length
    · obtain ⟨m, hm⟩ : ∃ m, ms[i]? = some m := ⟨_, List.getElem?_eq_getElem hlt⟩
      have krm := kr.out m (List.mem_of_getElem? hm)
      have hno : nowAt at1 ms i = (decide (m.p.round = 0) && m.p.w.ripe at1) := by unfold nowAt; rw [hm]; rfl
      have hsucc := nowI_succ at1 ms i
      obtain ⟨rp, hrp⟩ : ∃ z, m.p.w.ripe at1 = z := ⟨_, rfl⟩
      rw [hrp] at hno
      simp only [hrp] at krm
      have hmh := Lib.hid hm
      have hnoh := Lib.hid hno
      have hsucch := Lib.hid hsucc
      have hi2 : (i : Int) < (ms.length : Int) := by omega
      clear hm hrp hno hsucc
      obtain ⟨⟨⟨xk, xf, xt⟩, ⟨gn, ga, gt, gx, gy⟩, xr⟩, xa, xc⟩ := m
      unfold wdV wdC textV at krm
      simp only at krm hnoh
      have c1 := HM.cell 2 0 rfl rfl
      have c7 := HM.cell 3 7 rfl rfl
      go_upto_region 8 with (fail)
      clear c1 c7
      have hcc : (¬ xr = 0) ∨ (xr = 0 ∧ rp = false) ∨ (xr = 0 ∧ rp = true) := by
        by_cases h : xr = 0
        · cases rp
          · exact .inr (.inl ⟨h, rfl⟩)
          · exact .inr (.inr ⟨h, rfl⟩)
        · exact .inl h
      rcases hcc with hx0 | ⟨hx0, rfl⟩ | ⟨hx0, rfl⟩
      case' inl => have hx0' : (xr == 0) = false := by simpa using hx0
      case' inr.inl => subst hx0
      case' inr.inr => subst hx0
      all_goals
        refine wp_calm (fun w' => St S w w' [Row 198 1 u4 (nowI at1 ms i).length (ptrs g (nowI at1 ms i)), Blk b3 #[.int .i64 at1] 3, Blk b2 #[.pointer (some ⟨t, 0, none⟩)] 135, Blk t (stC q at1 (.slice (some ⟨g, 0, none⟩) ms.length cap) ov) 137, Blk g (encP.all ms ++ R).toArray 68, Row 63 10 ov os.length (encO.all os), Pool H]) (by kernel_rfl) (by kernel_rfl) (HM.drew) ?_
        iterate 13 first
          | (apply calm_pass
             · rfl
             intro K hK
             go_simp
             refine hK _ ?_
             clear hK K)
          | (apply calm_step
             · rfl
             · intro w1 h1
               obtain ⟨p0, p1, p2, p3, p4, p5, p6, p7⟩ := pn_blk (h1.blk 4 rfl) hmh.out
               unfold textV at p0
               simp only at p0 p1 p2 p7
               have d0 := h1.cell 1 0 rfl rfl
               first
                 | (go_simp
                    first
                      | rfl
                      | exact ⟨rfl, h1⟩
                      | (go_at_call 129; with_reducible exact St.callPast (krm w1) h1)
                   )
             intro K hK
             go_simp
             refine hK _ ?_
             clear hK K)
        refine calm_nil ?_
        intro w5 H5
      case inl =>
        have hn : nowAt at1 ms i = false := by rw [hnoh.out, decide_eq_false hx0]; rfl
        have hs1 := hsucch.out
        rw [hn, if_neg (by simp), List.append_nil] at hs1
        have hs1h := Lib.hid hs1
        clear hn hs1
        go_wp2
        go_roundw
        case rel => exact ⟨i + 1, by omega, by go_num, Lib.hid (by rw [hs1h.out]; exact hnil.out), by rw [hs1h.out]; exact H5⟩
        case measure => simp [intOf]; omega
      case inr.inl =>
        have hn : nowAt at1 ms i = false := by rw [hnoh.out]; rfl
        have hs1 := hsucch.out
        rw [hn, if_neg (by simp), List.append_nil] at hs1
        have hs1h := Lib.hid hs1
        clear hn hs1
        go_wp2
        go_roundw
        case rel => exact ⟨i + 1, by omega, by go_num, Lib.hid (by rw [hs1h.out]; exact hnil.out), by rw [hs1h.out]; exact H5⟩
        case measure => simp [intOf]; omega
      case inr.inr =>
        have hn : nowAt at1 ms i = true := by rw [hnoh.out]; rfl
        have hs1 := hsucch.out
        rw [hn, if_pos rfl] at hs1
        have hs1h := Lib.hid hs1
        clear hn hs1
        go_wp2_with (at_builtin; go_must (refine St.list_app (H5.skip _) 0 rfl rfl (.tmp 50) (.tmp 52) 197 rfl Tryz.underlying197 Tryz.info198 (by decide) rfl [.pointer (some ⟨g, i * 8, none⟩)] rfl rfl (new_cells #[.pointer (some ⟨g, i * 8, none⟩)] _) (by simp [Value.oneCell']) (by omega) (by omega) ?_; intro g5 cap5 w6 H6 hz6))
        go_roundw
        case rel =>
          refine ⟨i + 1, by omega, by go_num, Lib.hid (by rw [hs1h.out]; intro h; simp at h), ?_⟩
          rw [hs1h.out, ptrs_app, List.length_append, List.length_singleton]
          exact H6
        case measure => simp [intOf]; omega
    · obtain rfl : i = ms.length := by omega
      clear hlt
      have ksort : Calls Tryz.prog 130 #[u4, .func (.func 131) #[] #[]] wr fun e w' => ∃ idx', e = .returned (.tuple #[]) ∧ idx'.Perm (nowI at1 ms ms.length) ∧ (idx'.Pairwise fun a b => ∀ x y, ms[a]? = some x → ms[b]? = some y → ¬ y.p.w.cmp x.p.w < 0) ∧
          St S w w' [Row 198 1 u4 (nowI at1 ms ms.length).length (ptrs g idx'), Blk b3 #[.int .i64 at1] 3, Blk b2 #[.pointer (some ⟨t, 0, none⟩)] 135, Blk t (stC q at1 (.slice (some ⟨g, 0, none⟩) ms.length cap) ov) 137, Blk g (encP.all ms ++ R).toArray 68, Row 63 10 ov os.length (encO.all os), Pool H] := by
        by_cases he : nowI at1 ms ms.length = []
        · rw [hnil.out he]
          refine (sort_nil wr _).mono ?_
          rintro e w' ⟨rfl, rfl⟩
          refine ⟨[], rfl, by rw [he], List.Pairwise.nil, ?_⟩
          rw [hnil.out he, he] at HM
          rw [he]
          exact HM
        · obtain ⟨ao, cp, rfl, hcp, hao⟩ := slice_form' (HM.row 0 rfl)
          have hl0 : (nowI at1 ms ms.length).length ≠ 0 := fun h => he (List.eq_nil_of_length_eq_zero h)
          obtain ⟨rb, rfl⟩ := hao hl0
          refine (pns_sort (HM.pick [0, 4, 1, 2, 3, 5, 6]) hl0 (by omega) (fun j hj => (nowI_mem.1 hj).1)).mono ?_
          rintro e w' ⟨idx', rfl, h1, h2, h3⟩
          exact ⟨idx', rfl, h1, h2, h3.pick [0, 2, 3, 4, 1, 5, 6]⟩
      obtain ⟨ua, uc, hu4, huc, hua⟩ := slice_form' (HM.row 0 rfl)
      have hndp := nowI_nodup at1 ms ms.length
      obtain ⟨I0, hI0⟩ : ∃ z, nowI at1 ms ms.length = z := ⟨_, rfl⟩
      rw [hI0] at ksort hnl hndp hu4 huc hua
      obtain ⟨N, hN⟩ : ∃ z, I0.length = z := ⟨_, rfl⟩
      rw [hN] at ksort hnl hu4 huc hua
      have hI0h := Lib.hid hI0
      have hNh := Lib.hid hN
      have huah := Lib.hid hua
      have hndph := Lib.hid hndp
      subst hu4
      clear hI0 hN hua hndp hnil HM
      go_upto_block 3 with (go_at_call 130; go_must (refine ksort.mono ?_; rintro e w6 ⟨idx, rfl, hperm, hsrt, H6⟩))
      clear ksort
      have hil : idx.length = N := by rw [hperm.length_eq]; exact hNh.out
      have hnd : idx.Nodup := hperm.nodup_iff.2 hndph.out
      have hilh := Lib.hid hil
      have hndh := Lib.hid hnd
      have hpermh := Lib.hid hperm
      have hsrth := Lib.hid hsrt
      clear hil hnd hperm hsrt
      go_loopw [8, 59] (fun _ jj wr => ∃ (j : Nat) (cur : List Pm) (os2 : List Om) (ov2 : Value) (HH : List (Value × List Int)), j ≤ N ∧ jj = .int .i64 j ∧ Hid (FiredAt ms cur (idx.take j)) ∧ Hid (os2.map (·.o) = os.map (·.o) ++ (panesAt ms (idx.take j)).map (fireO q)) ∧ Hid (∀ m ∈ cur, Pm.own m ∈ HH) ∧ Hid (∀ y ∈ os2, Om.own y ∈ HH) ∧ os2.length ≤ os.length + j ∧ St S w wr [Row 198 1 (.slice ua N uc) N (ptrs g idx), Blk b3 #[.int .i64 at1] 3, Blk b2 #[.pointer (some ⟨t, 0, none⟩)] 135, Blk t (stC q at1 (.slice (some ⟨g, 0, none⟩) ms.length cap) ov2) 137, Blk g (encP.all cur ++ R).toArray 68, Row 63 10 ov2 os2.length (encO.all os2), Pool HH]) (fun _ jj _ => N - (intOf jj).toNat)
      case atStart => exact ⟨0, ms, os, ov, H, by omega, rfl, Lib.hid (fired_nil ms), Lib.hid (by simp [panesAt]), hmoh, hooh, by omega, H6⟩
      case round =>
        clear H6
        obtain ⟨j, cur, os2, ov2, HH, hj, rfl, hfired, hosm, hmo2, hoo2, hol2, HM⟩ := hrel
        by_cases hlt : j < N
        · obtain ⟨k, hk⟩ : ∃ k, idx[j]? = some k := ⟨_, List.getElem?_eq_getElem (by have := hilh.out; omega)⟩
          obtain ⟨rb, rfl⟩ := huah.out (by omega)
          have hkm := List.mem_of_getElem? hk
          have hkn : k ∈ nowI at1 ms ms.length := by rw [hI0h.out]; exact hpermh.out.mem_iff.1 hkm
          obtain ⟨hkl, hkno⟩ := nowI_mem.1 hkn
          obtain ⟨m, hm⟩ : ∃ m, ms[k]? = some m := ⟨_, List.getElem?_eq_getElem hkl⟩
          have hmm := List.mem_of_getElem? hm
          have hr0 : m.p.round = 0 := by
            unfold nowAt at hkno
            rw [hm] at hkno
            unfold Pn.now at hkno
            simp only [Bool.and_eq_true, decide_eq_true_eq] at hkno
            exact hkno.1
          have htk := take_snoc' hk
          have hnotin : k ∉ idx.take j := fun h => by
            have hnd2 := hndh.out
            rw [← List.take_append_drop j idx, drop_cons_of hk] at hnd2
            have := (List.nodup_append.1 hnd2).2.2
            exact this k h k (List.mem_cons_self) rfl
          obtain ⟨hcur, hnext⟩ := fired_snoc hfired.out hnotin hm
          have hpan : panesAt ms (idx.take (j + 1)) = panesAt ms (idx.take j) ++ [m.p] := by
            rw [htk]
            unfold panesAt
            rw [List.filterMap_append]
            congr 1
            have : atP ms k = some m.p := by unfold atP; rw [hm]; rfl
            simp [this]
          rw [← htk] at hnext
          have hcell : wr.cell? ⟨rb, j, none⟩ = some (.pointer (some ⟨g, k * 8, none⟩)) := own_cell (HM.row 0 rfl) (by unfold ptrs; rw [List.getElem?_map, hk]; rfl)
          have HF : St S w wr [Blk t (stC q at1 (.slice (some ⟨g, 0, none⟩) ms.length cap) ov2) 137, Blk g (encP.all cur ++ R).toArray 68, Row 63 10 ov2 os2.length (encO.all os2), Pool HH, Row 198 1 (.slice (some ⟨rb, 0, none⟩) N uc) N (ptrs g idx), Blk b3 #[.int .i64 at1] 3, Blk b2 #[.pointer (some ⟨t, 0, none⟩)] 135] := HM.pick [3, 4, 5, 6, 0, 1, 2]
          obtain ⟨S1, K1, G1⟩ := St.call (l1 := [_, _, _, _]) (l2 := [_, _, _]) HF
          have kf := step_fire (i := k) (m := m) hcur (hgr.out m hmm) (hrd.out m hmm) (hmo2.out m (List.mem_of_getElem? hcur)) (by omega) K1
          have c1 := HM.cell 2 0 rfl rfl
          have hj2 : (j : Int) < (N : Int) := by omega
          have hnexth := Lib.hid hnext
          have hpanh := Lib.hid hpan
          have hr0h := Lib.hid hr0
          have hcurh := Lib.hid hcur
          clear hk hkm hkn hkl hkno hm htk hnotin hcur hnext hpan hr0 HM HF K1
          go_wp2_with (go_at_call 133; go_must (refine kf.mono ?_; rintro e w7 ⟨ov3, ad3, cap3, rfl, H7⟩))
          go_roundw
          case rel =>
            have H8 := G1 _ _ H7
            refine ⟨j + 1, cur.set k (fire1 m), os2 ++ [⟨⟨false, itm00, m.p.w, m.p.round + 1, valueM q m.p.g⟩, ad3, cap3⟩], ov3, (.slice ad3 (valueM q m.p.g).length cap3, valueM q m.p.g) :: HH, by omega, by go_num, Lib.hid hnexth.out, Lib.hid ?_, Lib.hid (mem_set_own hmo2.out k (List.mem_cons_of_mem _ (hmo2.out m (List.mem_of_getElem? hcurh.out))) (fun y hy => List.mem_cons_of_mem _ hy)), Lib.hid (fun y hy => ?_), by rw [List.length_append, List.length_singleton]; omega, ?_⟩
            · rw [hpanh.out, List.map_append, List.map_append, hosm.out, hr0h.out, List.append_assoc]
              rfl
            · rcases List.mem_append.1 hy with hy | hy
              · exact List.mem_cons_of_mem _ (hoo2.out y hy)
              · rw [List.mem_singleton.1 hy]; exact List.mem_cons_self
            · rw [List.length_append, List.length_singleton]
              exact H8.pick [4, 5, 6, 0, 1, 2, 3]
          case measure => simp [intOf]; omega
        · obtain rfl : j = N := by omega
          clear hlt
          have hidl : idx.take j = idx := List.take_of_length_le (by rw [hilh.out]; exact Nat.le_refl _)
          have hfr := hfired.out
          have hom := hosm.out
          rw [hidl] at hfr hom
          have hpn : idx.Perm (nowI at1 ms ms.length) := by rw [hI0h.out]; exact hpermh.out
          have hall := fired_all hfr hpn
          have hsr2 : idx.Pairwise fun a b => ∀ x y, ms[a]? = some x → ms[b]? = some y → ¬ y.p.w.cmp x.p.w < 0 := by
            rw [List.pairwise_iff_getElem]
            intro a b ha hb hab x y hx hy
            have := List.pairwise_iff_getElem.1 hsrth.out a b ha hb hab x y hx hy
            omega
          rw [fire_order hordh.out hpn hsr2] at hom
          have hcl := hfr.1
          have hcw : ∀ m ∈ cur, m.p.w.fits := fun m hm => by
            obtain ⟨k, hk⟩ := List.getElem?_of_mem hm
            have h2 := hfr.2 k
            rw [hk] at h2
            split at h2
            · obtain ⟨m0, hm0, he⟩ := Option.map_eq_some_iff.1 h2.symm
              rw [← he]
              exact hwf.out m0 (List.mem_of_getElem? hm0)
            · exact hwf.out m (List.mem_of_getElem? h2.symm)
          have HR : St S w wr [Row 198 1 (.slice ua j uc) j (ptrs g idx), Blk b3 #[.int .i64 at1] 3, Blk b2 #[.pointer (some ⟨t, 0, none⟩)] 135, Blk t (stC q at1 (.slice (some ⟨g, 0, none⟩) ms.length cap) ov2) 137, Row 68 8 (.slice (some ⟨g, 0, none⟩) ms.length cap) ms.length (encP.all cur), Row 63 10 ov2 os2.length (encO.all os2), Pool HH] := by
            have h := HM.blk_row 4 (e := 68) (size := 8) (cap := cap) (n := ms.length) (xs := encP.all cur) rfl hnc hcm (by
              have h3 := hcsh.out
              rw [List.length_append, pns_len] at h3 ⊢
              rw [hcl]
              exact h3) (by rw [List.take_append_of_le_length (by rw [pns_len, hcl]; exact Nat.le_refl _), List.take_of_length_le (by rw [pns_len, hcl]; exact Nat.le_refl _)])
            exact h
          have hdelh := Lib.hid (fun (w' : World) (S' : Nat → Prop) (h : Sep w' [Row 68 8 (.slice (some ⟨g, 0, none⟩) ms.length cap) cur.length (encP.all cur), Blk t (stC q at1 (.slice (some ⟨g, 0, none⟩) ms.length cap) ov2) 137, Blk b2 #[.pointer (some ⟨t, 0, none⟩)] 135, Blk b3 #[.int .i64 at1] 3] S') => pns_deleteM (l := cur) (fun m : Pm => m.p.w.gone q at1) (by omega) (fun m hm w hb => mark_two m q at1 at1 _ _ (hcw m hm) w hb) h)
          rw [hcl] at hdelh
          obtain ⟨DL, hDL⟩ : ∃ z, (cur.filter fun m => !m.p.w.gone q at1) = z := ⟨_, rfl⟩
          have hDm : DL.map (·.p) = ((ms.map (·.p)).map (Pn.fire at1)).filter fun p => !p.w.gone q at1 := by rw [← hDL, ← hall, List.filter_map]; rfl
          have hDs : ∀ m ∈ DL, m ∈ cur := fun m hm => by rw [← hDL] at hm; exact (List.mem_filter.1 hm).1
          rw [hDL] at hdelh
          have hDmh := Lib.hid hDm
          have hDsh := Lib.hid hDs
          have homh := Lib.hid hom
          clear hDL hDm hDs hom hall hcw hcl hfr hpn hsr2 hidl HM hfired hosm hsrth hordh hwf hgr hrd hI0h hpermh hndh hndph hilh hNh
          go_upto_region 17 with (fail)
          refine wp_script_tail 11 [(0, false), (1, false), (2, false), (3, false), (4, false), (5, false), (6, false), (7, true), (8, false), (9, false), (10, false)] (Fam fun w' => St S w w' [Blk b3 #[.int .i64 at1] 3, Blk b2 #[.pointer (some ⟨t, 0, none⟩)] 135, Blk t (stC q at1 (.slice (some ⟨g, 0, none⟩) ms.length cap) ov2) 137]) (fun w' => St S w w' [Row 68 8 (.slice (some ⟨g, 0, none⟩) ms.length cap) ms.length (encP.all cur), Blk b3 #[.int .i64 at1] 3, Blk b2 #[.pointer (some ⟨t, 0, none⟩)] 135, Blk t (stC q at1 (.slice (some ⟨g, 0, none⟩) ms.length cap) ov2) 137, Row 63 10 ov2 os2.length (encO.all os2), Pool HH]) (by kernel_rfl) (by rfl) (by kernel_rfl) (by kernel_rfl) (HR.pick [4, 1, 2, 3, 5, 6]).drew (Fam.st (fun _ h => h.pick [1, 2, 3])) ?_
          iterate 7 first
            | (apply script_pass
               · rfl
               · rfl
               intro K hK
               go_simp
               refine hK _ ?_
               clear hK K)
            | (apply script_step
               · rfl
               · rfl
               · intro I hI w1 h1'
                 have h1 := hI.2 _ h1'
                 have d0 := h1.cell 0 0 rfl rfl
                 have e0 := h1.cell 1 0 rfl rfl
                 have c7 := h1.cell 2 7 rfl rfl
                 first
                   | (go_simp
                      first
                        | rfl
                        | exact ⟨rfl, h1'⟩
                     )
               intro K hK
               go_simp
               refine hK _ ?_
               clear hK K)
          refine script_alone rfl rfl ?_
          intro V hV w1 h1
          go_simp
          obtain ⟨S1, K1, G1⟩ := St.call (l1 := [_, _, _, _]) (l2 := [_, _]) (h1.pick [0, 3, 2, 1, 4, 5])
          refine (hdelh.out w1 S1 K1).mono ?_
          rintro e w2 ⟨nv, rfl, G2⟩
          have HX : St S w w2 [Row 68 8 nv DL.length (encP.all DL), Blk b3 #[.int .i64 at1] 3, Blk b2 #[.pointer (some ⟨t, 0, none⟩)] 135, Blk t (stC q at1 (.slice (some ⟨g, 0, none⟩) ms.length cap) ov2) 137, Row 63 10 ov2 os2.length (encO.all os2), Pool HH] := (G1 _ _ G2).pick [0, 3, 2, 1, 4, 5]
          refine ⟨_, rfl, fun w' => St S w w' [Row 68 8 nv DL.length (encP.all DL), Blk b3 #[.int .i64 at1] 3, Blk b2 #[.pointer (some ⟨t, 0, none⟩)] 135, Blk t (stC q at1 (.slice (some ⟨g, 0, none⟩) ms.length cap) ov2) 137, Row 63 10 ov2 os2.length (encO.all os2), Pool HH], hV _ _ _ (fun _ h => h) (Fam.st (fun _ h => h.pick [1, 2, 3])) ?_, HX⟩
          intro K hK
          go_simp
          refine hK _ ?_
          clear hK K hV V
          clear HX h1 w1 w2 K1 G1 G2
          iterate 3 first
            | (apply script_pass
               · rfl
               · rfl
               intro K hK
               go_simp
               refine hK _ ?_
               clear hK K)
            | (apply script_step
               · rfl
               · rfl
               · intro I hI w1 h1'
                 have h1 := hI.2 _ h1'
                 first
                   | (go_simp
                      first
                        | rfl
                        | exact ⟨rfl, h1'⟩
                     )
               intro K hK
               go_simp
               refine hK _ ?_
               clear hK K)
          refine script_nil ?_
          intro w8 H8
          simp only [List.drop_succ_cons, List.drop_zero]
          have f7 := H8.free 3 7 rfl
          have c7 := H8.cell 3 7 rfl rfl
          obtain ⟨na, nc, rfl, -, -⟩ := slice_form' (H8.row 0 rfl)
          have H9 := H8.set 3 rfl 7 (.slice na DL.length nc)
          go_wp2
          go_end0
          refine ⟨rfl, ?_⟩
          exact Stp.mk' (pv := .slice na DL.length nc) (ov := ov2) (ms := DL) (os := os2) (H := HH) (by rw [hDmh.out, List.map_map]) homh.out (fun m hm => hmo2.out m (hDsh.out m hm)) hoo2.out (H9.pick [3, 0, 4, 5])

end Go.Proofs.YtiglgfonhdfpmaaGreat

/- The stepper's mark. Conditions: the state is right. -/
set_option linter.unusedVariables false
set_option linter.unusedSimpArgs false
namespace Go.Proofs.YtiglgfonhdfpmaaGreat
open Go.RowKit

set_option maxHeartbeats 4000000 in
set_option maxRecDepth 100000 in
theorem mark_nil {t : Nat} {q : Qry} {mk at1 : Int} {o : List Ot} {w : World} {S : Nat → Prop} (hle : ¬ at1 ≤ mk) (hol : o.length ≤ 1073741000) (H0 : Sep w [Stp t q mk [] o] S) :
    Calls Tryz.prog 72 #[.pointer (some ⟨t, 0, none⟩), .int .i64 at1] w fun e w' => e = .returned (.tuple #[]) ∧ St S w w' [Stp t q at1 [] o] := by
  obtain ⟨pv, ov, ms, os, H, hml, rfl, hmo, hoo, HB⟩ := Stp.open (St.refl H0)
  clear H0
  obtain rfl : ms = [] := List.map_eq_nil_iff.1 hml
  clear hml hmo
  obtain ⟨pa, pc, rfl, -, -⟩ := slice_form' (HB.row 1 rfl)
  have hooh := Lib.hid hoo
  clear hoo
  have H2 : St S w _ (_ :: _) := HB.allocAt rfl #[.pointer (some ⟨t, 0, none⟩)] 135
  have H3 : St S w _ (_ :: _) := H2.allocAt (B := w.heap.size + 1) (Array.size_push _) #[.int .i64 at1] 3
  obtain ⟨b2, hb2⟩ : ∃ b, w.heap.size = b := ⟨_, rfl⟩
  obtain ⟨b3, hb3⟩ : ∃ b, b2 + 1 = b := ⟨_, rfl⟩
  obtain ⟨w1, hw1⟩ : ∃ z, (w.alloc (.cells #[.pointer (some ⟨t, 0, none⟩)] 135)).alloc (.cells #[.int .i64 at1] 3) = z := ⟨_, rfl⟩
  go_enter Tryz.func72, Tryz.ntmps72
  go_upto_region 1 with (fail)
  rw [hw1, hb2, hb3] at H3
  try rw [hw1]
  try simp only [hb2, hb3]
  have H4 : St S w w1 [Blk b3 #[.int .i64 at1] 3, Blk b2 #[.pointer (some ⟨t, 0, none⟩)] 135, Blk t (stC q mk (.slice pa 0 pc) ov) 137, Row 68 8 (.slice pa 0 pc) 0 (encP.all []), Row 63 10 ov os.length (encO.all os), Pool H] := H3
  have hb2h := Lib.hid hb2
  clear hw1 hb2 hb3 HB H2 H3
  refine wp_calm (fun w' => St S w w' [Blk b3 #[.int .i64 at1] 3, Blk b2 #[.pointer (some ⟨t, 0, none⟩)] 135, Blk t (stC q mk (.slice pa 0 pc) ov) 137, Row 68 8 (.slice pa 0 pc) 0 (encP.all []), Row 63 10 ov os.length (encO.all os), Pool H]) (by kernel_rfl) (by kernel_rfl) (H4.drew) ?_
  iterate 7 first
    | (apply calm_pass
       · rfl
       intro K hK
       go_simp
       refine hK _ ?_
       clear hK K)
    | (apply calm_step
       · rfl
       · intro w1 h1
         have c0 := h1.cell 0 0 rfl rfl
         have c1 := h1.cell 1 0 rfl rfl
         have c6 := h1.cell 2 6 rfl rfl
         first
           | (go_simp
              first
                | rfl
                | exact ⟨rfl, h1⟩
             )
       intro K hK
       go_simp
       refine hK _ ?_
       clear hK K)
  refine calm_nil ?_
  intro w2 H5
  clear H4
  have c0 := H5.cell 0 0 rfl rfl
  have c1 := H5.cell 1 0 rfl rfl
  have c6 := H5.cell 2 6 rfl rfl
  have f6 := H5.free 2 6 rfl
  have H6 := H5.set 2 rfl 6 (.int .i64 at1)
  go_upto_region 3 with (fail)
  obtain ⟨w3, hw3⟩ : ∃ z, w2.setCell ⟨t, 6, none⟩ (.int .i64 at1) = z := ⟨_, rfl⟩
  rw [hw3] at H6
  try rw [hw3]
  clear hw3 c0 c1 c6 f6 H5
  have H7 : St S w w3 [Blk b3 #[.int .i64 at1] 3, Blk b2 #[.pointer (some ⟨t, 0, none⟩)] 135, Blk t (stC q at1 (.slice pa 0 pc) ov) 137, Row 68 8 (.slice pa 0 pc) 0 (encP.all []), Row 63 10 ov os.length (encO.all os), Pool H] := H6
  clear H6
  have c1 := H7.cell 1 0 rfl rfl
  have c7 := H7.cell 2 7 rfl rfl
  go_upto_block 1 with (fail)
  clear c1 c7
  go_loopw [4, 5, 6, 27] (fun u _ _ j wr => u = .slice none 0 0 ∧ j = .int .i64 0 ∧ wr = w3) (fun _ _ _ _ _ => 0)
  case atStart => exact ⟨rfl, rfl, rfl⟩
  case round =>
    obtain ⟨rfl, rfl, rfl⟩ := hrel
    go_upto_block 3 with (go_at_call 130; go_must (refine (sort_nil _ _).mono ?_; rintro e w6 ⟨rfl, rfl⟩))
    go_loopw [8, 59] (fun _ jj wr => jj = .int .i64 0 ∧ wr = w6) (fun _ _ _ => 0)
    case atStart => exact ⟨rfl, rfl⟩
    case round =>
      obtain ⟨rfl, rfl⟩ := hrel
      have hdelh := Lib.hid (fun (w' : World) (S' : Nat → Prop) (h : Sep w' [Row 68 8 (.slice pa 0 pc) 0 (encP.all []), Blk t (stC q at1 (.slice pa 0 pc) ov) 137, Blk b2 #[.pointer (some ⟨t, 0, none⟩)] 135, Blk b3 #[.int .i64 at1] 3] S') => pns_deleteM (l := []) (fun m : Pm => m.p.w.gone q at1) (by simp) (fun m hm w hb => by cases hm) h)
      simp only [List.filter_nil, List.length_nil] at hdelh
      go_upto_region 17 with (fail)
      refine wp_script_tail 11 [(0, false), (1, false), (2, false), (3, false), (4, false), (5, false), (6, false), (7, true), (8, false), (9, false), (10, false)] (Fam fun w' => St S w w' [Blk b3 #[.int .i64 at1] 3, Blk b2 #[.pointer (some ⟨t, 0, none⟩)] 135, Blk t (stC q at1 (.slice pa 0 pc) ov) 137]) (fun w' => St S w w' [Row 68 8 (.slice pa 0 pc) 0 (encP.all []), Blk b3 #[.int .i64 at1] 3, Blk b2 #[.pointer (some ⟨t, 0, none⟩)] 135, Blk t (stC q at1 (.slice pa 0 pc) ov) 137, Row 63 10 ov os.length (encO.all os), Pool H]) (by kernel_rfl) (by rfl) (by kernel_rfl) (by kernel_rfl) (H7.pick [3, 0, 1, 2, 4, 5]).drew (Fam.st (fun _ h => h.pick [1, 2, 3])) ?_
      iterate 7 first
        | (apply script_pass
           · rfl
           · rfl
           intro K hK
           go_simp
           refine hK _ ?_
           clear hK K)
        | (apply script_step
           · rfl
           · rfl
           · intro I hI w1 h1'
             have h1 := hI.2 _ h1'
             have d0 := h1.cell 0 0 rfl rfl
             have e0 := h1.cell 1 0 rfl rfl
             have c7 := h1.cell 2 7 rfl rfl
             first
               | (go_simp
                  first
                    | rfl
                    | exact ⟨rfl, h1'⟩
                 )
           intro K hK
           go_simp
           refine hK _ ?_
           clear hK K)
      refine script_alone rfl rfl ?_
      intro V hV w1 h1
      go_simp
      obtain ⟨S1, K1, G1⟩ := St.call (l1 := [_, _, _, _]) (l2 := [_, _]) (h1.pick [0, 3, 2, 1, 4, 5])
      refine (hdelh.out w1 S1 K1).mono ?_
      rintro e w2 ⟨nv, rfl, G2⟩
      have HX : St S w w2 [Row 68 8 nv 0 (encP.all []), Blk b3 #[.int .i64 at1] 3, Blk b2 #[.pointer (some ⟨t, 0, none⟩)] 135, Blk t (stC q at1 (.slice pa 0 pc) ov) 137, Row 63 10 ov os.length (encO.all os), Pool H] := (G1 _ _ G2).pick [0, 3, 2, 1, 4, 5]
      refine ⟨_, rfl, fun w' => St S w w' [Row 68 8 nv 0 (encP.all []), Blk b3 #[.int .i64 at1] 3, Blk b2 #[.pointer (some ⟨t, 0, none⟩)] 135, Blk t (stC q at1 (.slice pa 0 pc) ov) 137, Row 63 10 ov os.length (encO.all os), Pool H], hV _ _ _ (fun _ h => h) (Fam.st (fun _ h => h.pick [1, 2, 3])) ?_, HX⟩
      intro K hK
      go_simp
      refine hK _ ?_
      clear hK K hV V
      clear HX h1 w1 w2 K1 G1 G2
      iterate 3 first
        | (apply script_pass
           · rfl
           · rfl
           intro K hK
           go_simp
           refine hK _ ?_
           clear hK K)
        | (apply script_step
           · rfl
           · rfl
           · intro I hI w1 h1'
             have h1 := hI.2 _ h1'
             first
               | (go_simp
                  first
                    | rfl
                    | exact ⟨rfl, h1'⟩
                 )
           intro K hK
           go_simp
           refine hK _ ?_
           clear hK K)
      refine script_nil ?_
      intro w8 H8
      simp only [List.drop_succ_cons, List.drop_zero]
      have f7 := H8.free 3 7 rfl
      have c7 := H8.cell 3 7 rfl rfl
      obtain ⟨na, nc, rfl, -, -⟩ := slice_form' (H8.row 0 rfl)
      have H9 := H8.set 3 rfl 7 (.slice na 0 nc)
      go_wp2
      go_end0
      refine ⟨rfl, ?_⟩
      exact Stp.mk' (pv := .slice na 0 nc) (ov := ov) (ms := []) (os := os) (H := H) rfl rfl (fun m hm => by cases hm) hooh.out (H9.pick [3, 0, 4, 5])
theorem step_mark {t : Nat} {q : Qry} {mk at1 : Int} {l : List Pn} {o : List Ot} {w : World} {S : Nat → Prop} (hs : Stt.right q ⟨mk, l⟩ = true) (hol : o.length ≤ 1073741000) (H0 : Sep w [Stp t q mk l o] S) :
    Calls Tryz.prog 72 #[.pointer (some ⟨t, 0, none⟩), .int .i64 at1] w fun e w' => e = .returned (.tuple #[]) ∧ St S w w' [Stp t q (markM q ⟨mk, l⟩ at1).1.mark (markM q ⟨mk, l⟩ at1).1.panes (o ++ (markM q ⟨mk, l⟩ at1).2)] := by
  unfold markM
  simp only
  by_cases hle : at1 ≤ mk
  · rw [if_pos hle]
    simp only [List.append_nil]
    exact mark_no hle H0
  · rw [if_neg hle]
    simp only
    by_cases hne : l = []
    · subst hne
      have := mark_nil hle hol H0
      simpa [sortC] using this
    · exact mark_yes hle hs hol hne H0

end Go.Proofs.YtiglgfonhdfpmaaGreat

/- What a step leaves: panes that may be. Plain laws. -/
set_option linter.unusedVariables false
set_option linter.unusedSimpArgs false
namespace Go.Proofs.YtiglgfonhdfpmaaGreat
open Go.RowKit

/-- Panes that a machine can hold. -/
def GoodA (q : Qry) (l : List Pn) : Prop := ∀ p ∈ l, p.g.right q = true ∧ (0 ≤ p.round ∧ p.round ≤ 1073741824) ∧ p.w.right = true
theorem good_fits {q : Qry} {l : List Pn} (h : GoodA q l) : ∀ p ∈ l, p.fits := fun p hp => by
  obtain ⟨h1, -, h3⟩ := h p hp
  obtain ⟨-, -, -, ht, -, -, hx, hy⟩ := right_nums h1
  exact ⟨fits_right h3, by omega, by omega, by omega⟩
theorem right_good {q : Qry} {s : Stt} (h : s.right q = true) : GoodA q s.panes := fun p hp => by
  obtain ⟨-, -, -, h4, -, -⟩ := right_parts h
  have := ok_parts (h4 p hp)
  exact ⟨this.2.2.2.2.1, this.2.2.2.1, this.2.1⟩
theorem with_mem {l : List Pn} {p y : Pn} : y ∈ withP l p ↔ y = p ∨ y ∈ l := by
  unfold withP
  constructor
  · intro h
    rcases List.mem_append.1 h with h | h
    · exact .inr (List.mem_of_mem_take h)
    · rcases List.mem_cons.1 h with h | h
      · exact .inl h
      · exact .inr (List.mem_of_mem_drop h)
  · rintro (rfl | h)
    · exact List.mem_append_right _ (List.mem_cons_self)
    · rw [← List.take_append_drop (placeP l p.w) l] at h
      rcases List.mem_append.1 h with h | h
      · exact List.mem_append_left _ h
      · exact List.mem_append_right _ (List.mem_cons_of_mem _ h)
theorem lay_good {q : Qry} {mk : Int} {x : Wd} {old : Wd → Bool} {v : Int} {l : List Pn} {y : List Pn × List Ot} (hq : q.right = true) (hv : valB v = true) (hx : x.right = true) (h : GoodA q l) (hy : layM q mk x old v l = some y) : GoodA q y.1 := by
  unfold layM at hy
  cases hg : gathM q x old l (Ag.zero, 0) with
  | none => rw [hg] at hy; cases hy
  | some s =>
    rw [hg] at hy
    simp only at hy
    have hs : s.1.right q = true ∧ 0 ≤ s.2 ∧ s.2 ≤ 1073741824 := gath_right (s := (Ag.zero, 0)) (fun p hp => ⟨(h p hp).1, (h p hp).2.1.1, (h p hp).2.1.2⟩) (zero_right hq) ⟨Int.le_refl 0, (by decide : (0 : Int) ≤ 1073741824)⟩ hg
    cases hp : putM q mk x s.1 s.2 v with
    | none => rw [hp] at hy; cases hy
    | some z =>
      rw [hp] at hy
      simp only [Option.some.injEq] at hy
      rw [← hy]
      have hz := put_good hs.1 hs.2 hv hp
      have hzw := put_w hp
      intro p hp2
      rcases with_mem.1 hp2 with rfl | hp2
      · exact ⟨hz.1, hz.2.1, by rw [hzw]; exact hx⟩
      · exact h p (List.mem_filter.1 hp2).1
theorem bec_right (q : Qry) {l : List Pn} {own : Wd} (h : own.right = true) : (becM q l own).right = true := by
  unfold becM
  split
  · exact (bec_law h _).1
  · exact h
theorem lays_good {q : Qry} {mk v : Int} (hq : q.right = true) (hv : valB v = true) : ∀ {ws : List Wd} {s y : EvS}, (∀ x ∈ ws, x.right = true) → GoodA q s.panes → laysM q mk v ws s = some y → GoodA q y.panes
  | [], s, y, _, h, hy => by
    obtain rfl : s = y := by simpa [laysM] using hy
    exact h
  | own :: r, s, y, hw, h, hy => by
    rw [lays_cons] at hy
    split at hy
    · exact lays_good hq hv (fun x hx => hw x (List.mem_cons_of_mem _ hx)) h hy
    · cases hl : layM q mk (becM q s.panes own) (oldM q own) v s.panes with
      | none => rw [hl] at hy; cases hy
      | some z =>
        rw [hl] at hy
        exact lays_good hq hv (fun x hx => hw x (List.mem_cons_of_mem _ hx)) (s := ⟨z.1, s.outs ++ z.2, true⟩) (lay_good hq hv (bec_right q (hw own (by simp))) h hl) hy
theorem right_val {x : Itm} (h : x.right = true) (hk : ¬ x.kind = 2) : valB x.value = true := by
  unfold Itm.right at h
  simp only [Bool.and_eq_true, decide_eq_true_eq] at h
  obtain ⟨-, h⟩ := h
  split at h
  · simp only [Bool.and_eq_true, decide_eq_true_eq] at h
    exact valB_iff.2 ⟨h.1.2, h.2⟩
  · first
    | (rw [if_neg hk] at h; cases h)
    | cases h
/-- Where a step goes, the state was right, and its panes may be. -/
theorem step_good {q : Qry} {s : Stt} {x : Itm} (h : (stepM q s x).e = 0) : s.right q = true ∧ x.right = true ∧ GoodA q (stepM q s x).s.panes ∧ (stepM q s x).s.panes.length ≤ 256 := by
  unfold stepM at h ⊢
  by_cases hr : (s.right q && x.right) = true
  · rw [if_pos hr] at h ⊢
    simp only [Bool.and_eq_true] at hr
    obtain ⟨h1, h2⟩ := hr
    have hg := right_good h1
    obtain ⟨hq, hmk, hlen, -, -, -⟩ := right_parts h1
    refine ⟨h1, h2, ?_⟩
    by_cases hk : x.kind = 2
    · rw [if_pos hk]
      simp only
      unfold markM
      split
      · exact ⟨hg, hlen⟩
      · refine ⟨fun p hp => ?_, ?_⟩
        · obtain ⟨y, hy, rfl⟩ := List.mem_map.1 (List.mem_filter.1 hp).1
          obtain ⟨g1, g2, g3⟩ := hg y hy
          unfold Pn.fire
          split
          · exact ⟨g1, ⟨by simp, by simp⟩, g3⟩
          · exact ⟨g1, g2, g3⟩
        · have := List.length_filter_le (fun p : Pn => !p.w.gone q x.time) (s.panes.map (Pn.fire x.time))
          rw [List.length_map] at this
          simp only
          omega
    · rw [if_neg hk] at h ⊢
      unfold eventM at h ⊢
      cases hl : laysM q s.mark x.value (winsOf q x.key x.time) ⟨s.panes, [], false⟩ with
      | none => exact ⟨hg, hlen⟩
      | some y =>
        simp only
        by_cases hf : 256 < y.panes.length
        · rw [if_pos hf]
          exact ⟨hg, hlen⟩
        · rw [if_neg hf]
          exact ⟨lays_good hq (right_val h2 hk) (fun z hz => (wins_right z hz).1) (s := ⟨s.panes, [], false⟩) hg hl, by simp only; omega⟩
  · rw [if_neg hr] at h
    simp at h
theorem outs_lays {q : Qry} {mk v : Int} : ∀ {ws : List Wd} {s y : EvS}, laysM q mk v ws s = some y → y.outs.length ≤ s.outs.length + ws.length
  | [], s, y, hy => by
    obtain rfl : s = y := by simpa [laysM] using hy
    simp
  | own :: r, s, y, hy => by
    rw [lays_cons] at hy
    split at hy
    · have := outs_lays hy
      rw [List.length_cons]
      omega
    · cases hl : layM q mk (becM q s.panes own) (oldM q own) v s.panes with
      | none => rw [hl] at hy; cases hy
      | some z =>
        rw [hl] at hy
        have h1 := outs_lay hl
        have h2 := outs_lays hy
        simp only [List.length_append, List.length_cons] at h2 ⊢
        omega
theorem sortC_len (l : List Pn) : (sortC l).length = l.length := (sortC_perm l).length_eq
theorem step_outs (q : Qry) (s : Stt) (x : Itm) : (stepM q s x).outs.length ≤ 256 := by
  unfold stepM
  by_cases hr : (s.right q && x.right) = true
  · rw [if_pos hr]
    simp only [Bool.and_eq_true] at hr
    obtain ⟨hq, hmk, hlen, -, -, -⟩ := right_parts hr.1
    by_cases hk : x.kind = 2
    · rw [if_pos hk]
      simp only
      unfold markM
      split
      · simp
      · simp only [List.length_map, sortC_len]
        have := List.length_filter_le (Pn.now x.time) s.panes
        omega
    · rw [if_neg hk]
      unfold eventM
      cases hl : laysM q s.mark x.value (winsOf q x.key x.time) ⟨s.panes, [], false⟩ with
      | none => simp
      | some y =>
        simp only
        have h1 := outs_lays hl
        have h2 := wins_len q x.key x.time
        simp only [List.length_nil] at h1
        split
        · simp
        · split
          · simp only; omega
          · simp only [List.length_append, List.length_singleton]; omega
  · rw [if_neg hr]
    simp

end Go.Proofs.YtiglgfonhdfpmaaGreat

/- Runs, by law: a run over two lists is a run and another from its state on; what a run leaves. Plain laws. -/
set_option linter.unusedVariables false
set_option linter.unusedSimpArgs false
namespace Go.Proofs.YtiglgfonhdfpmaaGreat

/-- What a run leaves: panes that may be; outs with few numbers, and not too many. -/
structure RunGood (q : Qry) (N : Nat) (r : RunR) : Prop where
  panes : GoodA q r.s.panes
  few : r.s.panes.length ≤ 256
  outs : r.outs.length ≤ 256 * N
  vals : ∀ o ∈ r.outs, o.value.length ≤ 8
theorem val_len {q : Qry} {g : Ag} (h : g.right q = true) : (valueM q g).length ≤ 8 := by
  obtain ⟨-, -, -, ht, -, -, -, -⟩ := right_nums h
  unfold valueM
  split
  · simp
  · split
    · simp
    · split
      · simp
      · split
        · exact ht
        · split <;> simp
theorem lay_vals {q : Qry} {mk : Int} {x : Wd} {old : Wd → Bool} {v : Int} {l : List Pn} {y : List Pn × List Ot} (hq : q.right = true) (hv : valB v = true) (hx : x.right = true) (h : GoodA q l) (hy : layM q mk x old v l = some y) : ∀ o ∈ y.2, o.value.length ≤ 8 := by
  have hg := lay_good hq hv hx h hy
  unfold layM at hy
  cases hs : gathM q x old l (Ag.zero, 0) with
  | none => rw [hs] at hy; cases hy
  | some s =>
    rw [hs] at hy
    simp only at hy
    cases hp : putM q mk x s.1 s.2 v with
    | none => rw [hp] at hy; cases hy
    | some z =>
      rw [hp] at hy
      simp only [Option.some.injEq] at hy
      rw [← hy] at hg ⊢
      have hz := (hg z.1 (with_mem.2 (.inl rfl))).1
      unfold putM at hp
      split at hp
      · cases hp
      · split at hp
        · split at hp
          · cases hp
          · simp only [Option.some.injEq] at hp
            subst hp
            intro o ho
            simp only [List.mem_singleton] at ho
            subst ho
            exact val_len hz
        · simp only [Option.some.injEq] at hp
          subst hp
          intro o ho
          simp at ho
theorem lays_vals {q : Qry} {mk v : Int} (hq : q.right = true) (hv : valB v = true) : ∀ {ws : List Wd} {s y : EvS}, (∀ x ∈ ws, x.right = true) → GoodA q s.panes → (∀ o ∈ s.outs, o.value.length ≤ 8) → laysM q mk v ws s = some y → ∀ o ∈ y.outs, o.value.length ≤ 8
  | [], s, y, _, h, ho, hy => by
    obtain rfl : s = y := by simpa [laysM] using hy
    exact ho
  | own :: r, s, y, hw, h, ho, hy => by
    rw [lays_cons] at hy
    split at hy
    · exact lays_vals hq hv (fun x hx => hw x (List.mem_cons_of_mem _ hx)) h ho hy
    · cases hl : layM q mk (becM q s.panes own) (oldM q own) v s.panes with
      | none => rw [hl] at hy; cases hy
      | some z =>
        rw [hl] at hy
        have hx := bec_right q (l := s.panes) (hw own (by simp))
        refine lays_vals hq hv (fun x hx => hw x (List.mem_cons_of_mem _ hx)) (s := ⟨z.1, s.outs ++ z.2, true⟩) (lay_good hq hv hx h hl) (fun o h1 => ?_) hy
        rcases List.mem_append.1 h1 with h1 | h1
        · exact ho o h1
        · exact lay_vals hq hv hx h hl o h1
theorem step_vals {q : Qry} {s : Stt} {x : Itm} : ∀ o ∈ (stepM q s x).outs, o.value.length ≤ 8 := by
  unfold stepM
  by_cases hr : (s.right q && x.right) = true
  · rw [if_pos hr]
    simp only [Bool.and_eq_true] at hr
    obtain ⟨h1, h2⟩ := hr
    have hg := right_good h1
    obtain ⟨hq, hmk, hlen, -, -, -⟩ := right_parts h1
    by_cases hk : x.kind = 2
    · rw [if_pos hk]
      simp only
      unfold markM
      split
      · simp
      · intro o ho
        obtain ⟨p, hp, rfl⟩ := List.mem_map.1 ho
        have := (sortC_perm (s.panes.filter (Pn.now x.time))).subset hp
        exact val_len (hg p (List.mem_filter.1 this).1).1
    · rw [if_neg hk]
      unfold eventM
      cases hl : laysM q s.mark x.value (winsOf q x.key x.time) ⟨s.panes, [], false⟩ with
      | none => simp
      | some y =>
        simp only
        have hv := lays_vals hq (right_val h2 hk) (fun z hz => (wins_right z hz).1) (s := ⟨s.panes, [], false⟩) hg (by simp) hl
        split
        · simp
        · split
          · exact hv
          · intro o ho
            rcases List.mem_append.1 ho with ho | ho
            · exact hv o ho
            · simp only [List.mem_singleton] at ho
              subst ho
              simp [lateO]
  · rw [if_neg hr]
    simp
end Go.Proofs.YtiglgfonhdfpmaaGreat

/- batch.Outs by law: items one by one, those that a step refuses left out. Nothing is late where no mark runs ahead. Plain laws. -/
set_option linter.unusedVariables false
set_option linter.unusedSimpArgs false
namespace Go.Proofs.YtiglgfonhdfpmaaGreat

/-- All items, those that are refused left out. -/
def batM (q : Qry) : List Itm → RunR → RunR
  | [], r => r
  | x :: l, r => batM q l (if (stepM q r.s x).e = 0 then ⟨(stepM q r.s x).s, r.outs ++ (stepM q r.s x).outs, r.n + 1, 0⟩ else r)
theorem bat_drop {q : Qry} {l : List Itm} {i : Nat} {x : Itm} (h : l[i]? = some x) (r : RunR) : batM q (l.drop i) r = batM q (l.drop (i + 1)) (if (stepM q r.s x).e = 0 then ⟨(stepM q r.s x).s, r.outs ++ (stepM q r.s x).outs, r.n + 1, 0⟩ else r) := by
  obtain ⟨hlt, hx⟩ := List.getElem?_eq_some_iff.1 h
  rw [List.drop_eq_getElem_cons hlt, hx, batM]
def NoLate (o : List Ot) : Prop := ∀ x ∈ o, x.late = false
theorem NoLate.app {a b : List Ot} (ha : NoLate a) (hb : NoLate b) : NoLate (a ++ b) := fun x hx => by
  rcases List.mem_append.1 hx with h | h
  · exact ha x h
  · exact hb x h
/-- What an item makes of a batch. -/
def batS (q : Qry) (r : RunR) (x : Itm) : RunR := if (stepM q r.s x).e = 0 then ⟨(stepM q r.s x).s, r.outs ++ (stepM q r.s x).outs, r.n + 1, 0⟩ else r
theorem bat_cons (q : Qry) (x : Itm) (l : List Itm) (r : RunR) : batM q (x :: l) r = batM q l (batS q r x) := rfl
end Go.Proofs.YtiglgfonhdfpmaaGreat

/- A step leaves a state right, and what comes out is a pane's value there. Plain laws. -/
set_option linter.unusedVariables false
set_option linter.unusedSimpArgs false
namespace Go.Proofs.YtiglgfonhdfpmaaGreat

structure PInv (q : Qry) (mk : Int) (l : List Pn) : Prop where
  ok : ∀ p ∈ l, p.ok q mk = true
  ord : Ord l
  stl : q.kind = 3 → Stl (l.map (·.w))
end Go.Proofs.YtiglgfonhdfpmaaGreat

/- Lanes, plainly: what New, Step and Add make of them. Plain laws. -/
set_option linter.unusedVariables false
set_option linter.unusedSimpArgs false
namespace Go.Proofs.YtiglgfonhdfpmaaGreat

structure Ln where
  q : Qry
  s : Stt
  outs : List Ot
/-- The first lane that refuses the item: its place and its error. -/
def badLn (x : Itm) : List Ln → Nat → Option (Nat × Int)
  | [], _ => none
  | y :: l, i => if (stepM y.q y.s x).e = 0 then badLn x l (i + 1) else some (i, (stepM y.q y.s x).e)
def Ln.go (x : Itm) (y : Ln) : Ln := ⟨y.q, (stepM y.q y.s x).s, y.outs ++ (stepM y.q y.s x).outs⟩
def Ln.new (q : Qry) : Ln := ⟨q, stt0, []⟩
def goLn (x : Itm) (ls : List Ln) : Bool := x.right && (badLn x ls 0).isNone
theorem bad_none {x : Itm} : ∀ {l : List Ln} {i : Nat}, badLn x l i = none ↔ ∀ y ∈ l, (stepM y.q y.s x).e = 0
  | [], i => by simp [badLn]
  | y :: l, i => by
    unfold badLn
    by_cases h : (stepM y.q y.s x).e = 0
    · rw [if_pos h, bad_none]
      simp [h]
    · rw [if_neg h]
      simp [h]
theorem bad_drop {x : Itm} {l : List Ln} {i : Nat} {y : Ln} (h : l[i]? = some y) : badLn x (l.drop i) i = if (stepM y.q y.s x).e = 0 then badLn x (l.drop (i + 1)) (i + 1) else some (i, (stepM y.q y.s x).e) := by
  obtain ⟨hlt, hx⟩ := List.getElem?_eq_some_iff.1 h
  rw [List.drop_eq_getElem_cons hlt, hx, badLn]
theorem bad_err {x : Itm} : ∀ {l : List Ln} {k i : Nat} {er : Int}, badLn x l k = some (i, er) → er ≠ 0
  | [], _, _, _, h => by cases h
  | y :: l, k, i, er, h => by
    unfold badLn at h
    by_cases h0 : (stepM y.q y.s x).e = 0
    · rw [if_pos h0] at h
      exact bad_err h
    · rw [if_neg h0] at h
      cases h
      exact h0
theorem go_none {x : Itm} {l : List Ln} : goLn x l = true ↔ x.right = true ∧ ∀ y ∈ l, (stepM y.q y.s x).e = 0 := by
  unfold goLn
  rw [Bool.and_eq_true, Option.isNone_iff_eq_none, bad_none]

/-! A lane of all that went. -/
def allLn (q : Qry) (l : List Itm) : Ln := ⟨q, (batM q l ⟨stt0, [], 0, 0⟩).s, (batM q l ⟨stt0, [], 0, 0⟩).outs⟩
theorem bat_app (q : Qry) : ∀ (a b : List Itm) (r : RunR), batM q (a ++ b) r = batM q b (batM q a r)
  | [], b, r => rfl
  | x :: a, b, r => by rw [List.cons_append, bat_cons, bat_cons, bat_app q a b]
def Went (q : Qry) (l : List Itm) : Prop := (batM q l ⟨stt0, [], 0, 0⟩).n = l.length
theorem went_nil (q : Qry) : Went q [] := rfl
theorem went_go {q : Qry} {l : List Itm} {x : Itm} (h : Went q l) (he : (stepM q (allLn q l).s x).e = 0) : Went q (l ++ [x]) ∧ allLn q (l ++ [x]) = (allLn q l).go x := by
  have e : batM q (l ++ [x]) ⟨stt0, [], 0, 0⟩ = batS q (batM q l ⟨stt0, [], 0, 0⟩) x := by rw [bat_app]; rfl
  unfold batS at e
  rw [show (batM q l ⟨stt0, [], 0, 0⟩).s = (allLn q l).s from rfl, if_pos he] at e
  unfold Went at h ⊢
  refine ⟨by rw [e, List.length_append, h]; rfl, ?_⟩
  unfold Ln.go
  show (⟨q, (batM q (l ++ [x]) ⟨stt0, [], 0, 0⟩).s, (batM q (l ++ [x]) ⟨stt0, [], 0, 0⟩).outs⟩ : Ln) = _
  rw [e]
  rfl
theorem went_all {qs : List Qry} {l : List Itm} {x : Itm} (h : ∀ q ∈ qs, Went q l) (hg : goLn x (qs.map (allLn · l)) = true) : (∀ q ∈ qs, Went q (l ++ [x])) ∧ (qs.map (allLn · l)).map (Ln.go x) = qs.map (allLn · (l ++ [x])) := by
  obtain ⟨-, hg⟩ := go_none.1 hg
  have k : ∀ q ∈ qs, Went q (l ++ [x]) ∧ allLn q (l ++ [x]) = (allLn q l).go x := fun q hq => went_go (h q hq) (hg (allLn q l) (List.mem_map.2 ⟨q, hq, rfl⟩))
  refine ⟨fun q hq => (k q hq).1, ?_⟩
  rw [List.map_map]
  refine List.map_congr_left fun q hq => ?_
  show Ln.go x (allLn q l) = allLn q (l ++ [x])
  exact (k q hq).2.symm
theorem go_rev {x : Itm} {l : List Ln} : goLn x l.reverse = goLn x l := by
  rw [Bool.eq_iff_iff, go_none, go_none]
  simp only [List.mem_reverse]
theorem bat_good (q : Qry) : ∀ (l : List Itm) (r : RunR) (N : Nat), RunGood q N r → RunGood q (N + l.length) (batM q l r)
  | [], r, N, h => h
  | x :: l, r, N, h => by
    rw [bat_cons]
    have h2 : RunGood q (N + 1) (batS q r x) := by
      unfold batS
      split
      · rename_i h0
        obtain ⟨-, -, g1, g2⟩ := step_good h0
        refine ⟨g1, g2, ?_, fun o ho => ?_⟩
        · have := step_outs q r.s x
          have := h.outs
          simp only [List.length_append]
          omega
        · rcases List.mem_append.1 ho with ho | ho
          · exact h.vals o ho
          · exact step_vals o ho
      · exact ⟨h.panes, h.few, by have := h.outs; omega, h.vals⟩
    have := bat_good q l _ _ h2
    rw [List.length_cons, show N + (l.length + 1) = N + 1 + l.length by omega]
    exact this
theorem bat_new (q : Qry) (l : List Itm) : RunGood q l.length (batM q l ⟨stt0, [], 0, 0⟩) := by
  have := bat_good q l ⟨stt0, [], 0, 0⟩ 0 ⟨fun p hp => by simp [stt0] at hp, by simp [stt0], by simp, fun o ho => by simp at ho⟩
  rwa [Nat.zero_add] at this
/-- What a machine can hold of lanes. -/
def LnFit (l : List Ln) : Prop := ∀ y ∈ l, y.s.panes.length ≤ 1073741824 ∧ (∀ p ∈ y.s.panes, p.fits) ∧ y.outs.length ≤ 1073741824
theorem all_fit (qs : List Qry) {l : List Itm} (hl : l.length ≤ 4194304) : LnFit (qs.map (allLn · l)) := by
  intro y hy
  obtain ⟨q, -, rfl⟩ := List.mem_map.1 hy
  have h := bat_new q l
  have h1 := h.few
  have h2 := h.outs
  exact ⟨by show (batM q l ⟨stt0, [], 0, 0⟩).s.panes.length ≤ _; omega, good_fits h.panes, by show (batM q l ⟨stt0, [], 0, 0⟩).outs.length ≤ _; omega⟩

end Go.Proofs.YtiglgfonhdfpmaaGreat
