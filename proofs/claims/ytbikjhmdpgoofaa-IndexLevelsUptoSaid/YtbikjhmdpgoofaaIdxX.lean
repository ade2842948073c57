/- The walk of IndexLevels. Condition: numbers are not outgrown, records not too many to be held. -/
import Derived.Test.YtbikjhmdpgoofaaIdxW
import Derived.Test.YtbikjhmdpgoofaaIdxG
namespace Go.Proofs.Ytbikjhmdpgoofaa
open Go.RowKit

/-- What Seek finds and looks at is what the document's does. -/
theorem seek_law (width : Int) (l : List Rcd) (a b : Int) : seekS width (ofS width l) a b = (atS (ofS width l) a b 0, sumN (fun j => looksS (ofS width l) width.toNat a b j ((ofS width l).getD j []).length) (ofS width l).length) := by
  unfold seekS ofS
  by_cases hg : (2 ≤ width ∧ width ≤ 64) ∧ l ≠ []
  · rw [if_pos hg]
    obtain ⟨n, rfl⟩ : ∃ n : Nat, width = n := ⟨width.toNat, by omega⟩
    simp only [Int.toNat_natCast]
    have hn : 2 ≤ n := by omega
    obtain ⟨L, hL⟩ : ∃ L, (l.map fun r => oneS r.seq r.items) = L := ⟨_, rfl⟩
    have hLl : L.length = l.length := by rw [← hL]; simp
    have hLne : L ≠ [] := by
      rintro rfl
      rw [List.length_nil] at hLl
      exact hg.2 (List.eq_nil_of_length_eq_zero hLl.symm)
    have hcn : climb n l.length L ≠ [] := List.length_pos_iff.1 (climb_ne n l.length L)
    rw [hL, if_pos ⟨hg.1, hcn⟩]
    refine Prod.ext ?_ ?_
    · rw [seek_finds hn hLne a b (by omega)]
      show _ = ((climb n l.length L).getD 0 []).filter _
      rw [climb_head]
    · exact seek_count hn hLne a b (by omega)
  · rw [if_neg hg]
    simp [atS, sumN]

section
attribute [local go_sem ↓] run_load_rec run_store_rec
set_option maxHeartbeats 4000000 in
set_option maxRecDepth 100000 in
theorem levels_walk {l : List Rcd} {v : Value} (width t0 t1 : Int) (w : World) (hv : RcsRO w v l) (hs : wts l ≤ 4611686018427387000) (hll : l.length ≤ 1000000000) :
    Calls Try.prog 5 #[.int .i64 width, v, .agg #[.int .i64 t0, .int .i64 t1]] w fun e w' => e = .returned (.bool true) ∧ Below w.heap.size w w' := by
  obtain ⟨ao, cap, rfl, hcap, hgood, hcell⟩ := id hv
  go_enter Try.func5, Try.ntmps5
  obtain ⟨ba, hba⟩ : ∃ ba, w.heap.size = ba := ⟨_, rfl⟩
  have H0 : St (fun _ => False) w _ [Blk ba #[.int .i64 t0, .int .i64 t1] 61] := (St.nil (fun _ => False) w).allocAt hba #[.int .i64 t0, .int .i64 t1] 61
  go_upto_region 3 with (go_at_call 27; go_must (refine (St.callPast (first32 _) H0).mono ?_; rintro e w1 ⟨rfl, H1⟩))
  clear H0
  have kg := great32 w1 (hv.later H1.kept) hs (by omega)
  by_cases hgr : 3000 < wts l
  · rw [decide_eq_true hgr] at kg
    clear hgr
    go_wp2_with (go_at_call 28; go_must (refine (St.callPast kg H1).mono ?_; rintro e w3 ⟨rfl, H3⟩))
    go_ret
    exact ⟨rfl, H3.below (by omega) (fun _ h => h.elim)⟩
  rw [decide_eq_false hgr] at kg
  have hl60 : l.length ≤ 60 := by have := wts_len l; omega
  have hits : (l.map fun r => r.items.length).sum ≤ 3000 := by have := wts_items l; omega
  obtain ⟨k1, k2, k3, _⟩ := ofS_facts (width := width) (show l.length ≤ 1000 by omega)
  go_upto_region 5 with (go_at_call 28; go_must (refine (St.callPast kg H1).mono ?_; rintro e w3 ⟨rfl, H3⟩))
  clear kg H1
  have ko := fun w' (hk : Kept (fun _ => False) w w') => idx_of width w' (hv.later hk) (by omega)
  have ko2 := fun w' (hk : Kept (fun _ => False) w w') => ref_of_any width w' (hv.later hk) (by omega) (by omega)
  have krs := fun w' (hk : Kept (fun _ => False) w w') => ref_seek width t0 t1 w' (hv.later hk) (by omega) (by omega)
  have hlaw := seek_law width l t0 t1
  obtain ⟨lv, hlv⟩ : ∃ lv, ofS width l = lv := ⟨_, rfl⟩
  rw [hlv] at k1 k2 k3 hlaw
  simp only [hlv] at ko ko2 krs
  clear hlv
  obtain ⟨F, hF⟩ : ∃ F, atS lv t0 t1 0 = F := ⟨_, rfl⟩
  have hFl : F.length ≤ 1000000 := by
    rw [← hF]
    unfold atS
    simp only [if_true]
    refine Nat.le_trans (List.length_filter_le _ _) ?_
    rw [List.getD_eq_getElem?_getD]
    cases hc : lv[0]? with
    | none => simp
    | some s => exact k1 s (List.mem_of_getElem? hc)
  obtain ⟨n, hn⟩ : ∃ n, sumN (fun j => looksS lv width.toNat t0 t1 j (lv.getD j []).length) lv.length = n := ⟨_, rfl⟩
  rw [hF, hn] at hlaw
  simp only [hF, hn] at krs
  clear hF hn
  go_upto_region 6 with (first
    | (go_at_call 29; go_must (refine (ko w3 H3.kept).mono ?_; rintro e w4 ⟨lv1, vals, rows, rfl, hcov, K4⟩; have hro := hcov.ro K4; rw [hcov.1] at K4; obtain ⟨oa, oc, rfl, _, hog⟩ := slice_form' (K4.row 1 rfl); have H4 : St (fun _ => False) w w4 [SP.all rows, Row 67 1 (.slice oa lv.length oc) lv.length vals, Blk ba #[.int .i64 t0, .int .i64 t1] 61] := H3.call0 K4))
    | (go_at_call 30; go_must (refine (ko2 w4 H4.kept).mono ?_; rintro e w5 ⟨lv2, vals2, rows2, rfl, hcov2, K5⟩; rw [hcov2.1] at K5; obtain ⟨oa2, oc2, rfl, _, hog2⟩ := slice_form' (K5.row 1 rfl); have H5 : St (fun _ => False) w w5 [SP.all rows2, Row 67 1 (.slice oa2 lv.length oc2) lv.length vals2, SP.all rows, Row 67 1 (.slice oa lv.length oc) lv.length vals, Blk ba #[.int .i64 t0, .int .i64 t1] 61] := H4.call0 K5)))
  have hlev : ∀ (k : Nat) (s : List Str), lv[k]? = some s → ∃ a c, vals[k]? = some (.slice a s.length c) ∧ Row 76 4 (.slice a s.length c) s.length (strs s) ∈ rows := fun k s hs => by
    obtain ⟨u, hu⟩ : ∃ u, vals[k]? = some u := ⟨_, List.getElem?_eq_getElem (by rw [hcov.1]; exact (List.getElem?_eq_some_iff.1 hs).1)⟩
    have hm := hcov.2 k u s hu hs
    obtain ⟨a, c, rfl, _, _⟩ := slice_form' (rows_get K4 hm)
    exact ⟨a, c, hu, hm⟩
  have hlev2 : ∀ (k : Nat) (s : List Str), lv[k]? = some s → ∃ a c, vals2[k]? = some (.slice a s.length c) ∧ Row 76 4 (.slice a s.length c) s.length (strs s) ∈ rows2 := fun k s hs => by
    obtain ⟨u, hu⟩ : ∃ u, vals2[k]? = some u := ⟨_, List.getElem?_eq_getElem (by rw [hcov2.1]; exact (List.getElem?_eq_some_iff.1 hs).1)⟩
    have hm := hcov2.2 k u s hu hs
    obtain ⟨a, c, rfl, _, _⟩ := slice_form' (rows_get K5 hm)
    exact ⟨a, c, hu, hm⟩
  clear ko ko2 H3 K4 K5 H4 hcov2 hro
  have hz : ((lv.length : Int) == (lv.length : Int)) = true := by simp
  go_upto_block 1 with (fail)
  go_loopw [31] (fun j wr => ∃ (i : Nat), i ≤ lv.length ∧ j = .int .i64 i ∧ St (fun _ => False) w wr [SP.all rows2, Row 67 1 (.slice oa2 lv.length oc2) lv.length vals2, SP.all rows, Row 67 1 (.slice oa lv.length oc) lv.length vals, Blk ba #[.int .i64 t0, .int .i64 t1] 61]) (fun j _ => lv.length - (intOf j).toNat)
  case atStart => exact ⟨0, by omega, rfl, H5⟩
  case round =>
    clear H5
    obtain ⟨i, hi, rfl, HL⟩ := hrel
    by_cases hlt : i < lv.length
    · obtain ⟨s, hs2⟩ : ∃ s, lv[i]? = some s := ⟨_, List.getElem?_eq_getElem hlt⟩
      have hsl := k1 s (List.mem_of_getElem? hs2)
      obtain ⟨b1, rfl⟩ := hog (by omega)
      obtain ⟨b2, rfl⟩ := hog2 (by omega)
      obtain ⟨a1, p1, hu1, hm1⟩ := hlev i s hs2
      obtain ⟨a2, p2, hu2, hm2⟩ := hlev2 i s hs2
      clear hs2 hlev hlev2
      go_upto_region 11 with (fail)
      refine wp_calm (fun w' => St (fun _ => False) w w' [SP.all rows2, Row 67 1 (.slice (some ⟨b2, 0, none⟩) lv.length oc2) lv.length vals2, SP.all rows, Row 67 1 (.slice (some ⟨b1, 0, none⟩) lv.length oc) lv.length vals, Blk ba #[.int .i64 t0, .int .i64 t1] 61]) (by kernel_rfl) (by kernel_rfl) (HL.drew) ?_
      iterate 10 first
        | (apply calm_pass
           · rfl
           intro K hK
           go_simp
           refine hK _ ?_
           clear hK K)
        | (apply calm_step
           · rfl
           · intro w1 h1
             have c0 := h1.rowCell 3 i rfl hu1
             have c1 := h1.rowCell 1 i rfl hu2
             have n1 := (str_row (rows_get (h1.pick [2]) hm1)).1
             have n2 := (str_row (rows_get (h1.pick [0]) hm2)).1
             first
               | (go_simp
                  first
                    | rfl
                    | exact ⟨rfl, h1⟩
                    | (go_at_call 31; with_reducible exact St.callPast (strs_same w1 n1 n2 (by omega)) h1)
                 )
           intro K hK
           go_simp
           refine hK _ ?_
           clear hK K)
      refine calm_nil ?_
      intro w9 H9
      go_wp2
      go_roundw
      case rel => exact ⟨i + 1, by omega, by go_num, H9⟩
      case measure => simp [intOf]; omega
    · obtain rfl : i = lv.length := by omega
      have c0 := HL.cell 4 0 rfl rfl
      have c1 := HL.cell 4 1 rfl rfl
      have hro : LvRO (fun _ => False) wr (.slice oa lv.length oc) lv := by
        have h := HL.pick [2, 3]
        rw [← hcov.1] at h ⊢
        exact hcov.ro h
      have ksk := idx_seek_any (a := t0) (b := t1) k1 k2 k3 hro
      rw [hlaw] at ksk
      simp only at ksk
      have HM : St (fun _ => False) w wr [Blk ba #[.int .i64 t0, .int .i64 t1] 61] := HL.pick [4]
      clear HL k3 hro hlaw hlev hlev2 hz hlt
      go_upto_region 15 with (go_at_call 32; go_must (refine ksk.mono ?_; rintro e w6 ⟨fv, rfl, K6⟩; have H6 : St (fun _ => False) w w6 [Row 76 4 fv F.length (strs F), Blk ba #[.int .i64 t0, .int .i64 t1] 61] := HM.call0 K6; obtain ⟨fa, fc, rfl, _, _⟩ := slice_form' (H6.row 0 rfl)))
      clear c0 c1 HM K6 ksk
      have c0 := H6.cell 1 0 rfl rfl
      have c1 := H6.cell 1 1 rfl rfl
      go_upto_region 16 with (go_at_call 33; go_must (refine (krs w6 H6.kept).mono ?_; rintro e w7 ⟨gv, rfl, K7⟩; have H7 : St (fun _ => False) w w7 [Row 76 4 gv F.length (strs F), Row 76 4 (.slice fa F.length fc) F.length (strs F), Blk ba #[.int .i64 t0, .int .i64 t1] 61] := H6.call0 K7; obtain ⟨ga, gc, rfl, _, _⟩ := slice_form' (H7.row 0 rfl)))
      clear c0 c1 H6 K7 krs
      have hnn : ((n : Int) == (n : Int)) = true := by simp
      have hfits : ∀ x ∈ itemsS l t0 t1, x.fits := fun x hx => by
        obtain ⟨m, hm, hx⟩ := List.mem_flatten.1 hx
        obtain ⟨r, hr, rfl⟩ := List.mem_map.1 hm
        obtain ⟨_, _, _, _, hf, _⟩ := (hgood r hr).2.2.2.1
        exact hf x (List.mem_filter.1 hx).1
      have hIl : (itemsS l t0 t1).length ≤ 1000000000 := Nat.le_trans (itemsS_len l t0 t1) (by omega)
      have ki1 : ∀ w1, Kept (fun _ => False) w w1 → Calls Try.prog 35 #[.slice ao l.length cap, .int .i64 t0, .int .i64 t1] w1 fun e w' => ∃ v', e = .returned v' ∧ St (fun _ => False) w1 w' [Row 108 4 v' (itemsS l t0 t1).length (itms (itemsS l t0 t1))] := fun w1 hk => idx_items t0 t1 w1 (hv.later hk) (by omega) (by omega)
      have ki2 : ∀ w1, Kept (fun _ => False) w w1 → Calls Try.prog 36 #[.slice ao l.length cap, .int .i64 t0, .int .i64 t1] w1 fun e w' => ∃ v', e = .returned v' ∧ St (fun _ => False) w1 w' [Row 108 4 v' (itemsS l t0 t1).length (itms (itemsS l t0 t1))] := fun w1 hk => ref_items t0 t1 w1 (hv.later hk) (by omega) (by omega)
      obtain ⟨I, hI⟩ : ∃ I, itemsS l t0 t1 = I := ⟨_, rfl⟩
      rw [hI] at ki1 ki2 hfits hIl
      clear hI hcell hgood k1 k2 hi
      refine wp_script [(0, false), (1, false), (2, false), (3, false), (4, false), (5, false), (6, false), (7, false), (8, false), (9, false), (10, false), (11, false), (12, false), (13, false), (15, false), (16, false), (17, false), (18, false), (19, false), (14, true), (20, true), (21, false), (22, false), (23, false)] (Fam fun w' => St (fun _ => False) w w' [Row 76 4 (.slice ga F.length gc) F.length (strs F), Row 76 4 (.slice fa F.length fc) F.length (strs F), Blk ba #[.int .i64 t0, .int .i64 t1] 61]) (fun w' => St (fun _ => False) w w' [Row 76 4 (.slice ga F.length gc) F.length (strs F), Row 76 4 (.slice fa F.length fc) F.length (strs F), Blk ba #[.int .i64 t0, .int .i64 t1] 61]) (by kernel_rfl) (by rfl) (by kernel_rfl) (by kernel_rfl) H7.drew (Fam.st (fun _ h => h)) ?_
      iterate 19 first
        | (apply script_pass
           · rfl
           · rfl
           intro K hK
           go_simp
           refine hK _ ?_
           clear hK K)
        | (apply script_step
           · rfl
           · rfl
           · intro I hI w1 h1'
             have h1 := hI.2 _ h1'
             have c0 := h1.cell 2 0 rfl rfl
             have c1 := h1.cell 2 1 rfl rfl
             have n1 := (str_row (h1.row 1 rfl)).1
             have n2 := (str_row (h1.row 0 rfl)).1
             first
               | (go_simp
                  first
                    | rfl
                    | exact ⟨rfl, h1'⟩
                    | (go_at_call 31; with_reducible exact Fam.call hI h1' (strs_same w1 n1 n2 (by omega)))
                 )
           intro K hK
           go_simp
           refine hK _ ?_
           clear hK K)
      obtain ⟨V1, hV1⟩ := hide_rel (fun v I' => ∃ v1 n1, v = .slice v1 I.length n1 ∧ I' = fun w' => St (fun _ => False) w w' [Row 108 4 (.slice v1 I.length n1) I.length (itms I), Row 76 4 (.slice ga F.length gc) F.length (strs F), Row 76 4 (.slice fa F.length fc) F.length (strs F), Blk ba #[.int .i64 t0, .int .i64 t1] 61])
      refine script_big V1 rfl rfl ?_ ?_
      · intro w1 h1
        go_simp
        refine (ki1 w1 h1.kept).mono ?_
        rintro e w2 ⟨v', rfl, K2⟩
        obtain ⟨v1, n1, rfl, _, _⟩ := slice_form' (K2.row 0 rfl)
        exact ⟨_, rfl, _, (hV1.out _ _).2 ⟨_, _, rfl, rfl⟩, h1.call0 K2⟩
      · intro v I' hvI
        obtain ⟨v1, n1, rfl, rfl⟩ := (hV1.out _ _).1 hvI
        clear hvI hV1
        refine ⟨Fam fun w' => St (fun _ => False) w w' [Row 108 4 (.slice v1 I.length n1) I.length (itms I), Row 76 4 (.slice ga F.length gc) F.length (strs F), Row 76 4 (.slice fa F.length fc) F.length (strs F), Blk ba #[.int .i64 t0, .int .i64 t1] 61], Fam.mono (fun _ h => h.pick [1, 2, 3]), Fam.st (fun _ h => h), ?_⟩
        intro K hK
        go_simp
        refine hK _ ?_
        clear hK K
        obtain ⟨V2, hV2⟩ := hide_rel (fun v I' => ∃ v2 n2, v = .slice v2 I.length n2 ∧ I' = fun w' => St (fun _ => False) w w' [Row 108 4 (.slice v2 I.length n2) I.length (itms I), Row 108 4 (.slice v1 I.length n1) I.length (itms I), Row 76 4 (.slice ga F.length gc) F.length (strs F), Row 76 4 (.slice fa F.length fc) F.length (strs F), Blk ba #[.int .i64 t0, .int .i64 t1] 61])
        refine script_big V2 rfl rfl ?_ ?_
        · intro w1 h1
          go_simp
          refine (ki2 w1 h1.kept).mono ?_
          rintro e w2 ⟨v', rfl, K2⟩
          obtain ⟨v2, n2, rfl, _, _⟩ := slice_form' (K2.row 0 rfl)
          exact ⟨_, rfl, _, (hV2.out _ _).2 ⟨_, _, rfl, rfl⟩, h1.call0 K2⟩
        · intro v I' hvI
          obtain ⟨v2, n2, rfl, rfl⟩ := (hV2.out _ _).1 hvI
          clear hvI hV2
          refine ⟨Fam fun w' => St (fun _ => False) w w' [Row 108 4 (.slice v2 I.length n2) I.length (itms I), Row 108 4 (.slice v1 I.length n1) I.length (itms I), Row 76 4 (.slice ga F.length gc) F.length (strs F), Row 76 4 (.slice fa F.length fc) F.length (strs F), Blk ba #[.int .i64 t0, .int .i64 t1] 61], Fam.mono (fun _ h => h.pick [1, 2, 3, 4]), Fam.st (fun _ h => h), ?_⟩
          intro K hK
          go_simp
          refine hK _ ?_
          clear hK K
          iterate 3 first
            | (apply script_pass
               · rfl
               · rfl
               intro K hK
               go_simp
               refine hK _ ?_
               clear hK K)
            | (apply script_step
               · rfl
               · rfl
               · intro I hI w1 h1'
                 have h1 := hI.2 _ h1'
                 have n1 := itms_own (h1.row 1 rfl) hfits
                 have n2 := itms_own (h1.row 0 rfl) hfits
                 first
                   | (go_simp
                      first
                        | rfl
                        | exact ⟨rfl, h1'⟩
                        | (go_at_call 34; with_reducible exact Fam.call hI h1' (items_same w1 n1 n2 (by omega)))
                     )
               intro K hK
               go_simp
               refine hK _ ?_
               clear hK K)
          refine script_nil ?_
          intro w9 H9
          go_wp2
          go_ret
          exact ⟨rfl, H9.below (by omega) (fun _ h => h.elim)⟩
end

end Go.Proofs.Ytbikjhmdpgoofaa
