/- The walk of the document's Parse of a move (layer 24). Condition: the text's length. -/
import Derived.Test.YtaafedpjifaghaaDoorRfI
import Derived.Test.YtaafedpjifaghaaDoorGp9
set_option linter.unusedVariables false
set_option linter.unusedSimpArgs false
namespace Go.Proofs.YtaafedpjifaghaaDoor
open Go.RowKit

def mv00 : Mv := ⟨0, 0, 0, 0, []⟩
theorem fill24_none {w : List (List UInt8)} {c : UInt8} {r : List UInt8} {i : Nat} {v : Mv} (h : num24 (w.getD (i + 1) []) = none) : fill24 w (c :: r) i v = none := by unfold fill24; rw [h]
theorem fill24_some {w : List (List UInt8)} {c : UInt8} {r : List UInt8} {i : Nat} {v : Mv} {n : Int} (h : num24 (w.getD (i + 1) []) = some n) : fill24 w (c :: r) i v = fill24 w r (i + 1) (v.setPart c n) := by rw [fill24, h]
set_option maxHeartbeats 8000000 in
set_option maxRecDepth 100000 in
theorem ref24_parse {l : List UInt8} (hl : l.length ≤ 1000000) (w : World) :
    Calls Tryd.prog 19 #[.string ⟨l.toArray⟩] w fun e w' => ∃ x, e = .returned (.tuple #[.agg (mvCells ((parse24 l).getD mv00) x), .bool (parse24 l).isSome]) ∧ St (fun _ => False) w w' [Row 5 1 x ((parse24 l).getD mv00).b.length (bvs ((parse24 l).getD mv00).b)] := by
  have ks := fun w' => ref_split (s := l) (a := [32]) (by simp) (by omega) (by simp) w'
  have hWl : ∀ x ∈ splA [32] l, x.length ≤ l.length := fun x h => splA_le h
  have hN0 := splA_ne [32] l
  rw [splA_one] at ks hWl hN0
  have hWc := spl_clean l
  have hpa : parse24 l = if kindM (spl l) < 0 then none else body24 (spl l) (kindM (spl l)) := rfl
  obtain ⟨W, hW⟩ : ∃ W, spl l = W := ⟨_, rfl⟩
  rw [hW] at ks hWl hN0 hWc hpa
  obtain ⟨N, hN⟩ : ∃ N, W.length = N := ⟨_, rfl⟩
  rw [hN] at ks hN0
  have hNh := Lib.hid hN
  have hWlh := Lib.hid hWl
  have hWch := Lib.hid hWc
  have hpah := Lib.hid hpa
  have hna : ∀ k, k < 8 → (texts nameTexts).toArray[k]? = some (.string ⟨(wordsM.getD k ([], [])).1.toArray⟩) := fun k h => name_at h
  obtain ⟨NT, hNT⟩ : ∃ x, (texts nameTexts).toArray = x := ⟨_, rfl⟩
  have kna := fun w' => ref24_names w'
  rw [hNT] at hna
  simp only [hNT] at kna
  have hnah := Lib.hid hna
  clear hW hN hWl hWc hpa hna hNT
  obtain ⟨rb, hrb⟩ : ∃ g, w.heap.size = g := ⟨_, rfl⟩
  have H0 : St (fun _ => False) w (w.alloc (.cells #[.int .i64 0, .int .i64 0, .int .i64 0, .int .i64 0, .slice none 0 0] 40)) [Blk rb #[.int .i64 0, .int .i64 0, .int .i64 0, .int .i64 0, .slice none 0 0] 40] := (St.nil _ w).allocAt hrb _ _
  unfold textV at ks
  go_enter Tryd.func19, Tryd.ntmps19
  go_upto_region 1 with (fail)
  obtain ⟨w1, hw1⟩ : ∃ w1, w.alloc (.cells #[.int .i64 0, .int .i64 0, .int .i64 0, .int .i64 0, .slice none 0 0] 40) = w1 := ⟨_, rfl⟩
  rw [hw1] at H0
  rw [hw1]
  try rw [hrb]
  clear hw1 hrb
  go_upto_region 2 with (go_at_call 42; go_must (refine (ks _).mono ?_; rintro e w2 ⟨v1, rfl, H1⟩; have H2 : St (fun _ => False) w w2 [Row 9 1 v1 N (texts W), Blk rb #[.int .i64 0, .int .i64 0, .int .i64 0, .int .i64 0, .slice none 0 0] 40] := H0.call0 H1; obtain ⟨g, cp, rfl⟩ := row_form (H2.row 0 rfl) rfl hN0))
  clear H0 H1 ks
  go_upto_block 1 with (go_at_call 43; go_must (refine (kna _).mono ?_; rintro e w3 ⟨gw, rfl, H3⟩; have H4 : St (fun _ => False) w w3 [Row 9 1 (.slice (some ⟨g, 0, none⟩) N cp) N (texts W), Blk gw NT 9, Blk rb #[.int .i64 0, .int .i64 0, .int .i64 0, .int .i64 0, .slice none 0 0] 40] := St.pick (l := [Blk gw NT 9, Row 9 1 (.slice (some ⟨g, 0, none⟩) N cp) N (texts W), Blk rb #[.int .i64 0, .int .i64 0, .int .i64 0, .int .i64 0, .slice none 0 0] 40]) (H2.call0 H3) [1, 0, 2]))
  clear H2 H3 kna
  go_loopw [19] (fun j wr => ∃ k : Nat, k ≤ 8 ∧ j = .int .i64 k ∧ (∀ i, i < k → ((wordsM.getD i ([], [])).1 == W.getD 0 []) = false) ∧ St (fun _ => False) w wr [Row 9 1 (.slice (some ⟨g, 0, none⟩) N cp) N (texts W), Blk gw NT 9, Blk rb #[.int .i64 0, .int .i64 0, .int .i64 0, .int .i64 0, .slice none 0 0] 40]) (fun j _ => 8 - (intOf j).toNat)
  case atStart => exact ⟨0, by omega, rfl, fun i h => by omega, H4⟩
  case round =>
    clear H4
    obtain ⟨k, hk, rfl, hall, HL⟩ := hrel
    have hallh := Lib.hid hall
    clear hall
    by_cases hk8 : k < 8
    · have z1 : decide ((k : Int) < 8) = true := by simp; omega
      have hki : (k : Int) < 8 := by omega
      have hnm := hnah.out k hk8
      obtain ⟨nm, hnmm⟩ : ∃ x, (wordsM.getD k ([], [])).1 = x := ⟨_, rfl⟩
      rw [hnmm] at hnm
      have c0 : wr.cell? ⟨gw, k, none⟩ = some (.string ⟨nm.toArray⟩) := cell_blk' (HL.blk 1 rfl) hnm
      have d0 : wr.cell? ⟨g, 0, none⟩ = some (.string ⟨(W.getD 0 []).toArray⟩) := HL.rowCell 0 0 rfl (texts_get (by rw [hNh.out]; exact hN0))
      have hN0i : (0 : Int) < (N : Int) := by omega
      by_cases heq : nm = W.getD 0 []
      · have z2 : (W.getD 0 [] == nm) = true := by rw [heq]; simp
        have hkd := kind_at (w := W) hk8 hallh.out (by rw [hnmm]; simpa using heq)
        have hbo := hpah.out
        rw [hkd, if_neg (by omega)] at hbo
        unfold body24 end24 at hbo
        have kpa := fun w' => ref24_parts (k := (k : Int)) (by omega) (by omega) w'
        obtain ⟨_, hpl, _⟩ := word_parts k hk8
        have hpt0 : partsM (k : Int) = (wordsM.getD k ([], [])).2 := by unfold partsM; rw [Int.toNat_natCast]
        rw [← hpt0] at hpl
        have hpare := parts_are (k := (k : Int)) (by omega) (by omega)
        have hk0 : k = 0 → (partsM (k : Int)).length = 1 := by rintro rfl; rfl
        obtain ⟨pt, hpt⟩ : ∃ x, partsM (k : Int) = x := ⟨_, rfl⟩
        rw [hpt] at hpl hbo kpa hpare hk0
        have hk0h := Lib.hid hk0
        have hboh := Lib.hid hbo
        have hpareh := Lib.hid hpare
        generalize hW0 : W.getD 0 [] = X0 at *
        clear hbo hkd hpt hpt0 hnmm hnm heq hallh hpare hk0
        go_upto_region 7 with (go_at_call 44; go_must (refine (St.callPast (kpa _) HL).mono ?_; rintro e w10 ⟨rfl, H5⟩))
        clear c0 d0 HL kpa
        obtain ⟨mb, hmb⟩ : ∃ g, w10.heap.size = g := ⟨_, rfl⟩
        have H6 : St (fun _ => False) w (w10.alloc (.cells (mvCells ⟨k, 0, 0, 0, []⟩ (.slice none 0 0)) 40)) [Blk mb (mvCells ⟨k, 0, 0, 0, []⟩ (.slice none 0 0)) 40, Row 9 1 (.slice (some ⟨g, 0, none⟩) N cp) N (texts W), Blk gw NT 9, Blk rb #[.int .i64 0, .int .i64 0, .int .i64 0, .int .i64 0, .slice none 0 0] 40] := H5.allocAt hmb _ _
        go_upto_region 8 with (fail)
        obtain ⟨w11, hw11⟩ : ∃ w11, w10.alloc (.cells #[.int .i64 k, .int .i64 0, .int .i64 0, .int .i64 0, .slice none 0 0] 40) = w11 := ⟨_, rfl⟩
        have hw11' : w10.alloc (.cells (mvCells ⟨k, 0, 0, 0, []⟩ (.slice none 0 0)) 40) = w11 := hw11
        rw [hw11'] at H6
        try rw [hw11]
        try rw [hw11']
        try rw [hmb]
        clear hw11 hw11' hmb H5
        obtain ⟨mo, hmo⟩ : ∃ mo, more24 (k : Int) = mo := ⟨_, rfl⟩
        have hmo1 : mo ≤ 1 := by rw [← hmo]; unfold more24; split <;> omega
        go_upto_if 34 with (fail)
        go_cut [9] from 35 to 35 (fun m wx => m = .int .i64 mo ∧ wx = w11)
        case first =>
          by_cases h0 : k = 0
          · have y1 : ((k : Int) == 0) = true := by rw [h0]; rfl
            have q1 := Lib.hid (show mo = 1 by rw [← hmo, h0]; rfl)
            clear h0
            go_wp2
            go_meet
            rw [q1.out]
            exact ⟨rfl, rfl⟩
          · have y1 : ((k : Int) == 0) = false := by rw [beq_eq_false_iff_ne]; omega
            have q1 := Lib.hid (show mo = 0 by rw [← hmo]; unfold more24; rw [if_neg (by omega)])
            clear h0
            go_wp2
            go_meet
            rw [q1.out]
            exact ⟨rfl, rfl⟩
        case rest =>
        obtain ⟨rfl, e⟩ := hcut
        rw [e]
        clear e
        have v1 : IntKind.i64.wrap (1 + (pt.length : Int)) = 1 + (pt.length : Int) := by rw [IntKind.wrap_i64]; omega
        have v2 : IntKind.i64.wrap (1 + (pt.length : Int) + (mo : Int)) = ((1 + pt.length + mo : Nat) : Int) := by rw [IntKind.wrap_i64]; omega
        have hbo := hboh.out
        rw [hNh.out, hmo] at hbo
        have hmoh := Lib.hid hmo
        obtain ⟨M, hM⟩ : ∃ M, 1 + pt.length + mo = M := ⟨_, rfl⟩
        rw [hM] at hbo v2
        by_cases hlen : N ≠ M
        · have y1 : ((N : Int) != (M : Int)) = true := by rw [bne_iff_ne]; omega
          rw [if_pos hlen] at hbo
          have hfin := Lib.hid hbo
          clear hbo hlen hboh hmo
          have r0 := H6.free 3 0 rfl
          have r1 := H6.free 3 1 rfl
          have r2 := H6.free 3 2 rfl
          have r3 := H6.free 3 3 rfl
          have r4 := H6.free 3 4 rfl
          have x0 : w11.cell? ⟨rb, 0, none⟩ = some (.int .i64 0) := H6.cell 3 0 rfl rfl
          have x1 : w11.cell? ⟨rb, 1, none⟩ = some (.int .i64 0) := H6.cell 3 1 rfl rfl
          have x2 : w11.cell? ⟨rb, 2, none⟩ = some (.int .i64 0) := H6.cell 3 2 rfl rfl
          have x3 : w11.cell? ⟨rb, 3, none⟩ = some (.int .i64 0) := H6.cell 3 3 rfl rfl
          have x4 : w11.cell? ⟨rb, 4, none⟩ = some (.slice none 0 0) := H6.cell 3 4 rfl rfl
          have HR := (((((H6.set 3 rfl 0 (.int .i64 0)).set 3 rfl 1 (.int .i64 0)).set 3 rfl 2 (.int .i64 0)).set 3 rfl 3 (.int .i64 0)).set 3 rfl 4 (.slice none 0 0))
          go_wp2
          try simp only [Exit.inBlock, Exit.then]
          refine bodyPost_ret (results_cellTmp rfl rfl (blk_rng (cs := [.int .i64 0, .int .i64 0, .int .i64 0, .int .i64 0, .slice none 0 0]) (HR.blk 3 rfl)) Tryd.underlying40 rfl (by kernel_rfl)) rfl ?_
          rw [hfin.out]
          exact ⟨.slice none 0 0, rfl, (HR.pick []).row_nil 5 1⟩
        have y1 : ((N : Int) != (M : Int)) = false := by simp; omega
        rw [if_neg hlen] at hbo
        have hNMh := Lib.hid (show N = 1 + pt.length + mo by omega)
        have hboh := Lib.hid hbo
        clear hbo hlen hmo
        go_upto_block 3 with (fail)
        clear y1 v1 v2 hM
        go_loopw [10] (fun j wq => ∃ (i : Nat) (va vt vn : Int), i ≤ pt.length ∧ j = .int .i64 i ∧ Hid (fill24 W (pt.drop i) i ⟨k, va, vt, vn, []⟩ = fill24 W pt 0 ⟨k, 0, 0, 0, []⟩) ∧ St (fun _ => False) w wq [Blk mb (mvCells ⟨k, va, vt, vn, []⟩ (.slice none 0 0)) 40, Row 9 1 (.slice (some ⟨g, 0, none⟩) N cp) N (texts W), Blk gw NT 9, Blk rb #[.int .i64 0, .int .i64 0, .int .i64 0, .int .i64 0, .slice none 0 0] 40]) (fun j _ => pt.length - (intOf j).toNat)
        case atStart => exact ⟨0, 0, 0, 0, by omega, rfl, Lib.hid rfl, H6⟩
        case round =>
          clear H6
          obtain ⟨i, va, vt, vn, hi, rfl, hfi, HM⟩ := hrel
          have hsz := txs_size pt
          by_cases hlt : i < pt.length
          · have hlt1 : decide ((i : Int) < (pt.length : Int)) = true := by simp; omega
            have hjs : i < (⟨pt.toArray⟩ : ByteArray).size := by rw [hsz]; exact hlt
            obtain ⟨c, hc⟩ : ∃ c, pt[i]? = some c := ⟨_, List.getElem?_eq_getElem hlt⟩
            have hxc := txs_at pt i hjs hc
            have hdrop : pt.drop i = c :: pt.drop (i + 1) := by rw [List.drop_eq_getElem_cons hlt, (List.getElem?_eq_some_iff.1 hc).2]
            have hfi2 := hfi.out
            rw [hdrop] at hfi2
            have hcp := hpareh.out c (List.mem_of_getElem? hc)
            have hiN : i + 1 < W.length := by rw [hNh.out]; have := hNMh.out; omega
            have hX := texts_get hiN
            have hXm : W.getD (i + 1) [] ∈ W := by rw [List.getD_eq_getElem?_getD, List.getElem?_eq_getElem hiN]; exact List.getElem_mem _
            have kn := fun w' => ref24_number (hWch.out _ hXm) (by have := hWlh.out _ hXm; omega) w'
            have c1 : wr.cell? ⟨g, i + 1, none⟩ = some (.string ⟨(W.getD (i + 1) []).toArray⟩) := HM.rowCell 1 (i + 1) rfl hX
            have hnn : ∀ n, num24 (W.getD (i + 1) []) = some n → fill24 W (pt.drop (i + 1)) (i + 1) ((⟨k, va, vt, vn, []⟩ : Mv).setPart c n) = fill24 W pt 0 ⟨k, 0, 0, 0, []⟩ := fun n h => by rw [← hfi2, fill24_some h]
            have hn0 : num24 (W.getD (i + 1) []) = none → fill24 W pt 0 ⟨k, 0, 0, 0, []⟩ = none := fun h => by rw [← hfi2, fill24_none h]
            obtain ⟨X, hXX⟩ : ∃ X, W.getD (i + 1) [] = X := ⟨_, rfl⟩
            obtain ⟨R, hR⟩ : ∃ R, num24 X = R := ⟨_, rfl⟩
            rw [hXX] at c1 kn hnn hn0
            rw [hR] at kn hnn hn0
            have hiN2 : ((i : Int) + 1) < (N : Int) := by have := hNMh.out; omega
            have v3 : IntKind.i64.wrap ((i : Int) + 1) = ((i + 1 : Nat) : Int) := by rw [IntKind.wrap_i64]; omega
            clear hfi2 hfi hdrop hc hX hXm hXX hR hiN
            cases R with
            | none =>
              have hfin := Lib.hid (show parse24 l = none by rw [hboh.out, hn0 rfl])
              simp only [Option.getD_none, Option.isSome_none] at kn
              clear hnn hn0 hboh
              go_upto_region 17 with (go_at_call 45; go_must (refine (St.callPast (kn _) HM).mono ?_; rintro e w13 ⟨rfl, HN⟩))
              have r0 := HN.free 3 0 rfl
              have r1 := HN.free 3 1 rfl
              have r2 := HN.free 3 2 rfl
              have r3 := HN.free 3 3 rfl
              have r4 := HN.free 3 4 rfl
              have x0 : w13.cell? ⟨rb, 0, none⟩ = some (.int .i64 0) := HN.cell 3 0 rfl rfl
              have x1 : w13.cell? ⟨rb, 1, none⟩ = some (.int .i64 0) := HN.cell 3 1 rfl rfl
              have x2 : w13.cell? ⟨rb, 2, none⟩ = some (.int .i64 0) := HN.cell 3 2 rfl rfl
              have x3 : w13.cell? ⟨rb, 3, none⟩ = some (.int .i64 0) := HN.cell 3 3 rfl rfl
              have x4 : w13.cell? ⟨rb, 4, none⟩ = some (.slice none 0 0) := HN.cell 3 4 rfl rfl
              have HR := (((((HN.set 3 rfl 0 (.int .i64 0)).set 3 rfl 1 (.int .i64 0)).set 3 rfl 2 (.int .i64 0)).set 3 rfl 3 (.int .i64 0)).set 3 rfl 4 (.slice none 0 0))
              go_wp2
              try simp only [Exit.inBlock, Exit.then]
              refine bodyPost_ret (results_cellTmp rfl rfl (blk_rng (cs := [.int .i64 0, .int .i64 0, .int .i64 0, .int .i64 0, .slice none 0 0]) (HR.blk 3 rfl)) Tryd.underlying40 rfl (by kernel_rfl)) rfl ?_
              rw [hfin.out]
              exact ⟨.slice none 0 0, rfl, (HR.pick []).row_nil 5 1⟩
            | some q =>
              have hst0 := hnn q rfl
              simp only [Option.getD_some, Option.isSome_some] at kn
              clear hnn hn0
              go_upto_region 17 with (go_at_call 45; go_must (refine (St.callPast (kn _) HM).mono ?_; rintro e w13 ⟨rfl, HN⟩))
              clear c1 HM kn
              by_cases ca : c = 97
              · have y1 : ((c.toNat : Int) == 97) = true := by rw [ca]; rfl
                have hst := Lib.hid (show Hid (fill24 W (pt.drop (i + 1)) (i + 1) ⟨k, q, vt, vn, []⟩ = fill24 W pt 0 ⟨k, 0, 0, 0, []⟩) by
                  rw [ca] at hst0
                  exact Lib.hid hst0)
                clear hst0 ca hcp
                have f1 := HN.free 0 1 rfl
                have m1 : w13.cell? ⟨mb, 1, none⟩ = some (.int .i64 va) := HN.cell 0 1 rfl rfl
                have HS : St (fun _ => False) w _ [Blk mb (mvCells ⟨k, q, vt, vn, []⟩ (.slice none 0 0)) 40, Row 9 1 (.slice (some ⟨g, 0, none⟩) N cp) N (texts W), Blk gw NT 9, Blk rb #[.int .i64 0, .int .i64 0, .int .i64 0, .int .i64 0, .slice none 0 0] 40] := HN.set 0 rfl 1 (.int .i64 q)
                go_wp2
                go_roundw
                case rel => exact ⟨i + 1, q, vt, vn, by omega, by go_num, hst.out, HS⟩
                case measure => simp [intOf]; omega
              · have y1 : ((c.toNat : Int) == 97) = false := by
                  rw [beq_eq_false_iff_ne]
                  intro h
                  exact ca (UInt8.toNat_inj.1 (by have e : (97 : UInt8).toNat = 97 := rfl; omega))
                by_cases ct : c = 116
                · have y2 : ((c.toNat : Int) == 116) = true := by rw [ct]; rfl
                  have hst := Lib.hid (show Hid (fill24 W (pt.drop (i + 1)) (i + 1) ⟨k, va, q, vn, []⟩ = fill24 W pt 0 ⟨k, 0, 0, 0, []⟩) by
                    rw [ct] at hst0
                    exact Lib.hid hst0)
                  clear hst0 ca ct hcp
                  have f2 := HN.free 0 2 rfl
                  have m2 : w13.cell? ⟨mb, 2, none⟩ = some (.int .i64 vt) := HN.cell 0 2 rfl rfl
                  have HS : St (fun _ => False) w _ [Blk mb (mvCells ⟨k, va, q, vn, []⟩ (.slice none 0 0)) 40, Row 9 1 (.slice (some ⟨g, 0, none⟩) N cp) N (texts W), Blk gw NT 9, Blk rb #[.int .i64 0, .int .i64 0, .int .i64 0, .int .i64 0, .slice none 0 0] 40] := HN.set 0 rfl 2 (.int .i64 q)
                  go_wp2
                  go_roundw
                  case rel => exact ⟨i + 1, va, q, vn, by omega, by go_num, hst.out, HS⟩
                  case measure => simp [intOf]; omega
                · have y2 : ((c.toNat : Int) == 116) = false := by
                    rw [beq_eq_false_iff_ne]
                    intro h
                    exact ct (UInt8.toNat_inj.1 (by have e : (116 : UInt8).toNat = 116 := rfl; omega))
                  have hst := Lib.hid (show Hid (fill24 W (pt.drop (i + 1)) (i + 1) ⟨k, va, vt, q, []⟩ = fill24 W pt 0 ⟨k, 0, 0, 0, []⟩) by
                    unfold Mv.setPart at hst0
                    rw [if_neg ca, if_neg ct] at hst0
                    exact Lib.hid hst0)
                  clear hst0 ca ct hcp
                  have f3 := HN.free 0 3 rfl
                  have m3 : w13.cell? ⟨mb, 3, none⟩ = some (.int .i64 vn) := HN.cell 0 3 rfl rfl
                  have HS : St (fun _ => False) w _ [Blk mb (mvCells ⟨k, va, vt, q, []⟩ (.slice none 0 0)) 40, Row 9 1 (.slice (some ⟨g, 0, none⟩) N cp) N (texts W), Blk gw NT 9, Blk rb #[.int .i64 0, .int .i64 0, .int .i64 0, .int .i64 0, .slice none 0 0] 40] := HN.set 0 rfl 3 (.int .i64 q)
                  go_wp2
                  go_roundw
                  case rel => exact ⟨i + 1, va, vt, q, by omega, by go_num, hst.out, HS⟩
                  case measure => simp [intOf]; omega
          · obtain rfl : i = pt.length := by omega
            have zl : decide ((pt.length : Int) < (pt.length : Int)) = false := by simp
            have hfi2 := hfi.out
            rw [List.drop_length] at hfi2
            have hbo := hboh.out
            rw [← hfi2] at hbo
            unfold fill24 at hbo
            simp only at hbo
            clear hfi2 hfi hboh
            by_cases h0 : k = 0
            · have y1 : ((k : Int) == 0) = true := by rw [h0]; rfl
              rw [if_pos (by rw [h0]; rfl)] at hbo
              have h2N : 2 < N := by
                have e1 := hk0h.out h0
                have e2 := hmoh.out
                rw [h0] at e2
                have e3 : more24 ((0 : Nat) : Int) = 1 := rfl
                have := hNMh.out
                omega
              have h2i : (2 : Int) < (N : Int) := by omega
              have hX := texts_get (l := W) (k := 2) (by rw [hNh.out]; exact h2N)
              have hXm : W.getD 2 [] ∈ W := by rw [List.getD_eq_getElem?_getD, List.getElem?_eq_getElem (by rw [hNh.out]; exact h2N)]; exact List.getElem_mem _
              have kh := fun w' => ref24_hexed (s := W.getD 2 []) (by have := hWlh.out _ hXm; omega) w'
              have c1 : wr.cell? ⟨g, 2, none⟩ = some (.string ⟨(W.getD 2 []).toArray⟩) := HM.rowCell 1 2 rfl hX
              unfold hexB at kh
              obtain ⟨X, hXX⟩ : ∃ X, W.getD 2 [] = X := ⟨_, rfl⟩
              obtain ⟨R, hR⟩ : ∃ R, hexedM X = R := ⟨_, rfl⟩
              rw [hXX] at c1 kh hbo
              rw [hR] at kh hbo
              clear hX hXm hXX hR h0 h2N
              cases R with
              | none =>
                have hfin := Lib.hid (show parse24 l = none from hbo)
                simp only [Option.getD_none, Option.isSome_none] at kh
                clear hbo
                go_upto_region 27 with (go_at_call 46; go_must (refine (kh _).mono ?_; rintro e w13 ⟨v2, rfl, H7⟩; have HN : St (fun _ => False) w w13 [Row 5 1 v2 0 (bvs []), Blk mb (mvCells ⟨k, va, vt, vn, []⟩ (.slice none 0 0)) 40, Row 9 1 (.slice (some ⟨g, 0, none⟩) N cp) N (texts W), Blk gw NT 9, Blk rb #[.int .i64 0, .int .i64 0, .int .i64 0, .int .i64 0, .slice none 0 0] 40] := HM.call0 H7; obtain ⟨a2, p2, rfl, _, _⟩ := slice_form' (HN.row 0 rfl)))
                clear c1 kh H7 HM
                have r0 := HN.free 4 0 rfl
                have r1 := HN.free 4 1 rfl
                have r2 := HN.free 4 2 rfl
                have r3 := HN.free 4 3 rfl
                have r4 := HN.free 4 4 rfl
                have x0 : w13.cell? ⟨rb, 0, none⟩ = some (.int .i64 0) := HN.cell 4 0 rfl rfl
                have x1 : w13.cell? ⟨rb, 1, none⟩ = some (.int .i64 0) := HN.cell 4 1 rfl rfl
                have x2 : w13.cell? ⟨rb, 2, none⟩ = some (.int .i64 0) := HN.cell 4 2 rfl rfl
                have x3 : w13.cell? ⟨rb, 3, none⟩ = some (.int .i64 0) := HN.cell 4 3 rfl rfl
                have x4 : w13.cell? ⟨rb, 4, none⟩ = some (.slice none 0 0) := HN.cell 4 4 rfl rfl
                have HR := (((((HN.set 4 rfl 0 (.int .i64 0)).set 4 rfl 1 (.int .i64 0)).set 4 rfl 2 (.int .i64 0)).set 4 rfl 3 (.int .i64 0)).set 4 rfl 4 (.slice none 0 0))
                go_wp2
                try simp only [Exit.inBlock, Exit.then]
                refine bodyPost_ret (results_cellTmp rfl rfl (blk_rng (cs := [.int .i64 0, .int .i64 0, .int .i64 0, .int .i64 0, .slice none 0 0]) (HR.blk 4 rfl)) Tryd.underlying40 rfl (by kernel_rfl)) rfl ?_
                rw [hfin.out]
                exact ⟨.slice none 0 0, rfl, (HR.pick []).row_nil 5 1⟩
              | some b =>
                have hfin := Lib.hid (show parse24 l = some ⟨k, va, vt, vn, b⟩ from hbo)
                simp only [Option.getD_some, Option.isSome_some] at kh
                clear hbo
                go_upto_region 27 with (go_at_call 46; go_must (refine (kh _).mono ?_; rintro e w13 ⟨v2, rfl, H7⟩; have HN : St (fun _ => False) w w13 [Row 5 1 v2 b.length (bvs b), Blk mb (mvCells ⟨k, va, vt, vn, []⟩ (.slice none 0 0)) 40, Row 9 1 (.slice (some ⟨g, 0, none⟩) N cp) N (texts W), Blk gw NT 9, Blk rb #[.int .i64 0, .int .i64 0, .int .i64 0, .int .i64 0, .slice none 0 0] 40] := HM.call0 H7; obtain ⟨a2, p2, rfl, _, _⟩ := slice_form' (HN.row 0 rfl)))
                clear c1 kh H7 HM
                have f4 := HN.free 1 4 rfl
                have m4 : w13.cell? ⟨mb, 4, none⟩ = some (.slice none 0 0) := HN.cell 1 4 rfl rfl
                have HS : St (fun _ => False) w (w13.setCell ⟨mb, 4, none⟩ (.slice a2 b.length p2)) [Row 5 1 (.slice a2 b.length p2) b.length (bvs b), Blk mb (mvCells ⟨k, va, vt, vn, []⟩ (.slice a2 b.length p2)) 40, Row 9 1 (.slice (some ⟨g, 0, none⟩) N cp) N (texts W), Blk gw NT 9, Blk rb #[.int .i64 0, .int .i64 0, .int .i64 0, .int .i64 0, .slice none 0 0] 40] := HN.set 1 rfl 4 (.slice a2 b.length p2)
                go_upto_region 30 with (fail)
                obtain ⟨w14, hw14⟩ : ∃ w14, w13.setCell ⟨mb, 4, none⟩ (.slice a2 b.length p2) = w14 := ⟨_, rfl⟩
                rw [hw14] at HS
                rw [hw14]
                clear hw14 f4 m4 HN
                have m0 : w14.cell? ⟨mb, 0, none⟩ = some (.int .i64 k) := HS.cell 1 0 rfl rfl
                have m1 : w14.cell? ⟨mb, 1, none⟩ = some (.int .i64 va) := HS.cell 1 1 rfl rfl
                have m2 : w14.cell? ⟨mb, 2, none⟩ = some (.int .i64 vt) := HS.cell 1 2 rfl rfl
                have m3 : w14.cell? ⟨mb, 3, none⟩ = some (.int .i64 vn) := HS.cell 1 3 rfl rfl
                have m4 : w14.cell? ⟨mb, 4, none⟩ = some (.slice a2 b.length p2) := HS.cell 1 4 rfl rfl
                have r0 := HS.free 4 0 rfl
                have r1 := HS.free 4 1 rfl
                have r2 := HS.free 4 2 rfl
                have r3 := HS.free 4 3 rfl
                have r4 := HS.free 4 4 rfl
                have x0 : w14.cell? ⟨rb, 0, none⟩ = some (.int .i64 0) := HS.cell 4 0 rfl rfl
                have x1 : w14.cell? ⟨rb, 1, none⟩ = some (.int .i64 0) := HS.cell 4 1 rfl rfl
                have x2 : w14.cell? ⟨rb, 2, none⟩ = some (.int .i64 0) := HS.cell 4 2 rfl rfl
                have x3 : w14.cell? ⟨rb, 3, none⟩ = some (.int .i64 0) := HS.cell 4 3 rfl rfl
                have x4 : w14.cell? ⟨rb, 4, none⟩ = some (.slice none 0 0) := HS.cell 4 4 rfl rfl
                have HR := (((((HS.set 4 rfl 0 (.int .i64 k)).set 4 rfl 1 (.int .i64 va)).set 4 rfl 2 (.int .i64 vt)).set 4 rfl 3 (.int .i64 vn)).set 4 rfl 4 (.slice a2 b.length p2))
                go_wp2
                try simp only [Exit.inBlock, Exit.then]
                refine bodyPost_ret (results_cellTmp rfl rfl (blk_rng (cs := [.int .i64 k, .int .i64 va, .int .i64 vt, .int .i64 vn, .slice a2 b.length p2]) (HR.blk 4 rfl)) Tryd.underlying40 rfl (by kernel_rfl)) rfl ?_
                rw [hfin.out]
                exact ⟨.slice a2 b.length p2, rfl, HR.pick [0]⟩
            · have y1 : ((k : Int) == 0) = false := by rw [beq_eq_false_iff_ne]; omega
              rw [if_neg (by omega)] at hbo
              have hfin := Lib.hid hbo
              clear hbo h0
              have m0 : wr.cell? ⟨mb, 0, none⟩ = some (.int .i64 k) := HM.cell 0 0 rfl rfl
              have m1 : wr.cell? ⟨mb, 1, none⟩ = some (.int .i64 va) := HM.cell 0 1 rfl rfl
              have m2 : wr.cell? ⟨mb, 2, none⟩ = some (.int .i64 vt) := HM.cell 0 2 rfl rfl
              have m3 : wr.cell? ⟨mb, 3, none⟩ = some (.int .i64 vn) := HM.cell 0 3 rfl rfl
              have m4 : wr.cell? ⟨mb, 4, none⟩ = some (.slice none 0 0) := HM.cell 0 4 rfl rfl
              have r0 := HM.free 3 0 rfl
              have r1 := HM.free 3 1 rfl
              have r2 := HM.free 3 2 rfl
              have r3 := HM.free 3 3 rfl
              have r4 := HM.free 3 4 rfl
              have x0 : wr.cell? ⟨rb, 0, none⟩ = some (.int .i64 0) := HM.cell 3 0 rfl rfl
              have x1 : wr.cell? ⟨rb, 1, none⟩ = some (.int .i64 0) := HM.cell 3 1 rfl rfl
              have x2 : wr.cell? ⟨rb, 2, none⟩ = some (.int .i64 0) := HM.cell 3 2 rfl rfl
              have x3 : wr.cell? ⟨rb, 3, none⟩ = some (.int .i64 0) := HM.cell 3 3 rfl rfl
              have x4 : wr.cell? ⟨rb, 4, none⟩ = some (.slice none 0 0) := HM.cell 3 4 rfl rfl
              have HR := (((((HM.set 3 rfl 0 (.int .i64 k)).set 3 rfl 1 (.int .i64 va)).set 3 rfl 2 (.int .i64 vt)).set 3 rfl 3 (.int .i64 vn)).set 3 rfl 4 (.slice none 0 0))
              go_wp2
              try simp only [Exit.inBlock, Exit.then]
              refine bodyPost_ret (results_cellTmp rfl rfl (blk_rng (cs := [.int .i64 k, .int .i64 va, .int .i64 vt, .int .i64 vn, .slice none 0 0]) (HR.blk 3 rfl)) Tryd.underlying40 rfl (by kernel_rfl)) rfl ?_
              rw [hfin.out]
              exact ⟨.slice none 0 0, rfl, (HR.pick []).row_nil 5 1⟩
      · have z2 : (W.getD 0 [] == nm) = false := by rw [beq_eq_false_iff_ne]; exact fun h => heq h.symm
        have hnx := Lib.hid (show ∀ i, i < k + 1 → ((wordsM.getD i ([], [])).1 == W.getD 0 []) = false by
          intro i hi
          rcases Nat.lt_or_ge i k with h | h
          · exact hallh.out i h
          · obtain rfl : i = k := by omega
            rw [hnmm]
            simpa using heq)
        generalize hW0 : W.getD 0 [] = X0 at *
        clear hnmm hnm heq
        go_wp2
        go_roundw
        case rel => exact ⟨k + 1, by omega, by go_num, hnx.out, HL⟩
        case measure => simp [intOf]; omega
    · obtain rfl : k = 8 := by omega
      have hkn := kind_none hallh.out
      have hfin := Lib.hid (show parse24 l = none by rw [hpah.out, hkn, if_pos (by decide)])
      have z1 : decide ((8 : Int) < 8) = false := rfl
      clear hkn hk8
      have r0 := HL.free 2 0 rfl
      have r1 := HL.free 2 1 rfl
      have r2 := HL.free 2 2 rfl
      have r3 := HL.free 2 3 rfl
      have r4 := HL.free 2 4 rfl
      have x0 : wr.cell? ⟨rb, 0, none⟩ = some (.int .i64 0) := HL.cell 2 0 rfl rfl
      have x1 : wr.cell? ⟨rb, 1, none⟩ = some (.int .i64 0) := HL.cell 2 1 rfl rfl
      have x2 : wr.cell? ⟨rb, 2, none⟩ = some (.int .i64 0) := HL.cell 2 2 rfl rfl
      have x3 : wr.cell? ⟨rb, 3, none⟩ = some (.int .i64 0) := HL.cell 2 3 rfl rfl
      have x4 : wr.cell? ⟨rb, 4, none⟩ = some (.slice none 0 0) := HL.cell 2 4 rfl rfl
      have HR := (((((HL.set 2 rfl 0 (.int .i64 0)).set 2 rfl 1 (.int .i64 0)).set 2 rfl 2 (.int .i64 0)).set 2 rfl 3 (.int .i64 0)).set 2 rfl 4 (.slice none 0 0))
      go_wp2
      try simp only [Exit.inBlock, Exit.then]
      refine bodyPost_ret (results_cellTmp rfl rfl (blk_rng (cs := [.int .i64 0, .int .i64 0, .int .i64 0, .int .i64 0, .slice none 0 0]) (HR.blk 2 rfl)) Tryd.underlying40 rfl (by kernel_rfl)) rfl ?_
      rw [hfin.out]
      exact ⟨.slice none 0 0, rfl, (HR.pick []).row_nil 5 1⟩

end Go.Proofs.YtaafedpjifaghaaDoor
