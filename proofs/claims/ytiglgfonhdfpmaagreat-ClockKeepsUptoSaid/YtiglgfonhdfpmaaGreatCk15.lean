import Derived.Test.YtiglgfonhdfpmaaGreatCk1
import Derived.Test.YtiglgfonhdfpmaaGreatCk2
import Derived.Test.YtiglgfonhdfpmaaGreatCk3
import Derived.Test.YtiglgfonhdfpmaaGreatCk4
import Derived.Test.YtiglgfonhdfpmaaGreatCk5
import Derived.Test.YtiglgfonhdfpmaaGreatCk14
import Derived.Deep.CutBlock
import Derived.Lib.ItoaNum
import Derived.Lib.AtoiAll
import Derived.Lib.Split
import Derived.Lib.SplitLaws
import Derived.Lib.IndexLaws
import Derived.Lib.CountLaws
/- batch.Outs: all items, those that are refused left out. Conditions: the items fit the machine; so many. (Printed by a program of mine.) -/
set_option linter.unusedVariables false
set_option linter.unusedSimpArgs false
namespace Go.Proofs.YtiglgfonhdfpmaaGreat
open Go.RowKit

/-- What batch.Outs hands back, all its own. -/
def BatOk (w : World) (r : RunR) (e : Ending) (w' : World) : Prop :=
  ∃ ho os H, e = .returned (.tuple #[ho, .int .i64 r.n]) ∧ os.map (·.o) = r.outs ∧ (∀ y ∈ os, Om.own y ∈ H) ∧ St (fun _ => False) w w' [Row 63 10 ho os.length (encO.all os), Pool H]

set_option maxHeartbeats 8000000 in
set_option maxRecDepth 100000 in
theorem bat_outs (q : Qry) (l : List Itm) {iv : Value} (w : World) (hi : ItmsRO w iv l) (hil : l.length ≤ 4194304) :
    Calls Tryz.prog 45 #[qyV q, iv] w fun e w' => BatOk w (batM q l ⟨stt0, [], 0, 0⟩) e w' := by
  obtain ⟨res, hres⟩ : ∃ z, batM q l ⟨stt0, [], 0, 0⟩ = z := ⟨_, rfl⟩
  rw [hres]
  have hresh := Lib.hid hres
  clear hres
  obtain ⟨ia, ic, rfl, hic, hifit, hix⟩ := hi
  have hixh := Lib.hid hix
  have hifith := Lib.hid hifit
  clear hifit hix
  have kst := Lib.hid (fun (st : Stt) (x : Itm) (v : Value) w' (hv : PnsRO w' v st.panes) (hl : st.panes.length ≤ 1073741824) (hf : ∀ p ∈ st.panes, p.fits) (hx : x.fits) => oper_step q st x w' hv hl hf hx)
  have hgood := Lib.hid (fun (st : Stt) (x : Itm) (h : (stepM q st x).e = 0) => step_good h)
  have houts := Lib.hid (fun (st : Stt) (x : Itm) => step_outs q st x)
  have hbd := Lib.hid (fun (i : Nat) (x : Itm) (h : l[i]? = some x) r => bat_drop (q := q) h r)
  have knew := fun w' => new_below w'
  unfold qyV qyC at kst
  unfold qyV qyC
  have H1 : St (fun _ => False) w _ [_] := (St.nil _ w).allocAt rfl #[.int .i64 q.kind, .int .i64 q.size, .int .i64 q.slide, .int .i64 q.late, .int .i64 q.agg, .int .i64 q.k] 23
  go_enter Tryz.func45, Tryz.ntmps45
  go_upto_region 1 with (fail)
  obtain ⟨qb, hqb⟩ : ∃ b, w.heap.size = b := ⟨_, rfl⟩
  obtain ⟨w1, hw1⟩ : ∃ z, w.alloc (.cells #[.int .i64 q.kind, .int .i64 q.size, .int .i64 q.slide, .int .i64 q.late, .int .i64 q.agg, .int .i64 q.k] 23) = z := ⟨_, rfl⟩
  rw [hw1, hqb] at H1
  try rw [hw1]
  try simp only [hqb]
  have H2 : St (fun _ => False) w w1 [Blk qb #[.int .i64 q.kind, .int .i64 q.size, .int .i64 q.slide, .int .i64 q.late, .int .i64 q.agg, .int .i64 q.k] 23] := H1
  have hqbh := Lib.hid hqb
  clear hw1 hqb H1
  go_upto_block 1 with (go_at_call 22; go_must (refine (St.callPast (knew _) H2).mono ?_; rintro e w2 ⟨rfl, H3⟩))
  have H4 : St (fun _ => False) w _ [_, _] := H3.allocAt rfl #[.int .i64 (-1), .slice none 0 0] 45
  obtain ⟨w3, hw3⟩ : ∃ z, w2.alloc (.cells #[.int .i64 (-1), .slice none 0 0] 45) = z := ⟨_, rfl⟩
  obtain ⟨sb, hsb⟩ : ∃ b, w2.heap.size = b := ⟨_, rfl⟩
  rw [hw3, hsb] at H4
  try rw [hw3]
  try simp only [hsb]
  have H5 : St (fun _ => False) w w3 [Blk sb #[.int .i64 (-1), .slice none 0 0] 45, Row 68 8 (.slice none 0 0) 0 (encP.all []), Row 63 10 (.slice none 0 0) 0 (encO.all []), Pool [], Blk qb #[.int .i64 q.kind, .int .i64 q.size, .int .i64 q.slide, .int .i64 q.late, .int .i64 q.agg, .int .i64 q.k] 23] := (((H4.pool_nil).row_nil 63 10).row_nil 68 8).pick [3, 0, 1, 2, 4]
  have hsbh := Lib.hid hsb
  clear hw3 hsb H2 H3 H4 knew
  go_loopw [7, 8, 10, 11, 12, 13, 17] (fun u7 u8 _ _ _ _ u17 wr => ∃ (i n : Nat) (st : Stt) (O : List Ot) (smk : Int) (ms1 : List Pm) (os : List Om) (HH : List (Value × List Int)) (pa : Option Addr) (pc : Nat) (oa : Option Addr) (oc : Nat), i ≤ l.length ∧ u7 = .slice oa os.length oc ∧ u8 = .int .i64 n ∧ u17 = .int .i64 i ∧ Hid (batM q (l.drop i) ⟨st, O, n, 0⟩ = res) ∧ Hid (st.mark = smk ∧ ms1.map (·.p) = st.panes ∧ os.map (·.o) = O ∧ (∀ m ∈ ms1, Pm.own m ∈ HH) ∧ (∀ y ∈ os, Om.own y ∈ HH) ∧ st.panes.length ≤ 1073741824 ∧ ∀ p ∈ st.panes, p.fits) ∧ os.length ≤ 256 * i ∧ n ≤ i ∧ St (fun _ => False) w wr [Blk sb #[.int .i64 smk, .slice pa ms1.length pc] 45, Row 68 8 (.slice pa ms1.length pc) ms1.length (encP.all ms1), Row 63 10 (.slice oa os.length oc) os.length (encO.all os), Pool HH, Blk qb #[.int .i64 q.kind, .int .i64 q.size, .int .i64 q.slide, .int .i64 q.late, .int .i64 q.agg, .int .i64 q.k] 23]) (fun _ _ _ _ _ _ u17 _ => l.length - (intOf u17).toNat)
  case atStart => exact ⟨0, 0, stt0, [], -1, [], [], [], none, 0, none, 0, Nat.zero_le _, rfl, rfl, rfl, Lib.hid hresh.out, Lib.hid ⟨rfl, rfl, rfl, fun m hm => (by cases hm), fun y hy => (by cases hy), by simp [stt0], fun p hp => (by simp [stt0] at hp)⟩, by simp, Nat.le_refl _, H5⟩
  case round =>
    clear H5
    obtain ⟨i, n, st, O, smk, ms1, os, HH, pa, pc, oa, oc, hi, rfl, rfl, rfl, hrun, hall, hos, hni, HM⟩ := hrel
    by_cases hlt : i < l.length
    · obtain ⟨bi, oi, rfl, hbi, hcx⟩ := hixh.out (by intro e; rw [e] at hlt; simp at hlt)
      obtain ⟨x, hx⟩ : ∃ x, l[i]? = some x := ⟨_, List.getElem?_eq_getElem hlt⟩
      have hxf := hifith.out x (List.mem_of_getElem? hx)
      have hrd := hbd.out i x hx ⟨st, O, n, 0⟩
      simp only at hrd
      rw [hrun.out] at hrd
      obtain ⟨hsm, hms1, hos1, hmo1, hoo1, hpl1, hpf1⟩ := hall.out
      have hst := fun v w' hv => kst.out st x v w' hv hpl1 hpf1 hxf
      have hgd := hgood.out st x
      have hou := houts.out st x
      obtain ⟨R, hR⟩ : ∃ z, stepM q st x = z := ⟨_, rfl⟩
      simp only [hR] at hst
      rw [hR] at hrd hgd hou
      rw [hsm] at hst
      have hrdh := Lib.hid hrd
      have hgdh := Lib.hid hgd
      have hro : ∀ w' (L : List SP), St (fun _ => False) w w' L → ∀ a b : Nat, L[a]? = some (Row 68 8 (.slice pa ms1.length pc) ms1.length (encP.all ms1)) → L[b]? = some (Pool HH) → PnsRO w' (.slice pa ms1.length pc) st.panes := fun w' L h a b ha hb => by
        rw [← hms1]
        exact h.pnsRO a b ha hb hmo1
      have hroh := Lib.hid hro
      have hos1h := Lib.hid hos1
      have hoo1h := Lib.hid hoo1
      unfold StepOk at hst
      obtain ⟨x0, x1, x2, x3⟩ := itm_cells (hcx i x hx) (HM.kept.block bi hbi id)
      have hi2 : (i : Int) < (l.length : Int) := by omega
      clear hrd hgd hms1 hos1 hmo1 hoo1 hpl1 hpf1 hsm hro hR hcx hx hxf hrun
      obtain ⟨xk, xy, xt, xv⟩ := x
      unfold textV at x1
      unfold itmV textV at hst
      simp only at x0 x1 x2 x3 hst
      have hsth := Lib.hid hst
      clear hst
      have HA : St (fun _ => False) w _ (_ :: _) := HM.allocAt rfl #[.int .i64 xk, .string ⟨xy.toArray⟩, .int .i64 xt, .int .i64 xv] 56
      go_upto_region 7 with (fail)
      obtain ⟨wb, hwb⟩ : ∃ wb, wr.alloc (.cells #[.int .i64 xk, .string ⟨xy.toArray⟩, .int .i64 xt, .int .i64 xv] 56) = wb := ⟨_, rfl⟩
      obtain ⟨xb, hxb⟩ : ∃ xb, wr.heap.size = xb := ⟨_, rfl⟩
      rw [hwb, hxb] at HA
      try rw [hwb]
      try simp only [hxb]
      have HB : St (fun _ => False) w wb [Blk xb #[.int .i64 xk, .string ⟨xy.toArray⟩, .int .i64 xt, .int .i64 xv] 56, Blk sb #[.int .i64 smk, .slice pa ms1.length pc] 45, Row 68 8 (.slice pa ms1.length pc) ms1.length (encP.all ms1), Row 63 10 (.slice oa os.length oc) os.length (encO.all os), Pool HH, Blk qb #[.int .i64 q.kind, .int .i64 q.size, .int .i64 q.slide, .int .i64 q.late, .int .i64 q.agg, .int .i64 q.k] 23] := HA
      clear hwb hxb x0 x1 x2 x3 HM HA
      have y0 := HB.cell 0 0 rfl rfl
      have y1 := HB.cell 0 1 rfl rfl
      have y2 := HB.cell 0 2 rfl rfl
      have y3 := HB.cell 0 3 rfl rfl
      have s0 := HB.cell 1 0 rfl rfl
      have s1 := HB.cell 1 1 rfl rfl
      have d0 := HB.cell 5 0 rfl rfl
      have d1 := HB.cell 5 1 rfl rfl
      have d2 := HB.cell 5 2 rfl rfl
      have d3 := HB.cell 5 3 rfl rfl
      have d4 := HB.cell 5 4 rfl rfl
      have d5 := HB.cell 5 5 rfl rfl
      have hst := hsth.out _ wb (hroh.out wb _ HB 2 4 rfl rfl)
      obtain ⟨⟨mk2, ps2⟩, O2, e2⟩ := R
      simp only at hrdh hgdh hou hst
      go_upto_region 8 with (go_at_call 27; go_must (refine hst.mono ?_; rintro e w3 ⟨hs, ho, ms2, os2, H2, rfl, hm2, ho2, hmo2, hoo2, G1⟩; have hm2h := Lib.hid hm2; have ho2h := Lib.hid ho2; have hmo2h := Lib.hid hmo2; have hoo2h := Lib.hid hoo2; clear hm2 ho2 hmo2 hoo2; obtain ⟨p2, c2, rfl, -, -⟩ := slice_form' (G1.row 0 rfl); obtain ⟨o2, k2, rfl, -, -⟩ := slice_form' (G1.row 1 rfl); have HC0 : St (fun _ => False) w w3 [Row 68 8 (.slice p2 ms2.length c2) ms2.length (encP.all ms2), Row 63 10 (.slice o2 os2.length k2) os2.length (encO.all os2), Pool H2, Blk xb #[.int .i64 xk, .string ⟨xy.toArray⟩, .int .i64 xt, .int .i64 xv] 56, Blk sb #[.int .i64 smk, .slice pa ms1.length pc] 45, Row 68 8 (.slice pa ms1.length pc) ms1.length (encP.all ms1), Row 63 10 (.slice oa os.length oc) os.length (encO.all os), Pool HH, Blk qb #[.int .i64 q.kind, .int .i64 q.size, .int .i64 q.slide, .int .i64 q.late, .int .i64 q.agg, .int .i64 q.k] 23] := HB.call0 G1; have HC : St (fun _ => False) w _ (_ :: _) := HC0.allocAt rfl #[.int .i64 mk2, .slice p2 ms2.length c2] 45))
      obtain ⟨w4, hw4⟩ : ∃ z, w3.alloc (.cells #[.int .i64 mk2, .slice p2 ms2.length c2] 45) = z := ⟨_, rfl⟩
      obtain ⟨nb, hnb⟩ : ∃ z, w3.heap.size = z := ⟨_, rfl⟩
      rw [hw4, hnb] at HC
      try rw [hw4]
      try simp only [hnb]
      have HD : St (fun _ => False) w w4 [Blk nb #[.int .i64 mk2, .slice p2 ms2.length c2] 45, Row 68 8 (.slice p2 ms2.length c2) ms2.length (encP.all ms2), Row 63 10 (.slice o2 os2.length k2) os2.length (encO.all os2), Pool H2, Blk xb #[.int .i64 xk, .string ⟨xy.toArray⟩, .int .i64 xt, .int .i64 xv] 56, Blk sb #[.int .i64 smk, .slice pa ms1.length pc] 45, Row 68 8 (.slice pa ms1.length pc) ms1.length (encP.all ms1), Row 63 10 (.slice oa os.length oc) os.length (encO.all os), Pool HH, Blk qb #[.int .i64 q.kind, .int .i64 q.size, .int .i64 q.slide, .int .i64 q.late, .int .i64 q.agg, .int .i64 q.k] 23] := HC
      clear hw4 hnb HC0 HC HB G1 y0 y1 y2 y3 s0 s1 d0 d1 d2 d3 d4 d5 hst hsth hroh
      by_cases he : e2 = 0
      · subst he
        have hrd2 : res = batM q (l.drop (i + 1)) ⟨⟨mk2, ps2⟩, O ++ O2, n + 1, 0⟩ := by rw [hrdh.out, if_pos rfl]
        have hrd2h := Lib.hid hrd2
        obtain ⟨-, -, hgg, hgl⟩ := hgdh.out rfl
        have hggh := Lib.hid hgg
        have ho2l : os2.length ≤ 256 := by
          have := hou
          rw [← ho2h.out, List.length_map] at this
          exact this
        have n1 : IntKind.i64.wrap ((n : Int) + 1) = ((n + 1 : Nat) : Int) := by rw [IntKind.wrap_i64]; omega
        clear hrd2 hgg hrdh hgdh hou
        go_upto_region 9 with (fail)
        refine wp_script [(0, false), (1, false), (2, false), (4, false), (5, false), (3, true), (6, true), (7, false), (8, false)] (Fam fun w' => St (fun _ => False) w w' [Blk nb #[.int .i64 mk2, .slice p2 ms2.length c2] 45]) (fun w' => St (fun _ => False) w w' [Blk nb #[.int .i64 mk2, .slice p2 ms2.length c2] 45, Row 68 8 (.slice p2 ms2.length c2) ms2.length (encP.all ms2), Row 63 10 (.slice o2 os2.length k2) os2.length (encO.all os2), Pool H2, Blk xb #[.int .i64 xk, .string ⟨xy.toArray⟩, .int .i64 xt, .int .i64 xv] 56, Blk sb #[.int .i64 smk, .slice pa ms1.length pc] 45, Row 68 8 (.slice pa ms1.length pc) ms1.length (encP.all ms1), Row 63 10 (.slice oa os.length oc) os.length (encO.all os), Pool HH, Blk qb #[.int .i64 q.kind, .int .i64 q.size, .int .i64 q.slide, .int .i64 q.late, .int .i64 q.agg, .int .i64 q.k] 23]) (by kernel_rfl) (by rfl) (by kernel_rfl) (by kernel_rfl) HD.drew (Fam.st (fun _ h => h.pick [0])) ?_
        iterate 5 first
          | (apply script_pass
             · rfl
             · rfl
             intro K hK
             go_simp
             refine hK _ ?_
             clear hK K)
          | (apply script_step
             · rfl
             · rfl
             · intro I hI w1 h1'
               have h1 := hI.2 _ h1'
               have c0 := h1.cell 0 0 rfl rfl
               have c1 := h1.cell 0 1 rfl rfl
               first
                 | (go_simp
                    first
                      | rfl
                      | exact ⟨rfl, h1'⟩
                   )
             intro K hK
             go_simp
             refine hK _ ?_
             clear hK K)
        refine script_alone rfl rfl ?_
        intro V hV w1 h1
        obtain ⟨ro1, ro2, ro3, ro4, ro5⟩ := Enc.RO.cells (Enc.own encO (h1.row 2 rfl) rfl)
        cases ro3
        refine h1.came_append 7 rfl (.tmp 32) (.tmp 33) 46 rfl Tryz.underlying46 Tryz.info63 (by decide) rfl (encO.all os2) rfl (encO.all_len os2) (fun e => by rw [ro4 e]; rfl) (fun ad e j u hj => ro5 ad e j u hj) (encO.all_one1 os2) (by omega) ?_
        intro v' w2 HX
        obtain ⟨na, nc, rfl, -, -⟩ := slice_form' (HX.row 7 rfl)
        have HY : St (fun _ => False) w w2 [Blk nb #[.int .i64 mk2, .slice p2 ms2.length c2] 45, Row 68 8 (.slice p2 ms2.length c2) ms2.length (encP.all ms2), Row 63 10 (.slice o2 os2.length k2) os2.length (encO.all os2), Pool H2, Blk xb #[.int .i64 xk, .string ⟨xy.toArray⟩, .int .i64 xt, .int .i64 xv] 56, Blk sb #[.int .i64 smk, .slice pa ms1.length pc] 45, Row 68 8 (.slice pa ms1.length pc) ms1.length (encP.all ms1), Row 63 10 (.slice na (os.length + os2.length) nc) (os.length + os2.length) (encO.all os ++ encO.all os2), Pool HH, Blk qb #[.int .i64 q.kind, .int .i64 q.size, .int .i64 q.slide, .int .i64 q.late, .int .i64 q.agg, .int .i64 q.k] 23] := HX
        refine ⟨fun w' => St (fun _ => False) w w' [Blk nb #[.int .i64 mk2, .slice p2 ms2.length c2] 45, Row 68 8 (.slice p2 ms2.length c2) ms2.length (encP.all ms2), Row 63 10 (.slice o2 os2.length k2) os2.length (encO.all os2), Pool H2, Blk xb #[.int .i64 xk, .string ⟨xy.toArray⟩, .int .i64 xt, .int .i64 xv] 56, Blk sb #[.int .i64 smk, .slice pa ms1.length pc] 45, Row 68 8 (.slice pa ms1.length pc) ms1.length (encP.all ms1), Row 63 10 (.slice na (os.length + os2.length) nc) (os.length + os2.length) (encO.all os ++ encO.all os2), Pool HH, Blk qb #[.int .i64 q.kind, .int .i64 q.size, .int .i64 q.slide, .int .i64 q.late, .int .i64 q.agg, .int .i64 q.k] 23], hV _ _ _ (fun _ h => h) (Fam.st (fun _ h => h.pick [0])) ?_, HY⟩
        intro K hK
        go_simp
        refine hK _ ?_
        clear hK K hV V
        clear HY HX ro4 ro5 h1 w1 w2
        refine script_alone rfl rfl ?_
        intro V hV w1 h1
        have r0 := h1.free 5 0 rfl
        have r1 := h1.free 5 1 rfl
        have z0 := h1.cell 5 0 rfl rfl
        have z1 := h1.cell 5 1 rfl rfl
        have HY := (h1.set 5 rfl 0 (.int .i64 mk2)).set 5 rfl 1 (.slice p2 ms2.length c2)
        go_simp
        refine ⟨fun w' => St (fun _ => False) w w' [Blk nb #[.int .i64 mk2, .slice p2 ms2.length c2] 45, Row 68 8 (.slice p2 ms2.length c2) ms2.length (encP.all ms2), Row 63 10 (.slice o2 os2.length k2) os2.length (encO.all os2), Pool H2, Blk xb #[.int .i64 xk, .string ⟨xy.toArray⟩, .int .i64 xt, .int .i64 xv] 56, Blk sb #[.int .i64 mk2, .slice p2 ms2.length c2] 45, Row 68 8 (.slice pa ms1.length pc) ms1.length (encP.all ms1), Row 63 10 (.slice na (os.length + os2.length) nc) (os.length + os2.length) (encO.all os ++ encO.all os2), Pool HH, Blk qb #[.int .i64 q.kind, .int .i64 q.size, .int .i64 q.slide, .int .i64 q.late, .int .i64 q.agg, .int .i64 q.k] 23], hV _ _ _ (fun _ h => h) (Fam.st (fun _ h => h.pick [0])) ?_, HY⟩
        intro K hK
        go_simp
        refine hK _ ?_
        clear hK K hV V
        clear HY h1 w1 r0 r1 z0 z1
        iterate 2 first
          | (apply script_pass
             · rfl
             · rfl
             intro K hK
             go_simp
             refine hK _ ?_
             clear hK K)
          | (apply script_step
             · rfl
             · rfl
             · intro I hI w1 h1'
               have h1 := hI.2 _ h1'
               first
                 | (go_simp
                    first
                      | rfl
                      | exact ⟨rfl, h1'⟩
                   )
             intro K hK
             go_simp
             refine hK _ ?_
             clear hK K)
        refine script_nil ?_
        intro w9 H9
        have HJ0 : St (fun _ => False) w w9 [Pool (H2 ++ HH), Blk sb #[.int .i64 mk2, .slice p2 ms2.length c2] 45, Row 68 8 (.slice p2 ms2.length c2) ms2.length (encP.all ms2), Row 63 10 (.slice na (os.length + os2.length) nc) (os.length + os2.length) (encO.all os ++ encO.all os2), Blk qb #[.int .i64 q.kind, .int .i64 q.size, .int .i64 q.slide, .int .i64 q.late, .int .i64 q.agg, .int .i64 q.k] 23] := St.pool_join (H9.pick [3, 8, 5, 1, 7, 9])
        go_wp2
        go_roundw
        case rel =>
          refine ⟨i + 1, n + 1, ⟨mk2, ps2⟩, O ++ O2, mk2, ms2, os ++ os2, H2 ++ HH, p2, c2, na, nc, by omega, by rw [List.length_append], by first | rfl | go_num, by go_num, Lib.hid hrd2h.out.symm, Lib.hid ⟨rfl, hm2h.out, by rw [List.map_append, hos1h.out, ho2h.out], fun m hm => List.mem_append_left _ (hmo2h.out m hm), ?_, Nat.le_trans hgl (by decide), good_fits hggh.out⟩, by rw [List.length_append]; omega, by omega, ?_⟩
          · intro y hy
            rcases List.mem_append.1 hy with hy | hy
            · exact List.mem_append_right _ (hoo1h.out y hy)
            · exact List.mem_append_left _ (hoo2h.out y hy)
          · rw [List.length_append, Enc.all_app]
            exact HJ0.pick [1, 2, 3, 0, 4]
        case measure => simp [intOf]; omega
      · have hrd2 : res = batM q (l.drop (i + 1)) ⟨st, O, n, 0⟩ := by rw [hrdh.out, if_neg he]
        have hrd2h := Lib.hid hrd2
        have he2 : (e2 == 0) = false := by simpa using he
        clear hrd2 hrdh hgdh hou
        go_wp2
        go_roundw
        case rel => exact ⟨i + 1, n, st, O, smk, ms1, os, HH, pa, pc, oa, oc, by omega, rfl, rfl, by go_num, Lib.hid hrd2h.out.symm, hall, by omega, by omega, HD.pick [5, 6, 7, 8, 9]⟩
        case measure => simp [intOf]; omega
    · obtain rfl : i = l.length := by omega
      have hres2 : res = ⟨st, O, n, 0⟩ := by rw [← hrun.out, List.drop_length]; rfl
      have hfres := Lib.hid hres2
      obtain ⟨-, -, hos1, -, hoo1, -, -⟩ := hall.out
      have hos1h := Lib.hid hos1
      have hoo1h := Lib.hid hoo1
      clear hres2 hrun hall hos1 hoo1
      go_wp2
      go_ret2
      rw [hfres.out]
      exact ⟨.slice oa os.length oc, os, HH, rfl, hos1h.out, hoo1h.out, HM.pick [2, 3]⟩

end Go.Proofs.YtiglgfonhdfpmaaGreat

/- Sorting that keeps the order of what is equal: plain laws. -/
set_option linter.unusedVariables false
set_option linter.unusedSimpArgs false
namespace Go.Proofs.YtiglgfonhdfpmaaGreat
open Go.RowKit

def Asc (l : List Itm) : Prop := l.Pairwise fun x y => x.time ≤ y.time
def atT (τ : Int) (l : List Itm) : List Itm := l.filter fun x => decide (x.time = τ)
def FSame (l m : List Itm) : Prop := l.Perm m ∧ ∀ τ, atT τ l = atT τ m
theorem atT_app (τ : Int) (l m : List Itm) : atT τ (l ++ m) = atT τ l ++ atT τ m := by simp [atT]
theorem FSame.refl (l : List Itm) : FSame l l := ⟨List.Perm.refl _, fun _ => rfl⟩
theorem FSame.trans {l m k : List Itm} (h : FSame l m) (g : FSame m k) : FSame l k := ⟨h.1.trans g.1, fun t => (h.2 t).trans (g.2 t)⟩
theorem FSame.symm {l m : List Itm} (h : FSame l m) : FSame m l := ⟨h.1.symm, fun t => (h.2 t).symm⟩
theorem FSame.app {l m l' m' : List Itm} (h : FSame l l') (g : FSame m m') : FSame (l ++ m) (l' ++ m') := ⟨h.1.append g.1, fun t => by rw [atT_app, atT_app, h.2, g.2]⟩
theorem FSame.len {l m : List Itm} (h : FSame l m) : l.length = m.length := h.1.length_eq
theorem FSame.all {l m : List Itm} (h : FSame l m) {p : Itm → Prop} (hp : ∀ z ∈ m, p z) : ∀ z ∈ l, p z := fun z hz => hp z (h.1.mem_iff.1 hz)

theorem atT_nil_of {τ : Int} {l : List Itm} (h : ∀ x ∈ l, x.time ≠ τ) : atT τ l = [] := by
  unfold atT
  rw [List.filter_eq_nil_iff]
  intro x hx
  simpa using h x hx
theorem asc_unique : ∀ {l m : List Itm}, Asc l → Asc m → FSame l m → l = m
  | [], m, _, _, h => by
    have := h.len
    simp at this
    exact (List.eq_nil_of_length_eq_zero (by simpa using this.symm)).symm
  | x :: l, [], _, _, h => by have := h.len; simp at this
  | x :: l, y :: m, hl, hm, h => by
    have hl' := List.pairwise_cons.1 hl
    have hm' := List.pairwise_cons.1 hm
    have hx : x ∈ y :: m := h.1.mem_iff.1 (by simp)
    have hy : y ∈ x :: l := h.1.mem_iff.2 (by simp)
    have e1 : y.time ≤ x.time := by
      rcases List.mem_cons.1 hx with rfl | hx
      · exact Int.le_refl _
      · exact hm'.1 x hx
    have e2 : x.time ≤ y.time := by
      rcases List.mem_cons.1 hy with rfl | hy
      · exact Int.le_refl _
      · exact hl'.1 y hy
    have e3 : x.time = y.time := by omega
    have h2 := h.2 x.time
    have hxy : x = y := by
      unfold atT at h2
      rw [List.filter_cons_of_pos (by simp), List.filter_cons_of_pos (by simp [e3])] at h2
      exact (List.cons.inj h2).1
    subst hxy
    congr 1
    refine asc_unique hl'.2 hm'.2 ⟨h.1.cons_inv, fun t => ?_⟩
    have h3 := h.2 t
    unfold atT at h3 ⊢
    by_cases ht : x.time = t
    · rw [List.filter_cons_of_pos (by simpa using ht), List.filter_cons_of_pos (by simpa using ht)] at h3
      exact (List.cons.inj h3).2
    · rw [List.filter_cons_of_neg (by simpa using ht), List.filter_cons_of_neg (by simpa using ht)] at h3
      exact h3

/-! The insertion sort. -/
def Desc (l : List Itm) : Prop := l.Pairwise fun x y => y.time ≤ x.time
theorem insR_perm : ∀ (r : List Itm) (x : Itm), (insR r x).Perm (x :: r)
  | [], x => List.Perm.refl _
  | y :: r, x => by
    unfold insR
    split
    · exact ((insR_perm r x).cons y).trans (List.Perm.swap x y r)
    · exact List.Perm.refl _
theorem insR_desc : ∀ {r : List Itm} {x : Itm}, Desc r → Desc (insR r x)
  | [], x, _ => by simp [insR, Desc]
  | y :: r, x, h => by
    have h' := List.pairwise_cons.1 h
    unfold insR
    split
    · rename_i hxy
      refine List.pairwise_cons.2 ⟨fun z hz => ?_, insR_desc h'.2⟩
      rcases List.mem_cons.1 ((insR_perm r x).mem_iff.1 hz) with rfl | hz
      · omega
      · exact h'.1 z hz
    · rename_i hxy
      refine List.pairwise_cons.2 ⟨fun z hz => ?_, h⟩
      rcases List.mem_cons.1 hz with rfl | hz
      · omega
      · have := h'.1 z hz
        omega
theorem insR_at (τ : Int) : ∀ (r : List Itm) (x : Itm), atT τ (insR r x) = atT τ [x] ++ atT τ r
  | [], x => by simp [insR, atT]
  | y :: r, x => by
    unfold insR
    split
    · rename_i hxy
      have ih := insR_at τ r x
      unfold atT at ih ⊢
      by_cases hy : y.time = τ
      · have hx : ¬ x.time = τ := by omega
        rw [List.filter_cons_of_pos (by simpa using hy), ih, List.filter_cons_of_pos (l := r) (by simpa using hy), List.filter_cons_of_neg (by simpa using hx)]
        rfl
      · rw [List.filter_cons_of_neg (by simpa using hy), ih, List.filter_cons_of_neg (l := r) (by simpa using hy)]
    · rw [show x :: y :: r = [x] ++ (y :: r) from rfl, atT_app]
theorem isr_desc (l : List Itm) : Desc (isr l) := by
  have key : ∀ (l r : List Itm), Desc r → Desc (l.foldl insR r) := by
    intro l
    induction l with
    | nil => exact fun r h => h
    | cons x l ih => exact fun r h => ih _ (insR_desc h)
  exact key l [] List.Pairwise.nil
theorem isr_fsame (l : List Itm) : FSame (isr l).reverse l := by
  have key : ∀ (l r : List Itm), (l.foldl insR r).Perm (r ++ l) ∧ ∀ τ, atT τ (l.foldl insR r) = (atT τ l).reverse ++ atT τ r := by
    intro l
    induction l with
    | nil => exact fun r => ⟨by simp, fun τ => by simp [atT]⟩
    | cons x l ih =>
      intro r
      obtain ⟨i1, i2⟩ := ih (insR r x)
      refine ⟨i1.trans ?_, fun τ => ?_⟩
      · refine ((insR_perm r x).append_right l).trans ?_
        show (x :: (r ++ l)).Perm (r ++ x :: l)
        exact List.perm_middle.symm
      · rw [List.foldl_cons, i2 τ, insR_at, show x :: l = [x] ++ l from rfl, atT_app, List.reverse_append, List.append_assoc]
        have : (atT τ [x]).reverse = atT τ [x] := by
          unfold atT
          by_cases hx : x.time = τ
          · rw [List.filter_cons_of_pos (by simpa using hx)]; rfl
          · rw [List.filter_cons_of_neg (by simpa using hx)]; rfl
        rw [this]
  obtain ⟨k1, k2⟩ := key l []
  refine ⟨(List.reverse_perm _).trans k1, fun τ => ?_⟩
  have := k2 τ
  unfold atT at this ⊢
  unfold isr
  rw [List.filter_reverse, this]
  simp
theorem isr_asc (l : List Itm) : Asc (isr l).reverse := List.pairwise_reverse.2 (isr_desc l)

/-! What a merge brings. -/
def Mrg (U V W : List Itm) : Prop := Asc W ∧ FSame W (U ++ V)
theorem Mrg.left {U : List Itm} (h : Asc U) : Mrg U [] U := ⟨h, by simpa using FSame.refl U⟩
theorem Mrg.right {V : List Itm} (h : Asc V) : Mrg [] V V := ⟨h, by simpa using FSame.refl V⟩
theorem asc_app {l m : List Itm} : Asc (l ++ m) ↔ Asc l ∧ Asc m ∧ ∀ x ∈ l, ∀ y ∈ m, x.time ≤ y.time := List.pairwise_append
/-- One into many: it stands first. -/
theorem mrg_one {x : Itm} {V1 V2 : List Itm} (hV : Asc (V1 ++ V2)) (h1 : ∀ v ∈ V1, v.time < x.time) (h2 : ∀ v ∈ V2, ¬ v.time < x.time) : Mrg [x] (V1 ++ V2) (V1 ++ (x :: V2)) := by
  obtain ⟨a1, a2, a3⟩ := asc_app.1 hV
  refine ⟨asc_app.2 ⟨a1, List.pairwise_cons.2 ⟨fun y hy => by have := h2 y hy; omega, a2⟩, fun u hu y hy => ?_⟩, ?_, fun τ => ?_⟩
  · rcases List.mem_cons.1 hy with rfl | hy
    · have := h1 u hu; omega
    · exact a3 u hu y hy
  · exact List.perm_middle
  · rw [show V1 ++ x :: V2 = V1 ++ ([x] ++ V2) from rfl, atT_app, atT_app, atT_app, atT_app, ← List.append_assoc, ← List.append_assoc]
    congr 1
    by_cases hx : x.time = τ
    · rw [atT_nil_of (l := V1) (fun v hv => by have := h1 v hv; omega)]; simp
    · rw [atT_nil_of (l := [x]) (fun v hv => by obtain rfl := List.mem_singleton.1 hv; exact hx)]; simp
/-- Many, and one: it stands last. -/
theorem mrg_last {y : Itm} {U1 U2 : List Itm} (hU : Asc (U1 ++ U2)) (h1 : ∀ u ∈ U1, ¬ y.time < u.time) (h2 : ∀ u ∈ U2, y.time < u.time) : Mrg (U1 ++ U2) [y] (U1 ++ (y :: U2)) := by
  obtain ⟨a1, a2, a3⟩ := asc_app.1 hU
  refine ⟨asc_app.2 ⟨a1, List.pairwise_cons.2 ⟨fun z hz => by have := h2 z hz; omega, a2⟩, fun u hu z hz => ?_⟩, ?_, fun τ => ?_⟩
  · rcases List.mem_cons.1 hz with rfl | hz
    · have := h1 u hu; omega
    · exact a3 u hu z hz
  · rw [List.append_assoc]
    exact (List.perm_append_comm (l₁ := [y]) (l₂ := U2)).append_left U1
  · rw [show U1 ++ y :: U2 = U1 ++ ([y] ++ U2) from rfl, atT_app, atT_app, atT_app, atT_app, List.append_assoc]
    congr 1
    by_cases hx : y.time = τ
    · rw [atT_nil_of (l := U2) (fun v hv => by have := h2 v hv; omega)]; simp
    · rw [atT_nil_of (l := [y]) (fun v hv => by obtain rfl := List.mem_singleton.1 hv; exact hx)]; simp
/-- Two merges side by side, behind a turn. -/
theorem mrg_two {U1 U2 V1 V2 W1 W2 : List Itm} (hU : Asc (U1 ++ U2)) (hV : Asc (V1 ++ V2)) (h1 : ∀ x ∈ U2, ∀ y ∈ V1, y.time < x.time) (h2 : ∀ x ∈ U1, ∀ y ∈ V2, x.time ≤ y.time) (g1 : Mrg U1 V1 W1) (g2 : Mrg U2 V2 W2) :
    Mrg (U1 ++ U2) (V1 ++ V2) (W1 ++ W2) := by
  obtain ⟨a1, a2, a3⟩ := asc_app.1 hU
  obtain ⟨b1, b2, b3⟩ := asc_app.1 hV
  refine ⟨asc_app.2 ⟨g1.1, g2.1, fun x hx y hy => ?_⟩, ?_⟩
  · have hx := g1.2.1.mem_iff.1 hx
    have hy := g2.2.1.mem_iff.1 hy
    rcases List.mem_append.1 hx with hx | hx <;> rcases List.mem_append.1 hy with hy | hy
    · exact a3 x hx y hy
    · exact h2 x hx y hy
    · have := h1 y hy x hx; omega
    · exact b3 x hx y hy
  · refine (g1.2.app g2.2).trans ⟨?_, fun τ => ?_⟩
    · rw [List.append_assoc, List.append_assoc]
      refine List.Perm.append_left U1 ?_
      rw [← List.append_assoc, ← List.append_assoc]
      exact (List.perm_append_comm (l₁ := V1) (l₂ := U2)).append_right V2
    · simp only [atT_app, List.append_assoc]
      congr 1
      rw [← List.append_assoc, ← List.append_assoc]
      congr 1
      by_cases hc : ∃ y ∈ V1, y.time = τ
      · obtain ⟨y, hy, rfl⟩ := hc
        rw [atT_nil_of (l := U2) (fun x hx => by have := h1 x hx y hy; omega)]; simp
      · rw [atT_nil_of (l := V1) (fun x hx he => hc ⟨x, hx, he⟩)]; simp

/-! Parts that are sorted. -/
def Chunks (c : Nat) (l : List Itm) : Prop := ∀ k, Asc ((l.drop (k * c)).take c)
theorem Asc.take {l : List Itm} (h : Asc l) (n : Nat) : Asc (l.take n) := List.Pairwise.sublist (List.take_sublist n l) h
theorem Asc.drop {l : List Itm} (h : Asc l) (n : Nat) : Asc (l.drop n) := List.Pairwise.sublist (List.drop_sublist n l) h
theorem Chunks.whole {c : Nat} {l : List Itm} (h : Chunks c l) (hl : l.length ≤ c) : Asc l := by
  have := h 0
  rwa [Nat.zero_mul, List.drop_zero, List.take_of_length_le hl] at this
theorem chunks_one {c : Nat} {l : List Itm} (h : Asc l) : Chunks c l := fun k => (h.drop _).take _
theorem chunks_app {c j : Nat} {D E : List Itm} (hD : Chunks c D) (hj : D.length = j * c) (hE : Chunks c E) : Chunks c (D ++ E) := by
  intro k
  by_cases hk : k < j
  · have h1 : (k + 1) * c ≤ D.length := by rw [hj]; exact Nat.mul_le_mul_right c hk
    rw [Nat.add_mul, Nat.one_mul] at h1
    rw [List.drop_append_of_le_length (by omega), List.take_append_of_le_length (by rw [List.length_drop]; omega)]
    exact hD k
  · have h1 : D.length ≤ k * c := by rw [hj]; exact Nat.mul_le_mul_right c (by omega)
    rw [List.drop_append, List.drop_of_length_le h1, List.nil_append, hj, ← Nat.sub_mul]
    exact hE (k - j)
theorem Chunks.drop {c j : Nat} {l : List Itm} (h : Chunks c l) : Chunks c (l.drop (j * c)) := by
  intro k
  rw [List.drop_drop, ← Nat.add_mul]
  exact h _
theorem Chunks.first {c : Nat} {l : List Itm} (h : Chunks c l) : Asc (l.take c) := by simpa using h 0
end Go.Proofs.YtiglgfonhdfpmaaGreat

/- ClockKeeps by law: where the disorder is no more than the slack nothing is late, and marks rise. Plain laws. -/
set_option linter.unusedVariables false
set_option linter.unusedSimpArgs false
namespace Go.Proofs.YtiglgfonhdfpmaaGreat

def DisOk (slack : Int) : Int → List Itm → Prop
  | _, [] => True
  | top, x :: r => top - x.time ≤ slack ∧ DisOk slack (max top x.time) r
theorem dis_ge : ∀ (l : List Itm) (p : Int × Int), p.2 ≤ (l.foldl disS p).2
  | [], p => Int.le_refl _
  | x :: r, p => by
    have := dis_ge r (disS p x)
    simp only [List.foldl_cons]
    unfold disS at this ⊢
    simp only at this ⊢
    omega
theorem dis_ok {slack : Int} : ∀ (l : List Itm) (p : Int × Int), (l.foldl disS p).2 ≤ slack → DisOk slack p.1 l
  | [], _, _ => trivial
  | x :: r, p, h => by
    simp only [List.foldl_cons] at h
    have h1 := dis_ge r (disS p x)
    refine ⟨?_, dis_ok r (disS p x) h⟩
    unfold disS at h1
    simp only at h1
    unfold disS at h
    omega
theorem dis_mono {slack : Int} : ∀ (l : List Itm) (a b : Int), a ≤ b → DisOk slack b l → DisOk slack a l
  | [], _, _, _, _ => trivial
  | x :: r, a, b, hab, h => ⟨by have := h.1; omega, dis_mono r _ _ (by omega) h.2⟩
/-- A clock whose last mark is not ahead. -/
def ClkIn (c : Clk) : Prop := c.ok ∧ (c.last = -1 ∨ c.last ≤ c.top - c.slack)
theorem see_in {c : Clk} (h : ClkIn c) {t : Int} (ht : timeOk t = true) : ClkIn (c.see t).1 ∧ (c.see t).1.top = max c.top t ∧ (c.see t).1.slack = c.slack ∧ ((c.see t).2.2 = true → (c.see t).1.last = (c.see t).2.1 ∧ c.last < (c.see t).2.1) ∧ ((c.see t).2.2 = false → (c.see t).1.last = c.last) := by
  have hok := see_ok h.1 t
  obtain ⟨k1, k2⟩ := see_last h.1 t
  refine ⟨⟨hok, ?_⟩, ?_, ?_, ?_, k2⟩
  · rcases h.2 with e | e
    · unfold Clk.see
      rw [if_neg (by simp [ht])]
      split
      · exact .inl e
      · exact .inr (Int.le_refl _)
    · unfold Clk.see
      rw [if_neg (by simp [ht])]
      split
      · refine .inr ?_
        simp only
        omega
      · exact .inr (Int.le_refl _)
  · rw [(see_same c t).2.2, if_pos ht]
  · exact (see_same c t).1
  · intro hb
    have hl : (c.see t).1.last = (c.see t).2.1 := by
      unfold Clk.see at hb ⊢
      rw [if_neg (by simp [ht])] at hb ⊢
      split at hb
      · cases hb
      · rename_i hh
        rw [if_neg hh]
    have := k1 hb
    rw [← hl]
    exact ⟨rfl, by omega⟩
theorem keeps_late {q : Qry} : ∀ (E : List Itm) (c : Clk) (r : RunR), ClkIn c → (∀ x ∈ E, x.counts = true) → DisOk c.slack c.top E → r.s.mark ≤ c.last → NoLate r.outs → NoLate (batM q (c.weave E) r).outs
  | [], c, r, _, _, _, _, hn => hn
  | x :: E, c, r, hc, hE, hd, hm, hn => by
    have hx := hE x List.mem_cons_self
    obtain ⟨hk, ht0, ht1⟩ := counts_time hx
    have hto : timeOk x.time = true := by simp [timeOk, ht0, ht1]
    obtain ⟨g1, g2, g3, g4, g5⟩ := see_in hc hto
    have hle : c.last ≤ x.time := by
      rcases hc.2 with e | e
      · omega
      · have := hd.1
        omega
    obtain ⟨n1, n2⟩ := bat_one (q := q) (x := x) hn hm (.inr hle) (fun h => by omega)
    have hd2 : DisOk (c.see x.time).1.slack (c.see x.time).1.top E := by rw [g2, g3]; exact hd.2
    have hE2 := fun y hy => hE y (List.mem_cons_of_mem _ hy)
    unfold Clk.weave
    rw [bat_cons]
    cases hb : (c.see x.time).2.2 with
    | false =>
      simp only [Bool.false_eq_true, if_false, List.nil_append]
      exact keeps_late E _ _ g1 hE2 hd2 (by rw [g5 hb]; exact n2) n1
    | true =>
      simp only [if_true, List.cons_append, List.nil_append]
      rw [bat_cons]
      obtain ⟨e1, e2⟩ := g4 hb
      obtain ⟨n3, n4⟩ := bat_one (q := q) (x := ⟨2, [], (c.see x.time).2.1, 0⟩) (m := (c.see x.time).2.1) n1 (by omega) (.inl rfl) (fun _ => Int.le_refl _)
      exact keeps_late E _ _ g1 hE2 hd2 (by rw [e1]; exact n4) n3
/-- Marks rise. -/
def marksUp (last : Int) : List Itm → Bool
  | [] => true
  | x :: r => if x.kind = 2 then decide (last < x.time) && marksUp x.time r else marksUp last r
theorem keeps_up : ∀ (E : List Itm) (c : Clk), ClkIn c → (∀ x ∈ E, x.counts = true) → marksUp c.last (c.weave E) = true
  | [], c, _, _ => rfl
  | x :: E, c, hc, hE => by
    have hx := hE x List.mem_cons_self
    obtain ⟨hk, ht0, ht1⟩ := counts_time hx
    have hto : timeOk x.time = true := by simp [timeOk, ht0, ht1]
    obtain ⟨g1, g2, g3, g4, g5⟩ := see_in hc hto
    have hE2 := fun y hy => hE y (List.mem_cons_of_mem _ hy)
    have ih := keeps_up E _ g1 hE2
    unfold Clk.weave marksUp
    rw [if_neg (by omega)]
    cases hb : (c.see x.time).2.2 with
    | false =>
      simp only [Bool.false_eq_true, if_false, List.nil_append]
      rw [g5 hb] at ih
      exact ih
    | true =>
      simp only [if_true, List.cons_append, List.nil_append]
      obtain ⟨e1, e2⟩ := g4 hb
      rw [e1] at ih
      unfold marksUp
      rw [if_pos rfl, ih]
      simpa using e2
theorem new_in {slack step : Int} (h : clkGood slack step = true) : ClkIn (newClk slack step) := ⟨newClk_ok h, .inl rfl⟩
theorem keeps_all {q : Qry} {step : Int} {l : List Itm} (hg : clkGood (disF (l.filter Itm.counts)).2 step = true) :
    NoLate (batM q ((newClk (disF (l.filter Itm.counts)).2 step).weave (l.filter Itm.counts)) ⟨stt0, [], 0, 0⟩).outs ∧ marksUp (-1) ((newClk (disF (l.filter Itm.counts)).2 step).weave (l.filter Itm.counts)) = true := by
  have hE : ∀ x ∈ l.filter Itm.counts, x.counts = true := fun x hx => (List.mem_filter.1 hx).2
  refine ⟨keeps_late _ _ _ (new_in hg) hE (dis_mono _ (-1) 0 (by omega) (dis_ok _ (0, 0) (Int.le_refl _))) (Int.le_refl _) (fun z hz => by cases hz), keeps_up _ _ (new_in hg) hE⟩
/-- What is sorted has no disorder. -/
theorem dis_asc : ∀ (l : List Itm) (p : Int × Int), Asc l → (∀ x ∈ l, p.1 ≤ x.time) → p.2 = 0 → (l.foldl disS p).2 = 0
  | [], p, _, _, h => h
  | x :: r, p, ha, hp, h => by
    have h1 := List.pairwise_cons.1 ha
    have h2 := hp x List.mem_cons_self
    simp only [List.foldl_cons]
    refine dis_asc r _ h1.2 (fun y hy => ?_) ?_
    · unfold disS
      have := h1.1 y hy
      have := hp y (List.mem_cons_of_mem _ hy)
      simp only
      omega
    · unfold disS
      simp only
      omega
theorem sorted_dis (l : List Itm) : (disF ((isr (l.filter Itm.counts)).reverse.filter Itm.counts)).2 = 0 := by
  have hE : ∀ x ∈ (isr (l.filter Itm.counts)).reverse, x.counts = true := fun x hx => isr_all (p := fun z => z.counts = true) (fun z hz => (List.mem_filter.1 hz).2) x (List.mem_reverse.1 hx)
  rw [List.filter_eq_self.2 hE]
  exact dis_asc _ _ (isr_asc _) (fun x hx => (counts_time (hE x hx)).2.1) rfl

end Go.Proofs.YtiglgfonhdfpmaaGreat

/- Two parts of a row of items exchanged: swapRange, rotate. Condition: so many items. -/
set_option linter.unusedVariables false
set_option linter.unusedSimpArgs false
namespace Go.Proofs.YtiglgfonhdfpmaaGreat
open Go.RowKit

/-- What a swap of two items wants and leaves. -/
theorem swap_pack {S : Nat → Prop} {w w1 : World} {g : Nat} {T : List Itm} {R : List Value} {t : TypeId} (H : St S w w1 [Blk g (itms T ++ R).toArray t]) {i j : Nat} {xk xt xv yk yt yv : Int} {xy yy : List UInt8} (hi : T[i]? = some ⟨xk, xy, xt, xv⟩) (hj : T[j]? = some ⟨yk, yy, yt, yv⟩) :
    (w1.cell? ⟨g, i * 4, none⟩ = some (.int .i64 xk) ∧ w1.cell? ⟨g, i * 4 + 1, none⟩ = some (.string ⟨xy.toArray⟩) ∧ w1.cell? ⟨g, i * 4 + 2, none⟩ = some (.int .i64 xt) ∧ w1.cell? ⟨g, i * 4 + 3, none⟩ = some (.int .i64 xv)) ∧
    (w1.cell? ⟨g, j * 4, none⟩ = some (.int .i64 yk) ∧ w1.cell? ⟨g, j * 4 + 1, none⟩ = some (.string ⟨yy.toArray⟩) ∧ w1.cell? ⟨g, j * 4 + 2, none⟩ = some (.int .i64 yt) ∧ w1.cell? ⟨g, j * 4 + 3, none⟩ = some (.int .i64 yv)) ∧
    mayCells w1 g (i * 4) 4 = true ∧ mayCells (w1.drew.setCells g (i * 4) [.int .i64 yk, .string ⟨yy.toArray⟩, .int .i64 yt, .int .i64 yv]) g (j * 4) 4 = true ∧
    Hid (St S w ((w1.drew.setCells g (i * 4) [.int .i64 yk, .string ⟨yy.toArray⟩, .int .i64 yt, .int .i64 yv]).setCells g (j * 4) [.int .i64 xk, .string ⟨xy.toArray⟩, .int .i64 xt, .int .i64 xv]) [Blk g (itms ((T.set i ⟨yk, yy, yt, yv⟩).set j ⟨xk, xy, xt, xv⟩) ++ R).toArray t]) := by
  have hil := (List.getElem?_eq_some_iff.1 hi).1
  have hjl := (List.getElem?_eq_some_iff.1 hj).1
  have q := blk_itms (H.blk 0 rfl) hi
  have p := blk_itms (H.blk 0 rfl) hj
  have H3 : St S w _ [Blk g (itms (T.set i ⟨yk, yy, yt, yv⟩) ++ R).toArray t] := H.drew.setItm 0 rfl i hil ⟨yk, yy, yt, yv⟩
  have H4 : St S w _ [Blk g (itms ((T.set i ⟨yk, yy, yt, yv⟩).set j ⟨xk, xy, xt, xv⟩) ++ R).toArray t] := H3.setItm 0 rfl j (by rw [List.length_set]; exact hjl) ⟨xk, xy, xt, xv⟩
  refine ⟨q, p, mayCells_blk (H.blk 0 rfl) ?_, mayCells_blk (H3.blk 0 rfl) ?_, Lib.hid H4⟩
  · have := itms_len T
    simp only [List.size_toArray, List.length_append]
    omega
  · have := itms_len (T.set i ⟨yk, yy, yt, yv⟩)
    simp only [List.size_toArray, List.length_append, List.length_set] at this ⊢
    omega
theorem itm_one1 (xk : Int) (xy : List UInt8) (xt xv : Int) : allOne #[.int .i64 xk, .string ⟨xy.toArray⟩, .int .i64 xt, .int .i64 xv] = true := by simp [allOne, Value.oneCell']

/-- The first i of Y, then the rest of X. -/
def mixl (Y X : List Itm) (i : Nat) : List Itm := Y.take i ++ X.drop i
theorem mixl_len {X Y : List Itm} {i : Nat} (h : X.length = Y.length) : (mixl Y X i).length = X.length := by
  unfold mixl
  rw [List.length_append, List.length_take, List.length_drop]
  omega
theorem mixl_get {X Y : List Itm} {i : Nat} {x : Itm} (h : X.length = Y.length) (hx : X[i]? = some x) : (mixl Y X i)[i]? = some x := by
  have hi := (List.getElem?_eq_some_iff.1 hx).1
  unfold mixl
  rw [List.getElem?_append_right (by rw [List.length_take]; omega), List.length_take, show i - min i Y.length = 0 by omega, List.getElem?_drop, Nat.add_zero]
  exact hx
theorem mixl_set {X Y : List Itm} {i : Nat} {y : Itm} (h : X.length = Y.length) (hy : Y[i]? = some y) : (mixl Y X i).set i y = mixl Y X (i + 1) := by
  have hi := (List.getElem?_eq_some_iff.1 hy).1
  unfold mixl
  rw [take_snoc' hy, List.set_append_right _ _ (by rw [List.length_take]; omega), List.length_take, show i - min i Y.length = 0 by omega, List.drop_eq_getElem_cons (by omega : i < X.length), List.set_cons_zero, List.append_assoc]
  rfl
theorem mixl_zero (X Y : List Itm) : mixl Y X 0 = X := by simp [mixl]
theorem mixl_all {X Y : List Itm} (h : X.length = Y.length) : mixl Y X X.length = Y := by
  unfold mixl
  rw [List.take_of_length_le (by omega), List.drop_of_length_le (by omega), List.append_nil]
def swT (P X Q Y D : List Itm) (i : Nat) : List Itm := P ++ (mixl Y X i ++ (Q ++ (mixl X Y i ++ D)))
theorem swT_step {P X Q Y D : List Itm} {a b c n i : Nat} {x y : Itm} (hP : P.length = a) (hX : X.length = c) (hQ : a + c + Q.length = b) (hY : Y.length = c) (hn : b + c + D.length = n) (hx : X[i]? = some x) (hy : Y[i]? = some y) :
    (swT P X Q Y D i)[a + i]? = some x ∧ (swT P X Q Y D i)[b + i]? = some y ∧ ((swT P X Q Y D i).set (a + i) y).set (b + i) x = swT P X Q Y D (i + 1) ∧ (swT P X Q Y D i).length = n := by
  have hi := (List.getElem?_eq_some_iff.1 hx).1
  have l1 : (mixl Y X i).length = c := by rw [mixl_len (by omega), hX]
  have l2 : (mixl X Y i).length = c := by rw [mixl_len (by omega), hY]
  have l3 : (mixl Y X (i + 1)).length = c := by rw [mixl_len (by omega), hX]
  unfold swT
  refine ⟨?_, ?_, ?_, ?_⟩
  · rw [List.getElem?_append_right (by omega), hP, show a + i - a = i by omega, List.getElem?_append_left (by omega)]
    exact mixl_get (by omega) hx
  · rw [List.getElem?_append_right (by omega), hP, List.getElem?_append_right (by omega), l1, List.getElem?_append_right (by omega), show b + i - a - c - Q.length = i by omega, List.getElem?_append_left (by omega)]
    exact mixl_get (by omega) hy
  · have e1 : (P ++ (mixl Y X i ++ (Q ++ (mixl X Y i ++ D)))).set (a + i) y = P ++ (mixl Y X (i + 1) ++ (Q ++ (mixl X Y i ++ D))) := by
      rw [List.set_append_right _ _ (by omega), hP, show a + i - a = i by omega, List.set_append_left _ _ (by omega), mixl_set (by omega) hy]
    rw [e1, List.set_append_right _ _ (by omega), hP, List.set_append_right _ _ (by omega), l3, List.set_append_right _ _ (by omega), show b + i - a - c - Q.length = i by omega, List.set_append_left _ _ (by omega), mixl_set (by omega) hx]
  · simp only [List.length_append]
    omega

section
attribute [local go_sem ↓] run_storeItm
set_option maxHeartbeats 4000000 in
set_option maxRecDepth 100000 in
theorem swap_range {g n cap a b c : Nat} {P X Q Y D : List Itm} {R : List Value} {w : World} {S : Nat → Prop} (hP : P.length = a) (hX : X.length = c) (hQ : a + c + Q.length = b) (hY : Y.length = c) (hn : b + c + D.length = n) (hnb : n ≤ 3518437208880)
    (H : Sep w [Blk g (itms (P ++ (X ++ (Q ++ (Y ++ D)))) ++ R).toArray 56] S) :
    Calls Tryz.prog 293 #[.slice (some ⟨g, 0, none⟩) n cap, .int .i64 a, .int .i64 b, .int .i64 c, cmpV] w fun e w' => e = .returned (.tuple #[]) ∧ St S w w' [Blk g (itms (P ++ (Y ++ (Q ++ (X ++ D)))) ++ R).toArray 56] := by
  have hstep := fun (i : Nat) (x y : Itm) => swT_step (i := i) (x := x) (y := y) hP hX hQ hY hn
  have h0 : St S w w [Blk g (itms (swT P X Q Y D 0) ++ R).toArray 56] := by
    unfold swT
    rw [mixl_zero, mixl_zero]
    exact St.refl H
  have hend : Hid (swT P X Q Y D c = P ++ (Y ++ (Q ++ (X ++ D)))) := Lib.hid (by
    have e1 := mixl_all (X := X) (Y := Y) (by omega)
    have e2 := mixl_all (X := Y) (Y := X) (by omega)
    rw [hX] at e1
    rw [hY] at e2
    unfold swT
    rw [e1, e2])
  obtain ⟨T, hT⟩ : ∃ T, swT P X Q Y D = T := ⟨_, rfl⟩
  simp only [hT] at hstep h0 hend
  have hac : a + c ≤ b := by omega
  have hbn : b + c ≤ n := by omega
  clear hT hP hQ hn H
  unfold cmpV
  go_enter Tryz.func293, Tryz.ntmps293
  go_upto_block 1 with (fail)
  go_loopw [10] (fun s wr => ∃ i : Nat, i ≤ c ∧ s = .int .i64 i ∧ St S w wr [Blk g (itms (T i) ++ R).toArray 56]) (fun s _ => c - (intOf s).toNat)
  case atStart => exact ⟨0, by omega, rfl, h0⟩
  case round =>
    clear h0
    obtain ⟨i, hic, rfl, HM⟩ := hrel
    by_cases hi : i < c
    · obtain ⟨x, hx⟩ : ∃ x, X[i]? = some x := ⟨_, List.getElem?_eq_getElem (by omega)⟩
      obtain ⟨y, hy⟩ : ∃ y, Y[i]? = some y := ⟨_, List.getElem?_eq_getElem (by omega)⟩
      obtain ⟨s1, s2, s3, s4⟩ := hstep i x y hx hy
      have s3h := Lib.hid s3
      clear hstep s3 hx hy hX hY hend
      obtain ⟨p, hp⟩ : ∃ p, a + i = p := ⟨_, rfl⟩
      obtain ⟨q, hq⟩ : ∃ q, b + i = q := ⟨_, rfl⟩
      rw [hp] at s1 s3h
      rw [hq] at s2 s3h
      have w1 : IntKind.i64.wrap ((a : Int) + (i : Int)) = (p : Int) := by rw [IntKind.wrap_i64]; omega
      have w2 : IntKind.i64.wrap ((b : Int) + (i : Int)) = (q : Int) := by rw [IntKind.wrap_i64]; omega
      have hpn : (p : Int) < (n : Int) := by omega
      have hqn : (q : Int) < (n : Int) := by omega
      have hpn' : p < n := by omega
      have hqn' : q < n := by omega
      obtain ⟨xk, xy, xt, xv⟩ := x
      obtain ⟨yk, yy, yt, yv⟩ := y
      obtain ⟨⟨q0, q1, q2, q3⟩, ⟨p0, p1, p2, p3⟩, m1, m2, H4⟩ := swap_pack HM s1 s2
      have a1 := itm_one1 xk xy xt xv
      have a2 := itm_one1 yk yy yt yv
      have hph := Lib.hid hp
      have hqh := Lib.hid hq
      clear HM hp hq s1 s2 s4
      go_upto_region 3 with (fail)
      go_region
      clear q0 q1 q2 q3 p0 p1 p2 p3 m1 m2 a1 a2
      go_wp2
      go_roundw
      case rel =>
        refine ⟨i + 1, by omega, by go_num, ?_⟩
        have H5 := H4.out
        rw [s3h.out] at H5
        exact H5
      case measure => simp [intOf]; omega
    · obtain rfl : i = c := by omega
      go_wp2
      go_end0
      rw [← hend.out]
      exact ⟨rfl, HM⟩
end

set_option maxHeartbeats 4000000 in
set_option maxRecDepth 100000 in
theorem rotate_range {g n cap a m b : Nat} {P X Y D : List Itm} {R : List Value} {w : World} {S : Nat → Prop} (hP : P.length = a) (hX : a + X.length = m) (hY : m + Y.length = b) (hn : b + D.length = n) (hX0 : a < m) (hY0 : m < b) (hnb : n ≤ 3518437208880)
    (H : Sep w [Blk g (itms (P ++ (X ++ (Y ++ D))) ++ R).toArray 56] S) :
    Calls Tryz.prog 259 #[.slice (some ⟨g, 0, none⟩) n cap, .int .i64 a, .int .i64 m, .int .i64 b, cmpV] w fun e w' => e = .returned (.tuple #[]) ∧ St S w w' [Blk g (itms (P ++ (Y ++ (X ++ D))) ++ R).toArray 56] := by
  obtain ⟨F, hF⟩ : ∃ F, P ++ (Y ++ (X ++ D)) = F := ⟨_, rfl⟩
  obtain ⟨T, hT⟩ : ∃ T, P ++ (X ++ (Y ++ D)) = T := ⟨_, rfl⟩
  have H0 := St.refl H
  rw [hT] at H0
  rw [hF]
  have hinv : ∃ (P' X' Y' D' : List Itm), Hid (T = P' ++ (X' ++ (Y' ++ D'))) ∧ Hid (F = P' ++ (Y' ++ (X' ++ D'))) ∧ P'.length + (m - a) = m ∧ X'.length = m - a ∧ Y'.length = b - m ∧ m + (b - m) + D'.length = n :=
    ⟨P, X, Y, D, Lib.hid hT.symm, Lib.hid hF.symm, by omega, by omega, by omega, by omega⟩
  have w1 : IntKind.i64.wrap ((m : Int) - (a : Int)) = ((m - a : Nat) : Int) := by rw [IntKind.wrap_i64]; omega
  have w2 : IntKind.i64.wrap ((b : Int) - (m : Int)) = ((b - m : Nat) : Int) := by rw [IntKind.wrap_i64]; omega
  obtain ⟨i0, hi0⟩ : ∃ i0, m - a = i0 := ⟨_, rfl⟩
  obtain ⟨j0, hj0⟩ : ∃ j0, b - m = j0 := ⟨_, rfl⟩
  rw [hi0] at w1 hinv
  rw [hj0] at w2 hinv
  have hi00 : 0 < i0 := by omega
  have hj00 : 0 < j0 := by omega
  have hbig : i0 + j0 ≤ n := by omega
  clear hF hT hP hX hY hn H hi0 hj0 hX0 hY0
  unfold cmpV
  go_enter Tryz.func259, Tryz.ntmps259
  go_upto_block 1 with (fail)
  go_loopw [10, 11] (fun s t wr => ∃ (i j : Nat) (T : List Itm), s = .int .i64 i ∧ t = .int .i64 j ∧ 0 < i ∧ 0 < j ∧ i + j ≤ n ∧ (∃ (P' X' Y' D' : List Itm), Hid (T = P' ++ (X' ++ (Y' ++ D'))) ∧ Hid (F = P' ++ (Y' ++ (X' ++ D'))) ∧ P'.length + i = m ∧ X'.length = i ∧ Y'.length = j ∧ m + j + D'.length = n) ∧ St S w wr [Blk g (itms T ++ R).toArray 56]) (fun s t _ => (intOf s).toNat + (intOf t).toNat)
  case atStart => exact ⟨i0, j0, T, by go_num, by go_num, hi00, hj00, hbig, hinv, H0⟩
  case round =>
    clear hinv H0 w1 w2 hi00 hj00 hbig
    obtain ⟨i, j, T', rfl, rfl, hi, hj, hij, ⟨P', X', Y', D', hT, hF, hP, hX, hY, hD⟩, HM⟩ := hrel
    obtain ⟨S1, K1, G1⟩ := St.call (l1 := [_]) (l2 := []) HM
    have wd : IntKind.i64.wrap ((m : Int) - (i : Int)) = ((m - i : Nat) : Int) := by rw [IntKind.wrap_i64]; omega
    obtain ⟨p, hp⟩ : ∃ p, m - i = p := ⟨_, rfl⟩
    rw [hp] at wd
    rw [hT.out] at K1
    rcases Nat.lt_trichotomy j i with hlt | rfl | hlt
    · have k1 := swap_range (cap := cap) (a := p) (b := m) (c := j) (P := P') (X := X'.take j) (Q := X'.drop j) (Y := Y') (D := D') (R := R) (w := wr) (S := S1) (n := n) (by omega) (by rw [List.length_take]; omega) (by rw [List.length_drop]; omega) hY hD hnb (by
        rw [← List.append_assoc (X'.take j), List.take_append_drop]; exact K1)
      have hn2 : ∃ (P'' X'' Y'' D'' : List Itm), Hid (P' ++ (Y' ++ (X'.drop j ++ (X'.take j ++ D'))) = P'' ++ (X'' ++ (Y'' ++ D''))) ∧ Hid (F = P'' ++ (Y'' ++ (X'' ++ D''))) ∧ P''.length + (i - j) = m ∧ X''.length = i - j ∧ Y''.length = j ∧ m + j + D''.length = n := by
        refine ⟨P' ++ Y', X'.drop j, X'.take j, D', Lib.hid (by simp), Lib.hid ?_, by rw [List.length_append]; omega, by rw [List.length_drop]; omega, by rw [List.length_take]; omega, hD⟩
        rw [hF.out, ← List.append_assoc (X'.take j), List.take_append_drop, List.append_assoc]
      have hne : ¬ ((i : Int) = (j : Int)) := by omega
      have hgt : (j : Int) < (i : Int) := by omega
      have ws : IntKind.i64.wrap ((i : Int) - (j : Int)) = ((i - j : Nat) : Int) := by rw [IntKind.wrap_i64]; omega
      unfold cmpV at k1
      clear K1 hT hF
      go_wp2_with (go_at_call 293; go_must (refine k1.mono ?_; rintro e w3 ⟨rfl, H3⟩; have H4 := G1 _ _ H3))
      go_roundw
      case rel => exact ⟨i - j, j, _, by go_num, rfl, by omega, hj, by omega, hn2, H4⟩
      case measure => simp [intOf]; omega
    · have k1 := swap_range (cap := cap) (a := p) (b := m) (c := j) (P := P') (X := X') (Q := []) (Y := Y') (D := D') (R := R) (w := wr) (S := S1) (n := n) (by omega) hX (by simp; omega) hY hD hnb (by simpa using K1)
      unfold cmpV at k1
      have hfin := Lib.hid (show P' ++ (Y' ++ ([] ++ (X' ++ D'))) = F by rw [hF.out]; rfl)
      clear K1 hT hF
      go_wp2_with (go_at_call 293; go_must (refine k1.mono ?_; rintro e w3 ⟨rfl, H3⟩; have H4 := G1 _ _ H3))
      go_end0
      rw [← hfin.out]
      exact ⟨rfl, H4⟩
    · have wm : IntKind.i64.wrap ((m : Int) + (j : Int)) = ((m + j : Nat) : Int) := by rw [IntKind.wrap_i64]; omega
      obtain ⟨mj, hmj⟩ : ∃ mj, m + j = mj := ⟨_, rfl⟩
      rw [hmj] at wm
      have wq : IntKind.i64.wrap ((mj : Int) - (i : Int)) = ((mj - i : Nat) : Int) := by rw [IntKind.wrap_i64]; omega
      obtain ⟨q, hq⟩ : ∃ q, mj - i = q := ⟨_, rfl⟩
      rw [hq] at wq
      have k1 := swap_range (cap := cap) (a := p) (b := q) (c := i) (P := P') (X := X') (Q := Y'.take (j - i)) (Y := Y'.drop (j - i)) (D := D') (R := R) (w := wr) (S := S1) (n := n) (by omega) hX (by rw [List.length_take]; omega) (by rw [List.length_drop]; omega) (by omega) hnb (by
        rw [← List.append_assoc (Y'.take (j - i)), List.take_append_drop]; exact K1)
      have hn2 : ∃ (P'' X'' Y'' D'' : List Itm), Hid (P' ++ (Y'.drop (j - i) ++ (Y'.take (j - i) ++ (X' ++ D'))) = P'' ++ (X'' ++ (Y'' ++ D''))) ∧ Hid (F = P'' ++ (Y'' ++ (X'' ++ D''))) ∧ P''.length + i = m ∧ X''.length = i ∧ Y''.length = j - i ∧ m + (j - i) + D''.length = n := by
        refine ⟨P', Y'.drop (j - i), Y'.take (j - i), X' ++ D', Lib.hid rfl, Lib.hid ?_, by omega, by rw [List.length_drop]; omega, by rw [List.length_take]; omega, by rw [List.length_append]; omega⟩
        rw [hF.out, ← List.append_assoc (Y'.take (j - i)), List.take_append_drop]
      have hne : ¬ ((i : Int) = (j : Int)) := by omega
      have hgt : ¬ (j : Int) < (i : Int) := by omega
      have ws : IntKind.i64.wrap ((j : Int) - (i : Int)) = ((j - i : Nat) : Int) := by rw [IntKind.wrap_i64]; omega
      unfold cmpV at k1
      clear K1 hT hF
      go_wp2_with (go_at_call 293; go_must (refine k1.mono ?_; rintro e w3 ⟨rfl, H3⟩; have H4 := G1 _ _ H3))
      go_roundw
      case rel => exact ⟨i, j - i, _, rfl, by go_num, hi, by omega, by omega, hn2, H4⟩
      case measure => simp [intOf]; omega
end Go.Proofs.YtiglgfonhdfpmaaGreat

/- slices' symMerge at items: two sorted parts become one. Condition: times within bounds, so many items. -/
set_option linter.unusedVariables false
set_option linter.unusedSimpArgs false
namespace Go.Proofs.YtiglgfonhdfpmaaGreat
open Go.RowKit

/-! Times by places. -/
def tmA (L : List Itm) (k : Nat) : Int := (L.map Itm.time).getD k 0
theorem tmA_of {L : List Itm} {k : Nat} {x : Itm} (h : L[k]? = some x) : tmA L k = x.time := by simp [tmA, List.getD, h]
theorem asc_at {L : List Itm} (h : Asc L) {i j : Nat} {x y : Itm} (hij : i ≤ j) (hx : L[i]? = some x) (hy : L[j]? = some y) : x.time ≤ y.time := by
  rcases Nat.eq_or_lt_of_le hij with rfl | hlt
  · rw [hx] at hy
    obtain rfl := Option.some.inj hy
    exact Int.le_refl _
  · obtain ⟨hi, rfl⟩ := List.getElem?_eq_some_iff.1 hx
    obtain ⟨hj, rfl⟩ := List.getElem?_eq_some_iff.1 hy
    exact List.pairwise_iff_getElem.1 h i j hi hj hlt
theorem mid_get {A U E : List Itm} {a m k : Nat} (hA : A.length = a) (hU : a + U.length = m) (h1 : a ≤ k) (h2 : k < m) : (A ++ (U ++ E))[k]? = U[k - a]? := by
  rw [List.getElem?_append_right (by omega), hA, List.getElem?_append_left (by omega)]
theorem part_asc {A U E : List Itm} {a m : Nat} (hA : A.length = a) (hU : a + U.length = m) (h : Asc U) (i j : Nat) (h1 : a ≤ i) (h2 : i ≤ j) (h3 : j < m) : tmA (A ++ (U ++ E)) i ≤ tmA (A ++ (U ++ E)) j := by
  obtain ⟨x, hx⟩ : ∃ x, U[i - a]? = some x := ⟨_, List.getElem?_eq_getElem (by omega)⟩
  obtain ⟨y, hy⟩ : ∃ y, U[j - a]? = some y := ⟨_, List.getElem?_eq_getElem (by omega)⟩
  rw [tmA_of (x := x) (by rw [mid_get hA hU h1 (by omega)]; exact hx), tmA_of (x := y) (by rw [mid_get hA hU (by omega) h3]; exact hy)]
  exact asc_at h (by omega) hx hy
theorem part_take {A U E : List Itm} {a m s : Nat} (hA : A.length = a) (hU : a + U.length = m) {x : Itm} (hx : x ∈ U.take (s - a)) : ∃ k, a ≤ k ∧ k < s ∧ k < m ∧ tmA (A ++ (U ++ E)) k = x.time := by
  obtain ⟨i, hi, rfl⟩ := List.mem_iff_getElem.1 hx
  rw [List.length_take] at hi
  refine ⟨a + i, by omega, by omega, by omega, tmA_of ?_⟩
  rw [mid_get hA hU (by omega) (by omega), show a + i - a = i by omega, List.getElem_take]
  exact List.getElem?_eq_getElem (by omega)
theorem part_drop {A U E : List Itm} {a m s : Nat} (hA : A.length = a) (hU : a + U.length = m) (hs : a ≤ s) {x : Itm} (hx : x ∈ U.drop (s - a)) : ∃ k, s ≤ k ∧ k < m ∧ tmA (A ++ (U ++ E)) k = x.time := by
  obtain ⟨i, hi, rfl⟩ := List.mem_iff_getElem.1 hx
  rw [List.length_drop] at hi
  refine ⟨s + i, by omega, by omega, tmA_of ?_⟩
  rw [mid_get hA hU (by omega) (by omega), show s + i - a = s - a + i by omega, List.getElem_drop]
  exact List.getElem?_eq_getElem (by omega)
theorem swap2 {B E : List Itm} {k : Nat} (x y : Itm) (hB : B.length = k) :
    (B ++ (x :: y :: E))[k]? = some x ∧ (B ++ (x :: y :: E))[k + 1]? = some y ∧ ((B ++ (x :: y :: E)).set k y).set (k + 1) x = B ++ (y :: x :: E) ∧ ((B ++ (x :: y :: E)).set (k + 1) x).set k y = B ++ (y :: x :: E) := by
  subst hB
  have e1 : ∀ (l : List Itm), (B ++ l)[B.length + 1]? = l[1]? := fun l => by rw [List.getElem?_append_right (by omega), show B.length + 1 - B.length = 1 by omega]
  have e2 : ∀ (l : List Itm) (z : Itm), (B ++ l).set (B.length + 1) z = B ++ l.set 1 z := fun l z => by rw [List.set_append_right _ _ (by omega), show B.length + 1 - B.length = 1 by omega]
  have e3 : ∀ (l : List Itm) (z : Itm), (B ++ l).set B.length z = B ++ l.set 0 z := fun l z => by rw [List.set_append_right _ _ (by omega), Nat.sub_self]
  refine ⟨by simp, by rw [e1]; rfl, ?_, ?_⟩
  · rw [e3, e2]; rfl
  · rw [e2, e3]; rfl
def SymOK (n cap g : Nat) (R : List Value) (a m b : Nat) : Prop := ∀ (A U V D : List Itm) (w : World) (S : Nat → Prop), A.length = a → a + U.length = m → m + V.length = b → b + D.length = n →
  (∀ z ∈ A ++ (U ++ (V ++ D)), z.mild) → Asc U → Asc V → Sep w [Blk g (itms (A ++ (U ++ (V ++ D))) ++ R).toArray 56] S →
  Calls Tryz.prog 207 #[.slice (some ⟨g, 0, none⟩) n cap, .int .i64 a, .int .i64 m, .int .i64 b, cmpV] w fun e w' => e = .returned (.tuple #[]) ∧ ∃ W, Mrg U V W ∧ St S w w' [Blk g (itms (A ++ (W ++ D)) ++ R).toArray 56]

section
attribute [local go_sem ↓] run_storeItm
set_option maxHeartbeats 8000000 in
set_option maxRecDepth 100000 in
theorem sym_one {n cap g a b : Nat} {R : List Value} (hnb : n ≤ 3518437208880) (hb : a + 1 < b) : SymOK n cap g R a (a + 1) b := by
  intro A U V D w S hA hU hV hD hm hUa hVa H
  have H0 := St.refl H
  obtain ⟨x, rfl⟩ : ∃ x, U = [x] := by
    match U, hU with
    | [x], _ => exact ⟨x, rfl⟩
    | [], h => simp at h
    | x :: y :: l, h => simp at h
  have hxm := hm x (by simp)
  obtain ⟨T, hT⟩ : ∃ T, A ++ ([x] ++ (V ++ D)) = T := ⟨_, rfl⟩
  have hTl : T.length = n := by rw [← hT]; simp at hU ⊢; omega
  have hTx : T[a]? = some x := by rw [← hT, mid_get hA hU (Nat.le_refl _) (by omega), Nat.sub_self]; rfl
  have hTV : T = (A ++ [x]) ++ (V ++ D) := by rw [← hT]; simp
  have hA1 : (A ++ [x]).length = a + 1 := by simp [hA]
  have hfin : Hid (∀ i, a + 1 ≤ i → i ≤ b → (∀ k, a + 1 ≤ k → k < i → tmA T k < x.time) → (∀ k, i ≤ k → k < b → x.time ≤ tmA T k) → Mrg [x] V (V.take (i - (a + 1)) ++ (x :: V.drop (i - (a + 1))))) := Lib.hid (by
    intro i h1 h2 h3 h4
    have hmr := mrg_one (x := x) (V1 := V.take (i - (a + 1))) (V2 := V.drop (i - (a + 1))) (by rw [List.take_append_drop]; exact hVa) (fun v hv => by
      obtain ⟨k, k1, k2, k3, k4⟩ := part_take (E := D) hA1 hV hv
      rw [← hTV] at k4
      rw [← k4]
      exact h3 k k1 k2) (fun v hv => by
      obtain ⟨k, k1, k2, k4⟩ := part_drop (E := D) hA1 hV h1 hv
      rw [← hTV] at k4
      rw [← k4]
      have := h4 k k1 k2
      omega)
    rwa [List.take_append_drop] at hmr)
  have hmono : Hid (∀ i j, a + 1 ≤ i → i ≤ j → j < b → tmA T i ≤ tmA T j) := Lib.hid (by rw [hTV]; exact part_asc hA1 hV hVa)
  have hTm : ∀ z ∈ T, z.mild := by rw [← hT]; exact hm
  have hT0 := Lib.hid (show T = A ++ ([] ++ (x :: (V ++ D))) by rw [← hT]; rfl)
  rw [hT] at H0
  have wa : IntKind.i64.wrap (((a + 1 : Nat) : Int) - (a : Int)) = 1 := by rw [IntKind.wrap_i64]; omega
  obtain ⟨m, hmm⟩ : ∃ m, a + 1 = m := ⟨_, rfl⟩
  rw [hmm] at wa hfin hmono hb hV ⊢
  have ham : a < m := by omega
  have hbn : b ≤ n := by omega
  clear hT hTV hA1 hm hUa hVa H hU
  unfold cmpV
  go_enter Tryz.func207, Tryz.ntmps207
  go_upto_block 1 with (fail)
  go_loopw [10, 11, 12] (fun s u _ wr => ∃ (i j : Nat), s = .int .i64 i ∧ u = .int .i64 j ∧ m ≤ i ∧ i ≤ j ∧ j ≤ b ∧ Hid ((∀ k, m ≤ k → k < i → tmA T k < x.time) ∧ (∀ k, j ≤ k → k < b → x.time ≤ tmA T k)) ∧ St S w wr [Blk g (itms T ++ R).toArray 56]) (fun s u _ _ => (intOf u).toNat - (intOf s).toNat)
  case atStart => exact ⟨m, b, rfl, rfl, Nat.le_refl _, by omega, Nat.le_refl _, Lib.hid ⟨fun k h1 h2 => by omega, fun k h1 h2 => by omega⟩, H0⟩
  case round =>
    clear H0
    obtain ⟨i, j, rfl, rfl, hmi, hij, hjb, hI, HM⟩ := hrel
    by_cases hlt : i < j
    · have hhlt : i ≤ (i + j) / 2 ∧ (i + j) / 2 < j := by omega
      have wh : ((i : Int) + (j : Int)) / 2 = (((i + j) / 2 : Nat) : Int) := by omega
      obtain ⟨h, hh⟩ : ∃ h, (i + j) / 2 = h := ⟨_, rfl⟩
      rw [hh] at hhlt wh
      obtain ⟨z, hz⟩ : ∃ z, T[h]? = some z := ⟨_, List.getElem?_eq_getElem (by omega)⟩
      have kc := clk_cmp z x (hTm z (List.mem_of_getElem? hz)) hxm
      have hzt := Lib.hid (tmA_of hz)
      have hhn : (h : Int) < (n : Int) := by omega
      have hhn' : h < n := by omega
      have han : (a : Int) < (n : Int) := by omega
      have han' : a < n := by omega
      have hhh := Lib.hid hh
      clear hh hfin hT0
      obtain ⟨xk, xy, xt, xv⟩ := x
      obtain ⟨zk, zy, zt, zv⟩ := z
      unfold itmV textV at kc
      simp only at kc hzt hI
      go_upto_region 5 with (fail)
      refine wp_calm (fun w' => St S w w' [Blk g (itms T ++ R).toArray 56]) (by kernel_rfl) (by kernel_rfl) (HM.drew) ?_
      iterate 11 first
        | (apply calm_pass
           · rfl
           intro K hK
           go_simp
           refine hK _ ?_
           clear hK K)
        | (apply calm_step
           · rfl
           · intro w1 h1
             obtain ⟨q0, q1, q2, q3⟩ := blk_itms (h1.blk 0 rfl) hz
             obtain ⟨p0, p1, p2, p3⟩ := blk_itms (h1.blk 0 rfl) hTx
             unfold textV at q1 p1
             simp only at q0 q1 q2 q3 p0 p1 p2 p3
             first
               | (go_simp
                  first
                    | rfl
                    | exact ⟨rfl, h1⟩
                    | (go_at_call 94; with_reducible exact St.callPast (kc w1) h1)
                 )
           intro K hK
           go_simp
           refine hK _ ?_
           clear hK K)
      refine calm_nil ?_
      intro w2 H2
      clear kc HM
      by_cases hlt2 : zt < xt
      · have e3 : zt - xt < 0 := by omega
        go_wp2
        go_roundw
        case rel =>
          refine ⟨h + 1, j, by go_num, rfl, by omega, by omega, hjb, Lib.hid ⟨fun k h1 h2 => ?_, hI.out.2⟩, H2⟩
          have := hmono.out k h h1 (by omega) (by omega)
          have := hzt.out
          omega
        case measure => simp [intOf]; omega
      · have e3 : ¬ (zt - xt < 0) := by omega
        go_wp2
        go_roundw
        case rel =>
          refine ⟨i, h, rfl, by go_num, hmi, by omega, by omega, Lib.hid ⟨hI.out.1, fun k h1 h2 => ?_⟩, H2⟩
          have := hmono.out h k (by omega) h1 h2
          have := hzt.out
          omega
        case measure => simp [intOf]; omega
    · obtain rfl : i = j := by omega
      have hW := Lib.hid (hfin.out i hmi hjb hI.out.1 hI.out.2)
      have hT2 := Lib.hid (show T = A ++ ([] ++ (x :: (V.take (i - m) ++ (V.drop (i - m) ++ D)))) by rw [← List.append_assoc (V.take _), List.take_append_drop]; exact hT0.out)
      have hl1 : (V.take (i - m)).length = i - m := by rw [List.length_take]; omega
      obtain ⟨V1, hV1⟩ : ∃ V1, V.take (i - m) = V1 := ⟨_, rfl⟩
      obtain ⟨V2, hV2⟩ : ∃ V2, V.drop (i - m) = V2 := ⟨_, rfl⟩
      rw [hV1] at hW hT2 hl1
      rw [hV2] at hW hT2
      have wi : IntKind.i64.wrap ((i : Int) - 1) = ((i - 1 : Nat) : Int) := by rw [IntKind.wrap_i64]; omega
      obtain ⟨i1, hi1⟩ : ∃ i1, i - 1 = i1 := ⟨_, rfl⟩
      rw [hi1] at wi
      rw [hT2.out] at HM
      have hi1n : i1 < n := by omega
      have hl1 : a + V1.length = i1 := by omega
      clear hV1 hV2 hI hmono hfin hTm hT0 hxm hTx hTl hT2
      go_upto_block 3 with (fail)
      go_loopw [13] (fun s wr => ∃ (k : Nat) (P Q : List Itm), s = .int .i64 k ∧ a + P.length = k ∧ k ≤ i1 ∧ Hid (V1 = P ++ Q) ∧ St S w wr [Blk g (itms (A ++ (P ++ (x :: (Q ++ (V2 ++ D))))) ++ R).toArray 56]) (fun s _ => i1 - (intOf s).toNat)
      case atStart => exact ⟨a, [], V1, rfl, by simp, by omega, Lib.hid rfl, HM⟩
      case round =>
        clear HM
        obtain ⟨k, P, Q, rfl, hPk, hk, hPQ, HM⟩ := hrel
        have hPQl : P.length + Q.length = V1.length := by rw [hPQ.out, List.length_append]
        cases Q with
        | cons y Q =>
          have hki : k < i1 := by simp at hPQl; omega
          have s := swap2 (B := A ++ P) (E := Q ++ (V2 ++ D)) (k := k) x y (by rw [List.length_append]; omega)
          have eT : (A ++ P) ++ (x :: y :: (Q ++ (V2 ++ D))) = A ++ (P ++ (x :: (y :: Q ++ (V2 ++ D)))) := by simp
          have eN := Lib.hid (show (A ++ P) ++ (y :: x :: (Q ++ (V2 ++ D))) = A ++ ((P ++ [y]) ++ (x :: (Q ++ (V2 ++ D)))) by simp)
          rw [eT] at s
          obtain ⟨s1, s2, s3, _⟩ := s
          rw [eN.out] at s3
          have s3h := Lib.hid s3
          obtain ⟨T', hT'⟩ : ∃ T', A ++ (P ++ (x :: (y :: Q ++ (V2 ++ D)))) = T' := ⟨_, rfl⟩
          rw [hT'] at HM s1 s2 s3h
          clear hT' eT s3 eN
          have hPQ2 := Lib.hid (show V1 = (P ++ [y]) ++ Q by rw [hPQ.out]; simp)
          obtain ⟨xk, xy, xt, xv⟩ := x
          obtain ⟨yk, yy, yt, yv⟩ := y
          obtain ⟨⟨q0, q1, q2, q3⟩, ⟨p0, p1, p2, p3⟩, m1, m2, H4⟩ := swap_pack HM s1 s2
          have a1 := itm_one1 xk xy xt xv
          have a2 := itm_one1 yk yy yt yv
          have hP1 : a + (P ++ [(⟨yk, yy, yt, yv⟩ : Itm)]).length = k + 1 := by simp; omega
          obtain ⟨k1, hk1⟩ : ∃ k1, k + 1 = k1 := ⟨_, rfl⟩
          rw [hk1] at p0 p1 p2 p3 m2 H4 s3h hP1
          have wk : IntKind.i64.wrap ((k : Int) + 1) = (k1 : Int) := by rw [IntKind.wrap_i64]; omega
          have hkn : (k : Int) < (n : Int) := by omega
          have hkn' : k < n := by omega
          have hk1n : (k1 : Int) < (n : Int) := by omega
          have hk1n' : k1 < n := by omega
          have hki2 : (k : Int) < (i1 : Int) := by omega
          have hk1h := Lib.hid hk1
          clear hPQ hPQl s1 s2 HM hk1
          go_upto_region 11 with (fail)
          go_region
          clear q0 q1 q2 q3 p0 p1 p2 p3 m1 m2 a1 a2
          go_wp2
          go_roundw
          case rel =>
            have := hk1h.out
            refine ⟨k1, _, Q, by go_num, hP1, by omega, hPQ2, ?_⟩
            have H5 := H4.out
            rw [s3h.out] at H5
            exact H5
          case measure => have := hk1h.out; simp [intOf]; omega
        | nil =>
          have hki : ¬ (k : Int) < (i1 : Int) := by simp at hPQl; omega
          have hPV : P = V1 := by rw [hPQ.out, List.append_nil]
          subst hPV
          go_wp2
          refine bodyPost_ret (results_none rfl _ _ _) rfl ?_
          refine ⟨rfl, _, hW.out, ?_⟩
          simpa using HM

set_option maxHeartbeats 8000000 in
set_option maxRecDepth 100000 in
theorem sym_last {n cap g a m : Nat} {R : List Value} (hnb : n ≤ 3518437208880) (ham1 : a + 1 < m) : SymOK n cap g R a m (m + 1) := by
  intro A U V D w S hA hU hV hD hm hUa hVa H
  have H0 := St.refl H
  obtain ⟨y, rfl⟩ : ∃ y, V = [y] := by
    match V, hV with
    | [y], _ => exact ⟨y, rfl⟩
    | [], h => simp at h
    | x :: y :: l, h => simp at h
  have hym := hm y (by simp)
  obtain ⟨T, hT⟩ : ∃ T, A ++ (U ++ ([y] ++ D)) = T := ⟨_, rfl⟩
  have hTl : T.length = n := by rw [← hT]; simp; omega
  have hTy : T[m]? = some y := by rw [← hT, ← List.append_assoc, List.getElem?_append_right (by simp; omega)]; simp [hA, hU]
  have hfin : Hid (∀ i, a ≤ i → i ≤ m → (∀ k, a ≤ k → k < i → tmA T k ≤ y.time) → (∀ k, i ≤ k → k < m → y.time < tmA T k) → Mrg U [y] (U.take (i - a) ++ (y :: U.drop (i - a)))) := Lib.hid (by
    intro i h1 h2 h3 h4
    have hmr := mrg_last (y := y) (U1 := U.take (i - a)) (U2 := U.drop (i - a)) (by rw [List.take_append_drop]; exact hUa) (fun v hv => by
      obtain ⟨k, k1, k2, k3, k4⟩ := part_take (E := [y] ++ D) hA hU hv
      rw [hT] at k4
      rw [← k4]
      have := h3 k k1 k2
      omega) (fun v hv => by
      obtain ⟨k, k1, k2, k4⟩ := part_drop (E := [y] ++ D) hA hU h1 hv
      rw [hT] at k4
      rw [← k4]
      exact h4 k k1 k2)
    rwa [List.take_append_drop] at hmr)
  have hmono : Hid (∀ i j, a ≤ i → i ≤ j → j < m → tmA T i ≤ tmA T j) := Lib.hid (by rw [← hT]; exact part_asc hA hU hUa)
  have hTm : ∀ z ∈ T, z.mild := by rw [← hT]; exact hm
  have hT0 := Lib.hid hT
  rw [hT] at H0
  have wa : IntKind.i64.wrap ((m : Int) - (a : Int)) = ((m - a : Nat) : Int) := by rw [IntKind.wrap_i64]; omega
  have wb : IntKind.i64.wrap (((m + 1 : Nat) : Int) - (m : Int)) = 1 := by rw [IntKind.wrap_i64]; omega
  have hma : ¬ ((m - a : Nat) : Int) = 1 := by omega
  obtain ⟨ma, hma0⟩ : ∃ ma, m - a = ma := ⟨_, rfl⟩
  rw [hma0] at wa hma
  clear hma0
  have hma2 : ((ma : Int) == 1) = false := by simp [hma]
  obtain ⟨b, hmm⟩ : ∃ b, m + 1 = b := ⟨_, rfl⟩
  rw [hmm] at wb hD ⊢
  have hmn : m < n := by omega
  clear hT hm hUa hVa H hV
  unfold cmpV
  go_enter Tryz.func207, Tryz.ntmps207
  go_upto_block 5 with (fail)
  go_loopw [14, 15, 16] (fun s u _ wr => ∃ (i j : Nat), s = .int .i64 i ∧ u = .int .i64 j ∧ a ≤ i ∧ i ≤ j ∧ j ≤ m ∧ Hid ((∀ k, a ≤ k → k < i → tmA T k ≤ y.time) ∧ (∀ k, j ≤ k → k < m → y.time < tmA T k)) ∧ St S w wr [Blk g (itms T ++ R).toArray 56]) (fun s u _ _ => (intOf u).toNat - (intOf s).toNat)
  case atStart => exact ⟨a, m, rfl, rfl, Nat.le_refl _, by omega, Nat.le_refl _, Lib.hid ⟨fun k h1 h2 => by omega, fun k h1 h2 => by omega⟩, H0⟩
  case round =>
    clear H0
    obtain ⟨i, j, rfl, rfl, hmi, hij, hjb, hI, HM⟩ := hrel
    by_cases hlt : i < j
    · have hhlt : i ≤ (i + j) / 2 ∧ (i + j) / 2 < j := by omega
      have wh : ((i : Int) + (j : Int)) / 2 = (((i + j) / 2 : Nat) : Int) := by omega
      obtain ⟨h, hh⟩ : ∃ h, (i + j) / 2 = h := ⟨_, rfl⟩
      rw [hh] at hhlt wh
      obtain ⟨z, hz⟩ : ∃ z, T[h]? = some z := ⟨_, List.getElem?_eq_getElem (by omega)⟩
      have kc := clk_cmp y z hym (hTm z (List.mem_of_getElem? hz))
      have hzt := Lib.hid (tmA_of hz)
      have hhn : (h : Int) < (n : Int) := by omega
      have hhn' : h < n := by omega
      have han : (m : Int) < (n : Int) := by omega
      have hhh := Lib.hid hh
      clear hh hfin hT0
      obtain ⟨xk, xy, xt, xv⟩ := y
      obtain ⟨zk, zy, zt, zv⟩ := z
      unfold itmV textV at kc
      simp only at kc hzt hI
      go_upto_region 17 with (fail)
      refine wp_calm (fun w' => St S w w' [Blk g (itms T ++ R).toArray 56]) (by kernel_rfl) (by kernel_rfl) (HM.drew) ?_
      iterate 12 first
        | (apply calm_pass
           · rfl
           intro K hK
           go_simp
           refine hK _ ?_
           clear hK K)
        | (apply calm_step
           · rfl
           · intro w1 h1
             obtain ⟨q0, q1, q2, q3⟩ := blk_itms (h1.blk 0 rfl) hz
             obtain ⟨p0, p1, p2, p3⟩ := blk_itms (h1.blk 0 rfl) hTy
             unfold textV at q1 p1
             simp only at q0 q1 q2 q3 p0 p1 p2 p3
             first
               | (go_simp
                  first
                    | rfl
                    | exact ⟨rfl, h1⟩
                    | (go_at_call 94; with_reducible exact St.callPast (kc w1) h1)
                 )
           intro K hK
           go_simp
           refine hK _ ?_
           clear hK K)
      refine calm_nil ?_
      intro w2 H2
      clear kc HM
      by_cases hlt2 : xt < zt
      · have e3 : (!decide (xt - zt < 0)) = false := by simp; omega
        rw [e3]
        clear e3
        go_wp2
        go_roundw
        case rel =>
          refine ⟨i, h, rfl, by go_num, hmi, by omega, by omega, Lib.hid ⟨hI.out.1, fun k h1 h2 => ?_⟩, H2⟩
          have := hmono.out h k (by omega) h1 h2
          have := hzt.out
          omega
        case measure => simp [intOf]; omega
      · have e3 : (!decide (xt - zt < 0)) = true := by simp; omega
        rw [e3]
        clear e3
        go_wp2
        go_roundw
        case rel =>
          refine ⟨h + 1, j, by go_num, rfl, by omega, by omega, hjb, Lib.hid ⟨fun k h1 h2 => ?_, hI.out.2⟩, H2⟩
          have := hmono.out k h h1 (by omega) (by omega)
          have := hzt.out
          omega
        case measure => simp [intOf]; omega
    · obtain rfl : i = j := by omega
      have hW := Lib.hid (hfin.out i hmi hjb hI.out.1 hI.out.2)
      have hl1 : a + (U.take (i - a)).length = i := by rw [List.length_take]; omega
      have hl2 : i + (U.drop (i - a)).length = m := by rw [List.length_drop]; omega
      have hU12 : U = U.take (i - a) ++ U.drop (i - a) := (List.take_append_drop _ _).symm
      obtain ⟨U1, hU1⟩ : ∃ U1, U.take (i - a) = U1 := ⟨_, rfl⟩
      obtain ⟨U2, hU2⟩ : ∃ U2, U.drop (i - a) = U2 := ⟨_, rfl⟩
      rw [hU1] at hW hU12 hl1
      rw [hU2] at hW hU12 hl2
      have hT2 : T = A ++ (U1 ++ (U2 ++ (y :: ([] ++ D)))) := by rw [← hT0.out, hU12]; simp
      rw [hT2] at HM
      clear hU1 hU2 hI hmono hfin hTm hT0 hym hTy hTl hT2 hU12 hU
      go_upto_block 7 with (fail)
      go_loopw [17] (fun s wr => ∃ (k : Nat) (P Q : List Itm), s = .int .i64 k ∧ i + P.length = k ∧ k ≤ m ∧ Hid (U2 = P ++ Q) ∧ St S w wr [Blk g (itms (A ++ (U1 ++ (P ++ (y :: (Q ++ D))))) ++ R).toArray 56]) (fun s _ => (intOf s).toNat)
      case atStart => exact ⟨m, U2, [], rfl, hl2, by omega, Lib.hid (by simp), HM⟩
      case round =>
        clear HM
        obtain ⟨k, P, Q, rfl, hPk, hk, hPQ, HM⟩ := hrel
        rcases List.eq_nil_or_concat P with rfl | ⟨P, x, rfl⟩
        · obtain rfl : k = i := by simpa using hPk.symm
          have hki : ¬ (k : Int) < (k : Int) := by omega
          have hPV : Q = U2 := by rw [hPQ.out, List.nil_append]
          subst hPV
          go_wp2
          refine bodyPost_ret (results_none rfl _ _ _) rfl ?_
          refine ⟨rfl, _, hW.out, ?_⟩
          simpa using HM
        · rw [List.concat_eq_append] at hPk hPQ HM
          obtain ⟨k0, hk0⟩ : ∃ k0, i + P.length = k0 := ⟨_, rfl⟩
          obtain rfl : k = k0 + 1 := by rw [← hPk, ← hk0]; simp; omega
          have s := swap2 (B := A ++ (U1 ++ P)) (E := Q ++ D) (k := k0) x y (by simp; omega)
          have eT : (A ++ (U1 ++ P)) ++ (x :: y :: (Q ++ D)) = A ++ (U1 ++ ((P ++ [x]) ++ (y :: (Q ++ D)))) := by simp
          have eN := Lib.hid (show (A ++ (U1 ++ P)) ++ (y :: x :: (Q ++ D)) = A ++ (U1 ++ (P ++ (y :: ((x :: Q) ++ D)))) by simp)
          rw [eT] at s
          obtain ⟨s1, s2, _, s3⟩ := s
          rw [eN.out] at s3
          have s3h := Lib.hid s3
          obtain ⟨T', hT'⟩ : ∃ T', A ++ (U1 ++ ((P ++ [x]) ++ (y :: (Q ++ D)))) = T' := ⟨_, rfl⟩
          rw [hT'] at HM s1 s2 s3h
          clear hT' eT s3 eN
          have hPQ2 := Lib.hid (show U2 = P ++ (x :: Q) by rw [hPQ.out]; simp)
          obtain ⟨xk, xy, xt, xv⟩ := x
          obtain ⟨yk, yy, yt, yv⟩ := y
          obtain ⟨⟨q0, q1, q2, q3⟩, ⟨p0, p1, p2, p3⟩, m1, m2, H4⟩ := swap_pack HM s2 s1
          have a1 := itm_one1 xk xy xt xv
          have a2 := itm_one1 yk yy yt yv
          obtain ⟨k1, hk1⟩ : ∃ k1, k0 + 1 = k1 := ⟨_, rfl⟩
          have hk0h := Lib.hid hk0
          rw [hk1] at q0 q1 q2 q3 m1 m2 H4 s3h hk ⊢
          have wk : IntKind.i64.wrap ((k1 : Int) - 1) = (k0 : Int) := by rw [IntKind.wrap_i64]; omega
          have hkn : (k0 : Int) < (n : Int) := by omega
          have hkn' : k0 < n := by omega
          have hk1n : (k1 : Int) < (n : Int) := by omega
          have hk1n' : k1 < n := by omega
          have hki2 : (i : Int) < (k1 : Int) := by omega
          have hk1h := Lib.hid hk1
          clear hPQ hPk s1 s2 HM hk1 hk0
          go_upto_region 23 with (fail)
          go_region
          clear q0 q1 q2 q3 p0 p1 p2 p3 m1 m2 a1 a2
          go_wp2
          go_roundw
          case rel =>
            have := hk1h.out
            refine ⟨k0, P, _, by go_num, hk0h.out, by omega, hPQ2, ?_⟩
            have H5 := H4.out
            rw [s3h.out] at H5
            exact H5
          case measure => have := hk1h.out; simp [intOf]; omega
end
end Go.Proofs.YtiglgfonhdfpmaaGreat
