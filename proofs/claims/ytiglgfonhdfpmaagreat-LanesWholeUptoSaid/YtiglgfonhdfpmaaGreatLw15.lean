import Derived.Test.YtiglgfonhdfpmaaGreatLw1
import Derived.Test.YtiglgfonhdfpmaaGreatLw2
import Derived.Test.YtiglgfonhdfpmaaGreatLw3
import Derived.Test.YtiglgfonhdfpmaaGreatLw4
import Derived.Test.YtiglgfonhdfpmaaGreatLw5
import Derived.Test.YtiglgfonhdfpmaaGreatLw13
import Derived.Test.YtiglgfonhdfpmaaGreatLw14
import Derived.Deep.CutBlock
import Derived.Lib.ItoaNum
import Derived.Lib.AtoiAll
import Derived.Lib.Split
import Derived.Lib.SplitLaws
import Derived.Lib.IndexLaws
import Derived.Lib.CountLaws
/- oper.Run. Conditions: the state and the items fit the machine; so many. -/
set_option linter.unusedVariables false
set_option linter.unusedSimpArgs false
namespace Go.Proofs.YtiglgfonhdfpmaaGreat
open Go.RowKit

theorem results_cttt {P : Program} {fn : Func} {t a1 b1 c1 : Tmp} {ty : TypeId} (h : fn.results = #[.cell t ty, .tmp a1, .tmp b1, .tmp c1]) {tmps : Array Value} {w : World} {b : Nat} {cs : List Value} {d : TypeDesc} (ht : tmps.getD t undef = .pointer (some ⟨b, 0, none⟩)) (hr : w.rangeAt b 0 cs)
    (hu : P.underlying ty = some d) (hd : d.isRow = true) (hi : (P.info? ty).map (·.size) = some cs.length) : (results fn tmps).run P w = .ok (.tuple #[.agg cs.toArray, tmps.getD a1 undef, tmps.getD b1 undef, tmps.getD c1 undef]) w := by
  have h2 := run_loadVar_mid (P := P) w b 0 ty cs d hr hu hd hi
  have h3 : tmps[t]?.getD undef = .pointer (some ⟨b, 0, none⟩) := by simpa using ht
  simp [results, h, h3, asAddr, h2]
/-- What a run hands back, all its own. -/
def RunOk (S : Nat → Prop) (w : World) (r : RunR) (e : Ending) (w' : World) : Prop :=
  ∃ hs ho ms os H, e = .returned (.tuple #[.agg #[.int .i64 r.s.mark, hs], ho, .int .i64 r.n, .int .i64 r.e]) ∧ ms.map (·.p) = r.s.panes ∧ os.map (·.o) = r.outs ∧ (∀ m ∈ ms, Pm.own m ∈ H) ∧ (∀ y ∈ os, Om.own y ∈ H) ∧
    St S w w' [Row 68 8 hs ms.length (encP.all ms), Row 63 10 ho os.length (encO.all os), Pool H]
theorem runs_drop {q : Qry} {l : List Itm} {i : Nat} {x : Itm} (h : l[i]? = some x) (r : RunR) : runsM q (l.drop i) r = if (stepM q r.s x).e = 0 then runsM q (l.drop (i + 1)) ⟨(stepM q r.s x).s, r.outs ++ (stepM q r.s x).outs, r.n + 1, 0⟩ else ⟨r.s, r.outs, r.n, (stepM q r.s x).e⟩ := by
  obtain ⟨hlt, hx⟩ := List.getElem?_eq_some_iff.1 h
  rw [List.drop_eq_getElem_cons hlt, hx, runsM]

set_option maxHeartbeats 8000000 in
set_option maxRecDepth 100000 in
theorem oper_run (q : Qry) (s : Stt) (l : List Itm) {v iv : Value} (w : World) (hv : PnsRO w v s.panes) (hsl : s.panes.length ≤ 1073741824) (hf : ∀ p ∈ s.panes, p.fits) (hi : ItmsRO w iv l) (hil : l.length ≤ 1048576) :
    Calls Tryz.prog 21 #[qyV q, .agg #[.int .i64 s.mark, v], iv] w fun e w' => RunOk (fun _ => False) w (runsM q l ⟨s, [], 0, 0⟩) e w' := by
  obtain ⟨res, hres⟩ : ∃ z, runsM q l ⟨s, [], 0, 0⟩ = z := ⟨_, rfl⟩
  rw [hres]
  have hresh := Lib.hid hres
  clear hres
  have kc := fun w' (hk : Kept (fun _ => False) w w') => oper_copied (hv.later hk) hsl (fun p hp => (hf p hp).2.1)
  obtain ⟨ia, ic, rfl, hic, hifit, hix⟩ := hi
  have hixh := Lib.hid hix
  have hifith := Lib.hid hifit
  have hfh := Lib.hid hf
  obtain ⟨ms0, hm0, hv0, -⟩ := hv
  obtain ⟨va, vc, rfl, -, -⟩ := hv0
  have e0 : ms0.length = s.panes.length := by rw [← hm0, List.length_map]
  rw [e0] at kc ⊢
  clear hm0 e0 hf hifit hix
  have kst := Lib.hid (fun (st : Stt) (x : Itm) (v : Value) w' (hv : PnsRO w' v st.panes) (hl : st.panes.length ≤ 1073741824) (hf : ∀ p ∈ st.panes, p.fits) (hx : x.fits) => oper_step q st x w' hv hl hf hx)
  have hgood := Lib.hid (fun (st : Stt) (x : Itm) (h : (stepM q st x).e = 0) => step_good h)
  have houts := Lib.hid (fun (st : Stt) (x : Itm) => step_outs q st x)
  obtain ⟨SM, hSM⟩ : ∃ z : Stt → Itm → StepR, z = stepM q := ⟨_, rfl⟩
  have hSMh := Lib.hid hSM
  clear hSM
  obtain ⟨mk, ps⟩ := s
  simp only at kc hsl hfh ⊢
  unfold qyV qyC at kst
  unfold qyV qyC
  have H1 : St (fun _ => False) w _ [_] := (St.nil _ w).allocAt rfl #[.int .i64 q.kind, .int .i64 q.size, .int .i64 q.slide, .int .i64 q.late, .int .i64 q.agg, .int .i64 q.k] 23
  have H2 : St (fun _ => False) w _ [_, _] := H1.allocAt (B := w.heap.size + 1) (Array.size_push _) #[.int .i64 mk, .slice va ps.length vc] 45
  have H3 : St (fun _ => False) w _ [_, _, _] := H2.allocAt (B := w.heap.size + 1 + 1) (by simp [Array.size_push]) #[.int .i64 0, .slice none 0 0] 45
  go_enter Tryz.func21, Tryz.ntmps21
  go_upto_region 2 with (fail)
  obtain ⟨qb, hqb⟩ : ∃ b, w.heap.size = b := ⟨_, rfl⟩
  obtain ⟨sb, hsb⟩ : ∃ b, qb + 1 = b := ⟨_, rfl⟩
  obtain ⟨rb, hrb⟩ : ∃ b, sb + 1 = b := ⟨_, rfl⟩
  simp only [hqb, hsb, hrb] at H3 ⊢
  obtain ⟨w1, hw1⟩ : ∃ z, ((w.alloc (.cells #[.int .i64 q.kind, .int .i64 q.size, .int .i64 q.slide, .int .i64 q.late, .int .i64 q.agg, .int .i64 q.k] 23)).alloc (.cells #[.int .i64 mk, .slice va ps.length vc] 45)).alloc (.cells #[.int .i64 0, .slice none 0 0] 45) = z := ⟨_, rfl⟩
  rw [hw1] at H3
  rw [hw1]
  have H5 : St (fun _ => False) w w1 [Blk sb #[.int .i64 mk, .slice va ps.length vc] 45, Blk rb #[.int .i64 0, .slice none 0 0] 45, Blk qb #[.int .i64 q.kind, .int .i64 q.size, .int .i64 q.slide, .int .i64 q.late, .int .i64 q.agg, .int .i64 q.k] 23] := H3.pick [1, 0, 2]
  have hqbh := Lib.hid hqb
  clear hw1 hqb hsb hrb H1 H2 H3
  refine wp_script_tail 5 [(0, false), (1, false), (2, false), (3, false), (4, true)] (Fam fun w' => St (fun _ => False) w w' [Blk sb #[.int .i64 mk, .slice va ps.length vc] 45]) (fun w' => St (fun _ => False) w w' [Blk sb #[.int .i64 mk, .slice va ps.length vc] 45, Blk rb #[.int .i64 0, .slice none 0 0] 45, Blk qb #[.int .i64 q.kind, .int .i64 q.size, .int .i64 q.slide, .int .i64 q.late, .int .i64 q.agg, .int .i64 q.k] 23]) (by kernel_rfl) (by rfl) (by kernel_rfl) (by kernel_rfl) H5.drew (Fam.st (fun _ h => h.pick [0])) ?_
  iterate 4 first
    | (apply script_pass
       · rfl
       · rfl
       intro K hK
       go_simp
       refine hK _ ?_
       clear hK K)
    | (apply script_step
       · rfl
       · rfl
       · intro I hI w1 h1'
         have h1 := hI.2 _ h1'
         have c0 := h1.cell 0 0 rfl rfl
         have c1 := h1.cell 0 1 rfl rfl
         first
           | (go_simp
              first
                | rfl
                | exact ⟨rfl, h1'⟩
             )
       intro K hK
       go_simp
       refine hK _ ?_
       clear hK K)
  refine script_alone rfl rfl ?_
  intro V hV w1 h1
  go_simp
  refine (kc w1 h1.kept).mono ?_
  rintro e w2 ⟨cv, ms, rfl, hms, G1⟩
  have hmsh := Lib.hid hms
  clear hms
  obtain ⟨ca, cc, rfl, -, -⟩ := slice_form' (G1.row 0 rfl)
  have HX : St (fun _ => False) w w2 [Blk sb #[.int .i64 mk, .slice va ps.length vc] 45, Row 68 8 (.slice ca ms.length cc) ms.length (encP.all ms), Pool (ms.map Pm.own), Blk rb #[.int .i64 0, .slice none 0 0] 45, Blk qb #[.int .i64 q.kind, .int .i64 q.size, .int .i64 q.slide, .int .i64 q.late, .int .i64 q.agg, .int .i64 q.k] 23] := (h1.call0 G1).pick [2, 0, 1, 3, 4]
  refine ⟨_, rfl, fun w' => St (fun _ => False) w w' [Blk sb #[.int .i64 mk, .slice va ps.length vc] 45, Row 68 8 (.slice ca ms.length cc) ms.length (encP.all ms), Pool (ms.map Pm.own), Blk rb #[.int .i64 0, .slice none 0 0] 45, Blk qb #[.int .i64 q.kind, .int .i64 q.size, .int .i64 q.slide, .int .i64 q.late, .int .i64 q.agg, .int .i64 q.k] 23], hV _ _ _ (fun _ h => h) (Fam.st (fun _ h => h.pick [0])) ?_, HX⟩
  intro K hK
  go_simp
  refine hK _ ?_
  clear hK K hV V
  clear HX h1 G1 w1 w2
  refine script_nil ?_
  intro w5 H8
  simp only [List.drop_succ_cons, List.drop_zero]
  have hmsh := (by assumption : Hid (ms.map (·.p) = ps))
  have r0 := H8.free 0 0 rfl
  have r1 := H8.free 0 1 rfl
  have x0 := H8.cell 0 0 rfl rfl
  have x1 := H8.cell 0 1 rfl rfl
  have H8b := (H8.set 0 rfl 0 (.int .i64 mk)).set 0 rfl 1 (.slice ca ms.length cc)
  clear H5 kc
  go_upto_block 1 with (fail)
  obtain ⟨w6, hw6⟩ : ∃ z, (w5.setCell ⟨sb, 0, none⟩ (.int .i64 mk)).setCell ⟨sb, 1, none⟩ (.slice ca ms.length cc) = z := ⟨_, rfl⟩
  rw [hw6] at H8b
  try rw [hw6]
  have H9 : St (fun _ => False) w w6 [Blk sb #[.int .i64 mk, .slice ca ms.length cc] 45, Row 68 8 (.slice ca ms.length cc) ms.length (encP.all ms), Row 63 10 (.slice none 0 0) 0 (encO.all []), Pool (ms.map Pm.own), Blk rb #[.int .i64 0, .slice none 0 0] 45, Blk qb #[.int .i64 q.kind, .int .i64 q.size, .int .i64 q.slide, .int .i64 q.late, .int .i64 q.agg, .int .i64 q.k] 23] := (St.row_nil (l := [Blk sb #[.int .i64 mk, .slice ca ms.length cc] 45, _, _, _, _]) H8b 63 10).pick [1, 2, 0, 3, 4, 5]
  clear H8 H8b hw6 r0 r1 x0 x1
  go_loopw [10, 11, 12, 13, 14, 15, 24] (fun u _ _ _ _ _ j wr => ∃ (i : Nat) (st : Stt) (O : List Ot) (ms : List Pm) (os : List Om) (HH : List (Value × List Int)) (pa : Option Addr) (pc : Nat) (oa : Option Addr) (oc : Nat), i ≤ l.length ∧ u = .slice oa os.length oc ∧ j = .int .i64 i ∧ Hid (runsM q (l.drop i) ⟨st, O, i, 0⟩ = res) ∧ Hid (ms.map (·.p) = st.panes ∧ os.map (·.o) = O ∧ (∀ m ∈ ms, Pm.own m ∈ HH) ∧ (∀ y ∈ os, Om.own y ∈ HH) ∧ st.panes.length ≤ 1073741824 ∧ (∀ p ∈ st.panes, p.fits)) ∧ os.length ≤ 256 * i ∧ St (fun _ => False) w wr [Blk sb #[.int .i64 st.mark, .slice pa ms.length pc] 45, Row 68 8 (.slice pa ms.length pc) ms.length (encP.all ms), Row 63 10 (.slice oa os.length oc) os.length (encO.all os), Pool HH, Blk rb #[.int .i64 0, .slice none 0 0] 45, Blk qb #[.int .i64 q.kind, .int .i64 q.size, .int .i64 q.slide, .int .i64 q.late, .int .i64 q.agg, .int .i64 q.k] 23]) (fun _ _ _ _ _ _ j _ => l.length - (intOf j).toNat)
  case atStart => exact ⟨0, ⟨mk, ps⟩, [], ms, [], ms.map Pm.own, ca, cc, none, 0, Nat.zero_le _, rfl, rfl, Lib.hid (by rw [List.drop_zero]; exact hresh.out), Lib.hid ⟨hmsh.out, rfl, fun m hm => List.mem_map_of_mem hm, fun y hy => (by cases hy), hsl, hfh.out⟩, by simp, H9⟩
  case round =>
    clear H9 hmsh
    obtain ⟨i, st, O, ms1, os, HH, pa, pc, oa, oc, hi, rfl, rfl, hrun, hall, hos, HM⟩ := hrel
    by_cases hlt : i < l.length
    · obtain ⟨bi, oi, rfl, hbi, hcx⟩ := hixh.out (by intro e; rw [e] at hlt; simp at hlt)
      obtain ⟨x, hx⟩ : ∃ x, l[i]? = some x := ⟨_, List.getElem?_eq_getElem hlt⟩
      have hxf := hifith.out x (List.mem_of_getElem? hx)
      have hrd := runs_drop (q := q) hx ⟨st, O, i, 0⟩
      simp only at hrd
      have hst := kst.out st x (.slice pa ms1.length pc)
      have hgd := hgood.out st x
      have hou := houts.out st x
      obtain ⟨R, hR⟩ : ∃ z, stepM q st x = z := ⟨_, rfl⟩
      rw [hR] at hst hrd hgd hou
      clear hR
      have hrdh := Lib.hid hrd
      have hgdh := Lib.hid hgd
      have hrunh := hrun
      obtain ⟨hms1, hos1, hmo1, hoo1, hpl1, hpf1⟩ := hall.out
      have hms1h := Lib.hid hms1
      have hos1h := Lib.hid hos1
      have hmo1h := Lib.hid hmo1
      have hoo1h := Lib.hid hoo1
      have hro : ∀ w' (L : List SP), St (fun _ => False) w w' L → ∀ a b : Nat, L[a]? = some (Row 68 8 (.slice pa ms1.length pc) ms1.length (encP.all ms1)) → L[b]? = some (Pool HH) → PnsRO w' (.slice pa ms1.length pc) st.panes := fun w' L h a b ha hb => by
        rw [← hms1h.out]
        exact h.pnsRO a b ha hb hmo1h.out
      have hroh := Lib.hid hro
      have kstp := Lib.hid (fun w' hv => hst w' hv hpl1 hpf1 hxf)
      obtain ⟨x0, x1, x2, x3⟩ := itm_cells (hcx i x hx) (HM.kept.block bi hbi id)
      clear hrd hgd hrun hall hms1 hos1 hmo1 hoo1 hpl1 hpf1 hro hcx hst hx hxf
      obtain ⟨smk, hsmk⟩ : ∃ z, st.mark = z := ⟨_, rfl⟩
      rw [hsmk] at HM kstp
      have hsmkh := Lib.hid hsmk
      clear hsmk
      obtain ⟨xk, xy, xt, xv⟩ := x
      unfold textV at x1
      unfold itmV textV at kstp
      simp only at x0 x1 x2 x3 kstp
      have HA : St (fun _ => False) w _ (_ :: _) := HM.allocAt rfl #[.int .i64 xk, .string ⟨xy.toArray⟩, .int .i64 xt, .int .i64 xv] 56
      go_upto_region 6 with (fail)
      obtain ⟨wb, hwb⟩ : ∃ wb, wr.alloc (.cells #[.int .i64 xk, .string ⟨xy.toArray⟩, .int .i64 xt, .int .i64 xv] 56) = wb := ⟨_, rfl⟩
      obtain ⟨xb, hxb⟩ : ∃ xb, wr.heap.size = xb := ⟨_, rfl⟩
      rw [hwb, hxb] at HA
      try rw [hwb]
      try simp only [hxb]
      have HB : St (fun _ => False) w wb [Blk xb #[.int .i64 xk, .string ⟨xy.toArray⟩, .int .i64 xt, .int .i64 xv] 56, Blk sb #[.int .i64 smk, .slice pa ms1.length pc] 45, Row 68 8 (.slice pa ms1.length pc) ms1.length (encP.all ms1), Row 63 10 (.slice oa os.length oc) os.length (encO.all os), Pool HH, Blk rb #[.int .i64 0, .slice none 0 0] 45, Blk qb #[.int .i64 q.kind, .int .i64 q.size, .int .i64 q.slide, .int .i64 q.late, .int .i64 q.agg, .int .i64 q.k] 23] := HA
      clear hwb hxb x0 x1 x2 x3 HM HA
      have d0 := HB.cell 6 0 rfl rfl
      have d1 := HB.cell 6 1 rfl rfl
      have d2 := HB.cell 6 2 rfl rfl
      have d3 := HB.cell 6 3 rfl rfl
      have d4 := HB.cell 6 4 rfl rfl
      have d5 := HB.cell 6 5 rfl rfl
      have s0 := HB.cell 1 0 rfl rfl
      have s1 := HB.cell 1 1 rfl rfl
      have y0 := HB.cell 0 0 rfl rfl
      have y1 := HB.cell 0 1 rfl rfl
      have y2 := HB.cell 0 2 rfl rfl
      have y3 := HB.cell 0 3 rfl rfl
      obtain ⟨⟨mk2, ps2⟩, O2, e2⟩ := R
      simp only at hrdh hgdh hou
      go_upto_region 7 with (go_at_call 27; go_must (refine (kstp.out wb (hroh.out wb _ HB 2 4 rfl rfl)).mono ?_; rintro e w3 ⟨hs, ho, ms2, os2, H2, rfl, hm2, ho2, hmo2, hoo2, G1⟩; have hm2h := Lib.hid hm2; have ho2h := Lib.hid ho2; have hmo2h := Lib.hid hmo2; have hoo2h := Lib.hid hoo2; clear hm2 ho2 hmo2 hoo2; obtain ⟨p2, c2, rfl, -, -⟩ := slice_form' (G1.row 0 rfl); obtain ⟨o2, k2, rfl, -, -⟩ := slice_form' (G1.row 1 rfl); have HC := (HB.call0 G1).allocAt rfl #[.int .i64 mk2, .slice p2 ms2.length c2] 45))
      obtain ⟨w4, hw4⟩ : ∃ z, w3.alloc (.cells #[.int .i64 mk2, .slice p2 ms2.length c2] 45) = z := ⟨_, rfl⟩
      obtain ⟨nb, hnb⟩ : ∃ z, w3.heap.size = z := ⟨_, rfl⟩
      rw [hw4, hnb] at HC
      try rw [hw4]
      try simp only [hnb]
      have HD : St (fun _ => False) w w4 [Blk nb #[.int .i64 mk2, .slice p2 ms2.length c2] 45, Row 68 8 (.slice p2 ms2.length c2) ms2.length (encP.all ms2), Row 63 10 (.slice o2 os2.length k2) os2.length (encO.all os2), Pool H2, Blk xb #[.int .i64 xk, .string ⟨xy.toArray⟩, .int .i64 xt, .int .i64 xv] 56, Blk sb #[.int .i64 smk, .slice pa ms1.length pc] 45, Row 68 8 (.slice pa ms1.length pc) ms1.length (encP.all ms1), Row 63 10 (.slice oa os.length oc) os.length (encO.all os), Pool HH, Blk rb #[.int .i64 0, .slice none 0 0] 45, Blk qb #[.int .i64 q.kind, .int .i64 q.size, .int .i64 q.slide, .int .i64 q.late, .int .i64 q.agg, .int .i64 q.k] 23] := HC
      clear hw4 hnb HC HB G1 d0 d1 d2 d3 d4 d5 s0 s1 y0 y1 y2 y3 kstp hroh
      by_cases he : e2 = 0
      · subst he
        have hrd2 : runsM q (l.drop i) ⟨st, O, i, 0⟩ = runsM q (l.drop (i + 1)) ⟨⟨mk2, ps2⟩, O ++ O2, i + 1, 0⟩ := by rw [hrdh.out, if_pos rfl]
        have hrd2h := Lib.hid hrd2
        obtain ⟨-, -, hgg, hgl⟩ := hgdh.out rfl
        have hggh := Lib.hid hgg
        have ho2l : os2.length ≤ 256 := by
          have := hou
          rw [← ho2h.out, List.length_map] at this
          exact this
        clear hrd2 hgg hrdh hgdh hou
        go_upto_region 9 with (fail)
        refine wp_script [(0, false), (1, false), (2, false), (3, true), (4, true), (5, false)] (Fam fun w' => St (fun _ => False) w w' [Blk nb #[.int .i64 mk2, .slice p2 ms2.length c2] 45]) (fun w' => St (fun _ => False) w w' [Blk nb #[.int .i64 mk2, .slice p2 ms2.length c2] 45, Row 68 8 (.slice p2 ms2.length c2) ms2.length (encP.all ms2), Row 63 10 (.slice o2 os2.length k2) os2.length (encO.all os2), Pool H2, Blk xb #[.int .i64 xk, .string ⟨xy.toArray⟩, .int .i64 xt, .int .i64 xv] 56, Blk sb #[.int .i64 smk, .slice pa ms1.length pc] 45, Row 68 8 (.slice pa ms1.length pc) ms1.length (encP.all ms1), Row 63 10 (.slice oa os.length oc) os.length (encO.all os), Pool HH, Blk rb #[.int .i64 0, .slice none 0 0] 45, Blk qb #[.int .i64 q.kind, .int .i64 q.size, .int .i64 q.slide, .int .i64 q.late, .int .i64 q.agg, .int .i64 q.k] 23]) (by kernel_rfl) (by rfl) (by kernel_rfl) (by kernel_rfl) HD.drew (Fam.st (fun _ h => h.pick [0])) ?_
        iterate 3 first
          | (apply script_pass
             · rfl
             · rfl
             intro K hK
             go_simp
             refine hK _ ?_
             clear hK K)
          | (apply script_step
             · rfl
             · rfl
             · intro I hI w1 h1'
               have h1 := hI.2 _ h1'
               have c0 := h1.cell 0 0 rfl rfl
               have c1 := h1.cell 0 1 rfl rfl
               first
                 | (go_simp
                    first
                      | rfl
                      | exact ⟨rfl, h1'⟩
                   )
             intro K hK
             go_simp
             refine hK _ ?_
             clear hK K)
        refine script_alone rfl rfl ?_
        intro V hV w1 h1
        have hro2 := Enc.RO.cells (Enc.own encO (h1.row 2 rfl) rfl)
        obtain ⟨ro1, ro2, ro3, ro4, ro5⟩ := hro2
        cases ro3
        refine h1.came_append 7 rfl (.tmp 44) (.tmp 45) 46 rfl Tryz.underlying46 Tryz.info63 (by decide) rfl (encO.all os2) rfl (encO.all_len os2) (fun e => by rw [ro4 e]; rfl) (fun ad e j u hj => ro5 ad e j u hj) (encO.all_one1 os2) (by omega) ?_
        intro v' w2 HX
        obtain ⟨na, nc, rfl, -, -⟩ := slice_form' (HX.row 7 rfl)
        have HY : St (fun _ => False) w w2 [Blk nb #[.int .i64 mk2, .slice p2 ms2.length c2] 45, Row 68 8 (.slice p2 ms2.length c2) ms2.length (encP.all ms2), Row 63 10 (.slice o2 os2.length k2) os2.length (encO.all os2), Pool H2, Blk xb #[.int .i64 xk, .string ⟨xy.toArray⟩, .int .i64 xt, .int .i64 xv] 56, Blk sb #[.int .i64 smk, .slice pa ms1.length pc] 45, Row 68 8 (.slice pa ms1.length pc) ms1.length (encP.all ms1), Row 63 10 (.slice na (os.length + os2.length) nc) (os.length + os2.length) (encO.all os ++ encO.all os2), Pool HH, Blk rb #[.int .i64 0, .slice none 0 0] 45, Blk qb #[.int .i64 q.kind, .int .i64 q.size, .int .i64 q.slide, .int .i64 q.late, .int .i64 q.agg, .int .i64 q.k] 23] := HX
        refine ⟨fun w' => St (fun _ => False) w w' [Blk nb #[.int .i64 mk2, .slice p2 ms2.length c2] 45, Row 68 8 (.slice p2 ms2.length c2) ms2.length (encP.all ms2), Row 63 10 (.slice o2 os2.length k2) os2.length (encO.all os2), Pool H2, Blk xb #[.int .i64 xk, .string ⟨xy.toArray⟩, .int .i64 xt, .int .i64 xv] 56, Blk sb #[.int .i64 smk, .slice pa ms1.length pc] 45, Row 68 8 (.slice pa ms1.length pc) ms1.length (encP.all ms1), Row 63 10 (.slice na (os.length + os2.length) nc) (os.length + os2.length) (encO.all os ++ encO.all os2), Pool HH, Blk rb #[.int .i64 0, .slice none 0 0] 45, Blk qb #[.int .i64 q.kind, .int .i64 q.size, .int .i64 q.slide, .int .i64 q.late, .int .i64 q.agg, .int .i64 q.k] 23], hV _ _ _ (fun _ h => h) (Fam.st (fun _ h => h.pick [0])) ?_, HY⟩
        intro K hK
        go_simp
        refine hK _ ?_
        clear hK K hV V
        clear HY HX h1 ro4 ro5 w1 w2
        refine script_alone rfl rfl ?_
        intro V hV w1 h1
        have r0 := h1.free 5 0 rfl
        have r1 := h1.free 5 1 rfl
        have z0 := h1.cell 5 0 rfl rfl
        have z1 := h1.cell 5 1 rfl rfl
        have HY := (h1.set 5 rfl 0 (.int .i64 mk2)).set 5 rfl 1 (.slice p2 ms2.length c2)
        go_simp
        refine ⟨fun w' => St (fun _ => False) w w' [Blk nb #[.int .i64 mk2, .slice p2 ms2.length c2] 45, Row 68 8 (.slice p2 ms2.length c2) ms2.length (encP.all ms2), Row 63 10 (.slice o2 os2.length k2) os2.length (encO.all os2), Pool H2, Blk xb #[.int .i64 xk, .string ⟨xy.toArray⟩, .int .i64 xt, .int .i64 xv] 56, Blk sb #[.int .i64 mk2, .slice p2 ms2.length c2] 45, Row 68 8 (.slice pa ms1.length pc) ms1.length (encP.all ms1), Row 63 10 (.slice na (os.length + os2.length) nc) (os.length + os2.length) (encO.all os ++ encO.all os2), Pool HH, Blk rb #[.int .i64 0, .slice none 0 0] 45, Blk qb #[.int .i64 q.kind, .int .i64 q.size, .int .i64 q.slide, .int .i64 q.late, .int .i64 q.agg, .int .i64 q.k] 23], hV _ _ _ (fun _ h => h) (Fam.st (fun _ h => h.pick [0])) ?_, HY⟩
        intro K hK
        go_simp
        refine hK _ ?_
        clear hK K hV V
        clear HY h1 w1 r0 r1 z0 z1
        iterate 1 first
          | (apply script_pass
             · rfl
             · rfl
             intro K hK
             go_simp
             refine hK _ ?_
             clear hK K)
          | (apply script_step
             · rfl
             · rfl
             · intro I hI w1 h1'
               have h1 := hI.2 _ h1'
               first
                 | (go_simp
                    first
                      | rfl
                      | exact ⟨rfl, h1'⟩
                   )
             intro K hK
             go_simp
             refine hK _ ?_
             clear hK K)
        refine script_nil ?_
        intro w9 H9
        have HJ := (St.pool_join (H9.pick [3, 8, 5, 1, 7, 9, 10])).pick [1, 2, 3, 0, 4, 5]
        go_wp2
        go_roundw
        case rel =>
          refine ⟨i + 1, ⟨mk2, ps2⟩, O ++ O2, ms2, os ++ os2, H2 ++ HH, p2, c2, na, nc, by omega, by rw [List.length_append], by first | rfl | go_num, Lib.hid (by rw [← hrunh.out, hrd2h.out]), Lib.hid ⟨hm2h.out, by rw [List.map_append, hos1h.out, ho2h.out], fun m hm => List.mem_append_left _ (hmo2h.out m hm), ?_, Nat.le_trans hgl (by decide), good_fits hggh.out⟩, by rw [List.length_append]; omega, ?_⟩
          · intro y hy
            rcases List.mem_append.1 hy with hy | hy
            · exact List.mem_append_right _ (hoo1h.out y hy)
            · exact List.mem_append_left _ (hoo2h.out y hy)
          · rw [List.length_append, Enc.all_app]
            exact HJ
        case measure => simp [intOf]; omega
      · have hrd2 : res = ⟨st, O, i, e2⟩ := by rw [← hrunh.out, hrdh.out, if_neg he]
        have hfres := Lib.hid hrd2
        clear hrd2 hrdh hgdh hou
        have s0 := HD.cell 5 0 rfl rfl
        have s1 := HD.cell 5 1 rfl rfl
        have r0 := HD.free 9 0 rfl
        have r1 := HD.free 9 1 rfl
        have z0 := HD.cell 9 0 rfl rfl
        have z1 := HD.cell 9 1 rfl rfl
        have HE := (HD.set 9 rfl 0 (.int .i64 smk)).set 9 rfl 1 (.slice pa ms1.length pc)
        go_wp2
        try simp only [Exit.inBlock, Exit.then]
        refine bodyPost_ret (results_cttt rfl rfl (blk_range (cs := [.int .i64 smk, .slice pa ms1.length pc]) (HE.blk 9 rfl)) Tryz.underlying45 rfl (by kernel_rfl)) rfl ?_
        rw [hfres.out]
        exact ⟨.slice pa ms1.length pc, .slice oa os.length oc, ms1, os, HH, by rw [hsmkh.out]; rfl, hms1h.out, hos1h.out, hmo1h.out, hoo1h.out, HE.pick [6, 7, 8]⟩
    · obtain rfl : i = l.length := by omega
      have hres2 : ⟨st, O, l.length, 0⟩ = res := by rw [← hrun.out, List.drop_length]; rfl
      have hfres := Lib.hid hres2
      obtain ⟨hms1, hos1, hmo1, hoo1, -, -⟩ := hall.out
      have hms1h := Lib.hid hms1
      have hos1h := Lib.hid hos1
      have hmo1h := Lib.hid hmo1
      have hoo1h := Lib.hid hoo1
      clear hres2 hrun hall hms1 hos1 hmo1 hoo1
      obtain ⟨smk, hsmk⟩ : ∃ z, st.mark = z := ⟨_, rfl⟩
      rw [hsmk] at HM
      have hsmkh := Lib.hid hsmk
      clear hsmk
      have s0 := HM.cell 0 0 rfl rfl
      have s1 := HM.cell 0 1 rfl rfl
      have r0 := HM.free 4 0 rfl
      have r1 := HM.free 4 1 rfl
      have z0 := HM.cell 4 0 rfl rfl
      have z1 := HM.cell 4 1 rfl rfl
      have HE := (HM.set 4 rfl 0 (.int .i64 smk)).set 4 rfl 1 (.slice pa ms1.length pc)
      go_wp2
      try simp only [Exit.inBlock, Exit.then]
      refine bodyPost_ret (results_cttt rfl rfl (blk_range (cs := [.int .i64 smk, .slice pa ms1.length pc]) (HE.blk 4 rfl)) Tryz.underlying45 rfl (by kernel_rfl)) rfl ?_
      rw [← hfres.out]
      exact ⟨.slice pa ms1.length pc, .slice oa os.length oc, ms1, os, HH, by rw [hsmkh.out]; rfl, hms1h.out, hos1h.out, hmo1h.out, hoo1h.out, HE.pick [1, 2, 3]⟩

end Go.Proofs.YtiglgfonhdfpmaaGreat

/- law10's first. (Printed by a program of mine.) -/
set_option linter.unusedVariables false
set_option linter.unusedSimpArgs false
namespace Go.Proofs.YtiglgfonhdfpmaaGreat
open Go.RowKit

def e10 : Itm := ⟨1, [97], 3, 5⟩
def p10 : Ot := ⟨true, e10, wd000, 0, []⟩
theorem new_below (w : World) : Calls Tryz.prog 22 #[] w fun e w' => e = .returned (.agg #[.int .i64 (-1), .slice none 0 0]) ∧ Below w.heap.size w w' := by
  refine (oper_new w).mono ?_
  rintro e w' ⟨rfl, H⟩
  exact ⟨rfl, H.below (Nat.le_refl _) (fun _ h => h.elim)⟩

end Go.Proofs.YtiglgfonhdfpmaaGreat

/- Queries in rows; lanes.New. Condition: so many. (Printed by a program of mine.) -/
set_option linter.unusedVariables false
set_option linter.unusedSimpArgs false
namespace Go.Proofs.YtiglgfonhdfpmaaGreat
open Go.RowKit

def encQ : Enc Qry where
  cells q := [.int .i64 q.kind, .int .i64 q.size, .int .i64 q.slide, .int .i64 q.late, .int .i64 q.agg, .int .i64 q.k]
  k := 6
  len _ := rfl
  pos := by decide
  one m v hv := by
    simp only [List.mem_cons, List.not_mem_nil, or_false] at hv
    rcases hv with rfl | rfl | rfl | rfl | rfl | rfl <;> rfl
theorem qr_cells {w w' : World} {b o i : Nat} {x : Qry} (h : w.rangeAt b (o + i * 6) (encQ.cells x)) (hb : w'.heap[b]? = w.heap[b]?) :
    w'.cell? ⟨b, o + i * 6, none⟩ = some (.int .i64 x.kind) ∧ w'.cell? ⟨b, o + i * 6 + 1, none⟩ = some (.int .i64 x.size) ∧ w'.cell? ⟨b, o + i * 6 + 2, none⟩ = some (.int .i64 x.slide) ∧ w'.cell? ⟨b, o + i * 6 + 3, none⟩ = some (.int .i64 x.late) ∧ w'.cell? ⟨b, o + i * 6 + 4, none⟩ = some (.int .i64 x.agg) ∧ w'.cell? ⟨b, o + i * 6 + 5, none⟩ = some (.int .i64 x.k) :=
  ⟨Enc.at (E := encQ) h hb (j := 0) rfl, Enc.at (E := encQ) h hb (j := 1) rfl, Enc.at (E := encQ) h hb (j := 2) rfl, Enc.at (E := encQ) h hb (j := 3) rfl, Enc.at (E := encQ) h hb (j := 4) rfl, Enc.at (E := encQ) h hb (j := 5) rfl⟩
def newB (qs : List Qry) : Bool := decide (1 ≤ qs.length) && decide (qs.length ≤ 16) && qs.all (·.right)
def lmNew (q : Qry) : Lm := ⟨q, -1, [], none, 0, [], none, 0⟩
theorem new_parts {S : Nat → Prop} {w0 w : World} (H : List (Value × List Int)) : ∀ (l : List Qry) {L : List SP}, St S w0 w L → St S w0 w (Many LmP (l.map lmNew) :: Many LmO (l.map lmNew) :: L)
  | [], _, h => Many.nil (Many.nil h)
  | q :: l, L, h => by
    have h1 := new_parts H l h
    have h2 : St S w0 w (LmO (lmNew q) :: LmP (lmNew q) :: Many LmP (l.map lmNew) :: Many LmO (l.map lmNew) :: L) := (h1.row_nil 68 8).row_nil 63 10
    have h3 : St S w0 w (Many LmP [lmNew q] :: Many LmP (l.map lmNew) :: LmO (lmNew q) :: Many LmO (l.map lmNew) :: L) := Many.one (h2.perm ((List.Perm.swap _ _ _).trans (((List.Perm.swap _ _ _)).cons _)))
    have h4 := Many.app h3
    have h5 : St S w0 w (Many LmO [lmNew q] :: Many LmO (l.map lmNew) :: Many LmP ([lmNew q] ++ l.map lmNew) :: L) := Many.one (h4.perm ((List.Perm.swap _ _ _).trans (((List.Perm.swap _ _ _)).cons _)))
    exact (Many.app h5).perm (List.Perm.swap _ _ _)
def NewOk (qs : List Qry) (w : World) (e : Ending) (w' : World) : Prop :=
  if newB qs = true then ∃ b, e = .returned (.tuple #[.pointer (some ⟨b, 0, none⟩), .int .i64 0]) ∧ St (fun _ => False) w w' [LnsAt b (qs.map Ln.new) []] else e = .returned (.tuple #[.pointer none, .int .i64 2]) ∧ Below w.heap.size w w'

set_option maxHeartbeats 4000000 in
set_option maxRecDepth 100000 in
theorem lns_new {v : Value} {qs : List Qry} (w : World) (hv : encQ.RO w v qs) (hl : qs.length ≤ 1073741824) : Calls Tryz.prog 33 #[v] w (NewOk qs w) := by
  have hok : newB qs = true → ∀ (b : Nat) (la : Option Addr) (lc : Nat) w', St (fun _ => False) w w' [Blk b #[.slice la qs.length lc, .slice none 0 0] 153, Row 155 9 (.slice la qs.length lc) qs.length (encL.all (qs.map lmNew))] → NewOk qs w (.returned (.tuple #[.pointer (some ⟨b, 0, none⟩), .int .i64 0])) w' := fun h b la lc w' H => by
    unfold NewOk
    rw [if_pos h]
    refine ⟨b, rfl, ?_⟩
    have H1 := new_parts [] qs ((H.pool_nil).row_nil 56 4)
    refine LnsAt.mk (ms := qs.map lmNew) (H := []) ?_ ?_ (la := la) (lc := lc) (ia := none) (ic := 0) ?_
    · rw [List.map_map]; rfl
    · intro y hy
      obtain ⟨q, _, rfl⟩ := List.mem_map.1 hy
      exact ⟨fun m hm => (by cases hm), fun m hm => (by cases hm)⟩
    · rw [List.length_map]
      exact H1.pick [4, 5, 2, 0, 1, 3]
  have hbad : newB qs = false → ∀ w', St (fun _ => False) w w' [] → NewOk qs w (.returned (.tuple #[.pointer none, .int .i64 2])) w' := fun h w' H => by
    unfold NewOk
    rw [if_neg (by rw [h]; decide)]
    exact ⟨rfl, H.below (Nat.le_refl _) (fun _ h => h.elim)⟩
  obtain ⟨fin, hfin⟩ : ∃ z, NewOk qs w = z := ⟨_, rfl⟩
  rw [hfin] at hok hbad ⊢
  clear hfin
  have hokh := Lib.hid hok
  have hbadh := Lib.hid hbad
  obtain ⟨ad, cap, rfl, -, hic⟩ := id hv
  have hich := Lib.hid hic
  clear hok hbad hic hv
  by_cases h1 : qs.length < 1
  · have z1 : decide ((qs.length : Int) < 1) = true := by simpa using (by omega : (qs.length : Int) < 1)
    have hb := hbadh.out (by unfold newB; rw [decide_eq_false (by omega)]; rfl) w (St.nil _ w)
    go_enter Tryz.func33, Tryz.ntmps33
    go_wp2
    exact hb
  by_cases h2 : 16 < qs.length
  · have z1 : decide ((qs.length : Int) < 1) = false := by simpa using (by omega : ¬ (qs.length : Int) < 1)
    have z2 : decide ((16 : Int) < (qs.length : Int)) = true := by simpa using (by omega : (16 : Int) < (qs.length : Int))
    have hb := hbadh.out (by unfold newB; rw [decide_eq_false (p := qs.length ≤ 16) (by omega), Bool.and_false]; rfl) w (St.nil _ w)
    go_enter Tryz.func33, Tryz.ntmps33
    go_wp2
    exact hb
  have z1 : decide ((qs.length : Int) < 1) = false := by simpa using (by omega : ¬ (qs.length : Int) < 1)
  have z2 : decide ((16 : Int) < (qs.length : Int)) = false := by simpa using (by omega : ¬ (16 : Int) < (qs.length : Int))
  have hal : Hid (newB qs = qs.all (·.right)) := Lib.hid (by unfold newB; rw [decide_eq_true (by omega : 1 ≤ qs.length), decide_eq_true (by omega : qs.length ≤ 16)]; rfl)
  have knew := fun w' => new_below w'
  have kqr := fun q w' => query_right q w'
  have H0 : St (fun _ => False) w _ [_] := (St.nil _ w).allocAt rfl #[.slice none 0 0, .slice none 0 0] 153
  go_enter Tryz.func33, Tryz.ntmps33
  go_upto_block 1 with (fail)
  obtain ⟨lb, hlb⟩ : ∃ b, w.heap.size = b := ⟨_, rfl⟩
  obtain ⟨w1, hw1⟩ : ∃ z, w.alloc (.cells #[.slice none 0 0, .slice none 0 0] 153) = z := ⟨_, rfl⟩
  rw [hw1, hlb] at H0
  try rw [hw1]
  try simp only [hlb]
  have H1 : St (fun _ => False) w w1 [Blk lb #[.slice none 0 0, .slice none 0 0] 153, Row 155 9 (.slice none 0 0) 0 (encL.all (([] : List Qry).map lmNew))] := (H0.row_nil 155 9).pick [1, 0]
  have hlbh := Lib.hid hlb
  clear hw1 hlb H0 z1 z2
  go_loopw [6, 19] (fun _ u19 wr => ∃ (i : Nat) (la : Option Addr) (lc : Nat), i ≤ qs.length ∧ u19 = .int .i64 i ∧ Hid ((qs.take i).all (·.right) = true) ∧ St (fun _ => False) w wr [Blk lb #[.slice la i lc, .slice none 0 0] 153, Row 155 9 (.slice la i lc) i (encL.all ((qs.take i).map lmNew))]) (fun _ u19 _ => qs.length - (intOf u19).toNat)
  case atStart => exact ⟨0, none, 0, by omega, rfl, Lib.hid rfl, H1⟩
  case round =>
    clear H1
    obtain ⟨i, la, lc, hi, rfl, hall, HM⟩ := hrel
    by_cases hlt : i < qs.length
    · obtain ⟨b, o, rfl, hb, hc⟩ := hich.out (by intro e; rw [e] at hlt; simp at hlt)
      obtain ⟨x, hx⟩ : ∃ x, qs[i]? = some x := ⟨_, List.getElem?_eq_getElem hlt⟩
      obtain ⟨q0, q1, q2, q3, q4, q5⟩ := qr_cells (hc i x hx) (HM.kept.block b hb id)
      have hsn : qs.take (i + 1) = qs.take i ++ [x] := take_snoc' hx
      have hsnh := Lib.hid hsn
      have hxm := Lib.hid (List.mem_of_getElem? hx)
      have hi2 : (i : Int) < (qs.length : Int) := by omega
      clear hx hc hsn
      obtain ⟨kd, sz, sl, lt, ag, kk⟩ := x
      simp only at q0 q1 q2 q3 q4 q5
      have HA : St (fun _ => False) w _ (_ :: _) := HM.allocAt rfl #[.int .i64 kd, .int .i64 sz, .int .i64 sl, .int .i64 lt, .int .i64 ag, .int .i64 kk] 23
      go_upto_region 7 with (fail)
      obtain ⟨wb, hwb⟩ : ∃ z, wr.alloc (.cells #[.int .i64 kd, .int .i64 sz, .int .i64 sl, .int .i64 lt, .int .i64 ag, .int .i64 kk] 23) = z := ⟨_, rfl⟩
      obtain ⟨qb, hqb⟩ : ∃ z, wr.heap.size = z := ⟨_, rfl⟩
      rw [hwb, hqb] at HA
      try rw [hwb]
      try simp only [hqb]
      have HB : St (fun _ => False) w wb [Blk qb #[.int .i64 kd, .int .i64 sz, .int .i64 sl, .int .i64 lt, .int .i64 ag, .int .i64 kk] 23, Blk lb #[.slice la i lc, .slice none 0 0] 153, Row 155 9 (.slice la i lc) i (encL.all ((qs.take i).map lmNew))] := HA
      clear hwb hqb q0 q1 q2 q3 q4 q5 HM HA
      have d0 := HB.cell 0 0 rfl rfl
      have d1 := HB.cell 0 1 rfl rfl
      have d2 := HB.cell 0 2 rfl rfl
      have d3 := HB.cell 0 3 rfl rfl
      have d4 := HB.cell 0 4 rfl rfl
      have d5 := HB.cell 0 5 rfl rfl
      have kq := kqr ⟨kd, sz, sl, lt, ag, kk⟩ wb
      unfold qyV qyC at kq
      simp only at kq
      by_cases hq : Qry.right ⟨kd, sz, sl, lt, ag, kk⟩ = true
      · rw [hq] at kq
        have hqh := Lib.hid hq
        clear hq
        go_upto_region 9 with (go_at_call 60; go_must (refine (St.callPast kq HB).mono ?_; rintro e wc9 ⟨rfl, H2⟩))
        clear HB kq d0 d1 d2 d3 d4 d5
        refine wp_script_tail 12 [(0, false), (1, false), (2, false), (3, false), (4, false), (5, false), (6, false), (7, false), (8, true), (9, true), (10, false), (11, false)] (Fam fun w' => St (fun _ => False) w w' [Blk qb #[.int .i64 kd, .int .i64 sz, .int .i64 sl, .int .i64 lt, .int .i64 ag, .int .i64 kk] 23, Blk lb #[.slice la i lc, .slice none 0 0] 153]) (fun w' => St (fun _ => False) w w' [Blk qb #[.int .i64 kd, .int .i64 sz, .int .i64 sl, .int .i64 lt, .int .i64 ag, .int .i64 kk] 23, Blk lb #[.slice la i lc, .slice none 0 0] 153, Row 155 9 (.slice la i lc) i (encL.all ((qs.take i).map lmNew))]) (by kernel_rfl) (by rfl) (by kernel_rfl) (by kernel_rfl) H2.drew (Fam.st (fun _ h => h.pick [0, 1])) ?_
        iterate 8 first
          | (apply script_pass
             · rfl
             · rfl
             intro K hK
             go_simp
             refine hK _ ?_
             clear hK K)
          | (apply script_step
             · rfl
             · rfl
             · intro I hI w1 h1'
               have h1 := hI.2 _ h1'
               have c0 := h1.cell 0 0 rfl rfl
               have c1 := h1.cell 0 1 rfl rfl
               have c2 := h1.cell 0 2 rfl rfl
               have c3 := h1.cell 0 3 rfl rfl
               have c4 := h1.cell 0 4 rfl rfl
               have c5 := h1.cell 0 5 rfl rfl
               have c6 := h1.cell 1 0 rfl rfl
               first
                 | (go_simp
                    first
                      | rfl
                      | exact ⟨rfl, h1'⟩
                      | (go_at_call 22; with_reducible exact Fam.call hI h1' (knew w1))
                   )
             intro K hK
             go_simp
             refine hK _ ?_
             clear hK K)
        refine script_alone rfl rfl ?_
        intro V hV w1 h1
        go_simp
        obtain ⟨nb, hnb⟩ : ∃ g, w1.heap.size = g := ⟨_, rfl⟩
        have HX : St (fun _ => False) w _ [Blk nb #[.int .i64 kd, .int .i64 sz, .int .i64 sl, .int .i64 lt, .int .i64 ag, .int .i64 kk, .int .i64 (-1), .slice none 0 0, .slice none 0 0] 155, Blk qb #[.int .i64 kd, .int .i64 sz, .int .i64 sl, .int .i64 lt, .int .i64 ag, .int .i64 kk] 23, Blk lb #[.slice la i lc, .slice none 0 0] 153, Row 155 9 (.slice la i lc) i (encL.all ((qs.take i).map lmNew))] := h1.allocAt hnb #[.int .i64 kd, .int .i64 sz, .int .i64 sl, .int .i64 lt, .int .i64 ag, .int .i64 kk, .int .i64 (-1), .slice none 0 0, .slice none 0 0] 155
        simp only [hnb]
        refine ⟨fun w' => St (fun _ => False) w w' [Blk nb #[.int .i64 kd, .int .i64 sz, .int .i64 sl, .int .i64 lt, .int .i64 ag, .int .i64 kk, .int .i64 (-1), .slice none 0 0, .slice none 0 0] 155, Blk qb #[.int .i64 kd, .int .i64 sz, .int .i64 sl, .int .i64 lt, .int .i64 ag, .int .i64 kk] 23, Blk lb #[.slice la i lc, .slice none 0 0] 153, Row 155 9 (.slice la i lc) i (encL.all ((qs.take i).map lmNew))], hV _ _ _ (fun _ h => h) (Fam.st (fun _ h => h.pick [1, 2])) ?_, HX⟩
        intro K hK
        go_simp
        refine hK _ ?_
        clear hK K hV V
        clear HX h1 hnb w1
        refine script_alone rfl rfl ?_
        intro V hV w1 h1
        refine h1.came_append 3 rfl (.tmp 30) (.tmp 34) 151 rfl Tryz.underlying151 Tryz.info155 (by decide) rfl [.int .i64 kd, .int .i64 sz, .int .i64 sl, .int .i64 lt, .int .i64 ag, .int .i64 kk, .int .i64 (-1), .slice none 0 0, .slice none 0 0] rfl rfl (by intro h; cases h) (blk_add (h1.blk 0 rfl)) (by simp [Value.oneCell']) (by omega) ?_
        intro v' w2 HX
        obtain ⟨la2, lc2, rfl, -, -⟩ := slice_form' (HX.row 3 rfl)
        have HY : St (fun _ => False) w w2 [Blk nb #[.int .i64 kd, .int .i64 sz, .int .i64 sl, .int .i64 lt, .int .i64 ag, .int .i64 kk, .int .i64 (-1), .slice none 0 0, .slice none 0 0] 155, Blk qb #[.int .i64 kd, .int .i64 sz, .int .i64 sl, .int .i64 lt, .int .i64 ag, .int .i64 kk] 23, Blk lb #[.slice la i lc, .slice none 0 0] 153, Row 155 9 (.slice la2 (i + 1) lc2) (i + 1) (encL.all ((qs.take i).map lmNew) ++ [.int .i64 kd, .int .i64 sz, .int .i64 sl, .int .i64 lt, .int .i64 ag, .int .i64 kk, .int .i64 (-1), .slice none 0 0, .slice none 0 0])] := HX
        refine ⟨fun w' => St (fun _ => False) w w' [Blk nb #[.int .i64 kd, .int .i64 sz, .int .i64 sl, .int .i64 lt, .int .i64 ag, .int .i64 kk, .int .i64 (-1), .slice none 0 0, .slice none 0 0] 155, Blk qb #[.int .i64 kd, .int .i64 sz, .int .i64 sl, .int .i64 lt, .int .i64 ag, .int .i64 kk] 23, Blk lb #[.slice la i lc, .slice none 0 0] 153, Row 155 9 (.slice la2 (i + 1) lc2) (i + 1) (encL.all ((qs.take i).map lmNew) ++ [.int .i64 kd, .int .i64 sz, .int .i64 sl, .int .i64 lt, .int .i64 ag, .int .i64 kk, .int .i64 (-1), .slice none 0 0, .slice none 0 0])], hV _ _ _ (fun _ h => h) (Fam.st (fun _ h => h.pick [1, 2])) ?_, HY⟩
        intro K hK
        go_simp
        refine hK _ ?_
        clear hK K hV V
        clear HY HX h1 w1 w2
        iterate 2 first
          | (apply script_pass
             · rfl
             · rfl
             intro K hK
             go_simp
             refine hK _ ?_
             clear hK K)
          | (apply script_step
             · rfl
             · rfl
             · intro I hI w1 h1'
               have h1 := hI.2 _ h1'
               first
                 | (go_simp
                    first
                      | rfl
                      | exact ⟨rfl, h1'⟩
                   )
             intro K hK
             go_simp
             refine hK _ ?_
             clear hK K)
        refine script_nil ?_
        intro w9 H9
        simp only [List.drop_succ_cons, List.drop_zero]
        have r0 := H9.free 2 0 rfl
        have z0 := H9.cell 2 0 rfl rfl
        have H10 : St (fun _ => False) w _ [Blk nb #[.int .i64 kd, .int .i64 sz, .int .i64 sl, .int .i64 lt, .int .i64 ag, .int .i64 kk, .int .i64 (-1), .slice none 0 0, .slice none 0 0] 155, Blk qb #[.int .i64 kd, .int .i64 sz, .int .i64 sl, .int .i64 lt, .int .i64 ag, .int .i64 kk] 23, Blk lb #[.slice la2 (i + 1) lc2, .slice none 0 0] 153, Row 155 9 (.slice la2 (i + 1) lc2) (i + 1) (encL.all ((qs.take i).map lmNew) ++ [.int .i64 kd, .int .i64 sz, .int .i64 sl, .int .i64 lt, .int .i64 ag, .int .i64 kk, .int .i64 (-1), .slice none 0 0, .slice none 0 0])] := H9.set 2 rfl 0 (.slice la2 (i + 1) lc2)
        go_wp2
        go_roundw
        case rel =>
          refine ⟨i + 1, la2, lc2, by omega, by go_num, Lib.hid ?_, ?_⟩
          · rw [hsnh.out, List.all_append, hall.out]
            simp [hqh.out]
          · rw [hsnh.out, List.map_append, encL.all_app]
            exact H10.pick [2, 3]
        case measure => simp [intOf]; omega
      · have hq2 : Qry.right ⟨kd, sz, sl, lt, ag, kk⟩ = false := by simpa using hq
        rw [hq2] at kq
        have hbd := Lib.hid (hbadh.out (by rw [hal.out]; exact Bool.eq_false_iff.2 fun h => hq (List.all_eq_true.1 h _ hxm.out)))
        clear hq hq2
        go_wp2_with (go_at_call 60; go_must (refine (St.callPast kq HB).mono ?_; rintro e wc9 ⟨rfl, H2⟩))
        exact hbd.out _ (H2.pick [])
    · obtain rfl : i = qs.length := by omega
      have hb := hokh.out (by rw [hal.out, ← hall.out, List.take_length])
      rw [List.take_length] at HM
      go_wp2
      exact hb _ _ _ _ HM

end Go.Proofs.YtiglgfonhdfpmaaGreat

/- Lanes' Len, in, Items, Outs, State: what only reads. Conditions: so many, and what they hold is of moderate size. (Printed by a program of mine.) -/
set_option linter.unusedVariables false
set_option linter.unusedSimpArgs false
namespace Go.Proofs.YtiglgfonhdfpmaaGreat
open Go.RowKit

theorem results_ct {P : Program} {fn : Func} {t c : Tmp} {ty : TypeId} (h : fn.results = #[.cell t ty, .tmp c]) {tmps : Array Value} {w : World} {b : Nat} {cs : List Value} {d : TypeDesc} (ht : tmps.getD t undef = .pointer (some ⟨b, 0, none⟩)) (hr : w.rangeAt b 0 cs)
    (hu : P.underlying ty = some d) (hd : d.isRow = true) (hi : (P.info? ty).map (·.size) = some cs.length) : (results fn tmps).run P w = .ok (.tuple #[.agg cs.toArray, tmps.getD c undef]) w := by
  have h2 := run_loadVar_mid (P := P) w b 0 ty cs d hr hu hd hi
  have h3 : tmps[t]?.getD undef = .pointer (some ⟨b, 0, none⟩) := by simpa using ht
  simp [results, h, h3, asAddr, h2]
theorem ItmsRO.nil (w : World) : ItmsRO w (.slice none 0 0) [] := ⟨none, 0, rfl, Nat.le_refl _, fun _ h => (by cases h), fun h => absurd rfl h⟩
theorem kept_cell {w w' : World} (hk : Kept (fun _ => False) w w') {b i : Nat} {v : Value} (h : w.cell? ⟨b, i, none⟩ = some v) (hb : b < w.heap.size) : w'.cell? ⟨b, i, none⟩ = some v := (World.cell?_of_block (hk.block b hb id)).trans h
theorem own_blt {w : World} {e : TypeId} {size : Nat} {g n cap : Nat} {xs : List Value} (h : w.ownsRow 0 e size (.slice (some ⟨g, 0, none⟩) n cap) n xs) : g < w.heap.size := (h.lt g rfl).2
/-- What lanes' head and the j-th of them tell in a later world. -/
theorem lns_cells {S : Nat → Prop} {w0 w : World} {b : Nat} {l : List Ln} {items : List Itm} {L : List SP} (H : St S w0 w (LnsAt b l items :: L)) : ∃ (la : Option Addr) (lc : Nat) (ia : Option Addr) (ic : Nat), b < w.heap.size ∧ (∀ w', Kept (fun _ => False) w w' → w'.cell? ⟨b, 0, none⟩ = some (.slice la l.length lc) ∧ w'.cell? ⟨b, 1, none⟩ = some (.slice ia items.length ic)) ∧
    ((∀ x ∈ items, x.fits) → ItmsRO w (.slice ia items.length ic) items) ∧ ∀ (j : Nat) (x : Ln), l[j]? = some x → ∃ (g : Nat) (pa : Option Addr) (pc : Nat) (oa : Option Addr) (oc : Nat), la = some ⟨g, 0, none⟩ ∧ PnsRO w (.slice pa x.s.panes.length pc) x.s.panes ∧ OtsRO w (.slice oa x.outs.length oc) x.outs ∧ ∀ w', Kept (fun _ => False) w w' →
      w'.cell? ⟨g, j * 9, none⟩ = some (.int .i64 x.q.kind) ∧ w'.cell? ⟨g, j * 9 + 1, none⟩ = some (.int .i64 x.q.size) ∧ w'.cell? ⟨g, j * 9 + 2, none⟩ = some (.int .i64 x.q.slide) ∧ w'.cell? ⟨g, j * 9 + 3, none⟩ = some (.int .i64 x.q.late) ∧ w'.cell? ⟨g, j * 9 + 4, none⟩ = some (.int .i64 x.q.agg) ∧
      w'.cell? ⟨g, j * 9 + 5, none⟩ = some (.int .i64 x.q.k) ∧ w'.cell? ⟨g, j * 9 + 6, none⟩ = some (.int .i64 x.s.mark) ∧ w'.cell? ⟨g, j * 9 + 7, none⟩ = some (.slice pa x.s.panes.length pc) ∧ w'.cell? ⟨g, j * 9 + 8, none⟩ = some (.slice oa x.outs.length oc) := by
  obtain ⟨ms, la, lc, ia, ic, HH, g1, g2, H1⟩ := LnsAt.open H
  have hb := H1.blk_lt 0 rfl
  have c0 := H1.cell 0 0 rfl rfl
  have c1 := H1.cell 0 1 rfl rfl
  have el : l.length = ms.length := by rw [← g1, List.length_map]
  rw [← el] at c0
  refine ⟨la, lc, ia, ic, hb, fun w' hk => ⟨kept_cell hk c0 hb, kept_cell hk c1 hb⟩, fun hf => itms_own (H1.row 2 rfl) hf, fun j x hx => ?_⟩
  rw [← g1, List.getElem?_map] at hx
  obtain ⟨y, hy, rfl⟩ := Option.map_eq_some_iff.1 hx
  obtain ⟨g, cap, e, k0, k1, k2, k3, k4, k5, k6, k7, k8⟩ := lm_row (H1.row 1 rfl) hy
  injection e with e1 _ e2
  subst e1 e2
  have hg := own_blt (H1.row 1 rfl)
  have hown := g2 y (List.mem_of_getElem? hy)
  have HP : St S w0 w (LmP y :: _) := Many.out (H1.front 3 rfl) hy
  have HO : St S w0 w (LmO y :: _) := Many.out (H1.front 4 rfl) hy
  refine ⟨g, y.pa, y.pc, y.oa, y.oc, rfl, ?_, ?_, fun w' hk => ⟨kept_cell hk k0 hg, kept_cell hk k1 hg, kept_cell hk k2 hg, kept_cell hk k3 hg, kept_cell hk k4 hg, kept_cell hk k5 hg, kept_cell hk k6 hg, ?_, ?_⟩⟩
  · show PnsRO w (.slice y.pa (y.ps.map (·.p)).length y.pc) (y.ps.map (·.p))
    rw [List.length_map]
    exact HP.pnsRO 0 6 rfl rfl hown.1
  · show OtsRO w (.slice y.oa (y.os.map (·.o)).length y.oc) (y.os.map (·.o))
    rw [List.length_map]
    exact HO.otsRO 0 6 rfl rfl hown.2
  · show _ = some (Value.slice y.pa (y.ps.map (·.p)).length y.pc)
    rw [List.length_map]
    exact kept_cell hk k7 hg
  · show _ = some (Value.slice y.oa (y.os.map (·.o)).length y.oc)
    rw [List.length_map]
    exact kept_cell hk k8 hg

section
variable {S : Nat → Prop} {w0 w : World} {b : Nat} {l : List Ln} {items : List Itm} {L : List SP}
set_option maxHeartbeats 1000000 in
theorem lns_len (H : St S w0 w (LnsAt b l items :: L)) : Calls Tryz.prog 38 #[.pointer (some ⟨b, 0, none⟩)] w fun e w' => e = .returned (.int .i64 l.length) ∧ w' = w := by
  obtain ⟨la, lc, ia, ic, hb, k0, -, -⟩ := lns_cells H
  obtain ⟨c0, -⟩ := k0 w (Kept.refl _ _)
  clear k0 H
  go_enter Tryz.func38, Tryz.ntmps38
  go_wp2
  go_ret
  exact ⟨rfl, rfl⟩
set_option maxHeartbeats 1000000 in
theorem lns_in (H : St S w0 w (LnsAt b l items :: L)) (j : Nat) : Calls Tryz.prog 85 #[.pointer (some ⟨b, 0, none⟩), .int .i64 j] w fun e w' => e = .returned (.bool (decide (j < l.length))) ∧ w' = w := by
  have kl := lns_len H
  have z : decide ((0 : Int) ≤ (j : Int)) = true := by simp
  have zi : ((0 : Int) ≤ (j : Int)) := by omega
  have e : decide ((j : Int) < (l.length : Int)) = decide (j < l.length) := by simp
  go_enter Tryz.func85, Tryz.ntmps85
  go_wp2_with (go_at_call 38; go_must (refine kl.mono ?_; rintro e w1 ⟨rfl, rfl⟩))
  go_ret
  refine ⟨?_, rfl⟩
  simp only [e]
  rfl
set_option maxHeartbeats 1000000 in
theorem lns_items (H : St S w0 w (LnsAt b l items :: L)) (hf : ∀ x ∈ items, x.fits) (hl : items.length ≤ 3518437208880) : Calls Tryz.prog 39 #[.pointer (some ⟨b, 0, none⟩)] w fun e w' => ∃ v, e = .returned v ∧ St (fun _ => False) w w' [Row 56 4 v items.length (itms items)] := by
  obtain ⟨la, lc, ia, ic, hb, k0, ki, -⟩ := lns_cells H
  obtain ⟨-, c1⟩ := k0 w (Kept.refl _ _)
  have kc := itms_clone (ki hf) (by omega)
  clear k0 ki H
  go_enter Tryz.func39, Tryz.ntmps39
  go_wp2_with (go_at_call 86; go_must (refine kc.mono ?_; rintro e w1 ⟨v1, rfl, H1⟩))
  go_ret
  exact ⟨v1, rfl, H1⟩
set_option maxHeartbeats 1000000 in
theorem lns_outs (H : St S w0 w (LnsAt b l items :: L)) {j : Nat} {x : Ln} (hx : l[j]? = some x) (hl : l.length ≤ 1048576) (ho : x.outs.length ≤ 1073741824) (hv : ∀ o ∈ x.outs, o.value.length ≤ 8) :
    Calls Tryz.prog 40 #[.pointer (some ⟨b, 0, none⟩), .int .i64 j] w fun e w' => ∃ v os, e = .returned v ∧ os.map (·.o) = x.outs ∧ St (fun _ => False) w w' [Row 63 10 v os.length (encO.all os), Pool (os.map Om.own)] := by
  have hlt := (List.getElem?_eq_some_iff.1 hx).1
  have kin := lns_in H j
  rw [decide_eq_true hlt] at kin
  obtain ⟨la, lc, ia, ic, hb, k0, -, kx⟩ := lns_cells H
  obtain ⟨c0, -⟩ := k0 w (Kept.refl _ _)
  obtain ⟨g, pa, pc, oa, oc, rfl, -, hro, kc⟩ := kx j x hx
  obtain ⟨-, -, -, -, -, -, -, -, c8⟩ := kc w (Kept.refl _ _)
  have kcp := lns_copied hro ho (fun o h => by have := hv o h; omega)
  have hi1 : (0 : Int) ≤ (j : Int) := by omega
  have hi2 : (j : Int) < (l.length : Int) := by omega
  clear k0 kx kc H hx hro hv
  go_enter Tryz.func40, Tryz.ntmps40
  go_wp2_with (first
    | (go_at_call 85; go_must (refine kin.mono ?_; rintro e w1 ⟨rfl, rfl⟩))
    | (go_at_call 84; go_must (refine kcp.mono ?_; rintro e w2 ⟨v2, os2, rfl, ho2, H2⟩)))
  go_ret
  exact ⟨v2, os2, rfl, ho2, H2⟩
set_option maxHeartbeats 4000000 in
set_option maxRecDepth 100000 in
theorem lns_state (H : St S w0 w (LnsAt b l items :: L)) {j : Nat} {x : Ln} (hx : l[j]? = some x) (hl : l.length ≤ 1048576) (hp : x.s.panes.length ≤ 1073741824) (hf : ∀ p ∈ x.s.panes, p.fits) :
    Calls Tryz.prog 37 #[.pointer (some ⟨b, 0, none⟩), .int .i64 j] w fun e w' => ∃ v ms HH, e = .returned (.tuple #[.agg #[.int .i64 x.s.mark, v], .bool true]) ∧ ms.map (·.p) = x.s.panes ∧ (∀ m ∈ ms, Pm.own m ∈ HH) ∧ St (fun _ => False) w w' [Row 68 8 v ms.length (encP.all ms), Pool HH] := by
  have hlt := (List.getElem?_eq_some_iff.1 hx).1
  have kin := fun o => lns_in (H.skip o) j
  rw [decide_eq_true hlt] at kin
  obtain ⟨la, lc, ia, ic, hb, k0, -, kx⟩ := lns_cells H
  obtain ⟨g, pa, pc, oa, oc, rfl, hro, -, kc9⟩ := kx j x hx
  have kr := Lib.hid (fun w' (hk : Kept (fun _ => False) w w') => oper_run x.q x.s [] w' (hro.later hk) hp hf (ItmsRO.nil w') (by decide))
  have kc := Lib.hid (fun w' (hk : Kept (fun _ => False) w w') => And.intro (k0 w' hk) (kc9 w' hk))
  have hi1 : (0 : Int) ≤ (j : Int) := by omega
  have hi2 : (j : Int) < (l.length : Int) := by omega
  clear k0 kx kc9 H hx hro hp hf hlt hb
  obtain ⟨⟨kd, sz, sl, lt, ag, kk⟩, ⟨mk, ps⟩, O9⟩ := x
  obtain ⟨r0, hr0⟩ : ∃ z : RunR, (⟨⟨mk, ps⟩, [], 0, 0⟩ : RunR) = z := ⟨_, rfl⟩
  unfold runsM at kr
  simp only [hr0] at kr
  obtain ⟨⟨mk0, ps0⟩, O0, n0, e0⟩ := r0
  have hmk := Lib.hid (congrArg (fun r : RunR => r.s) hr0)
  clear hr0
  unfold RunOk qyV qyC at kr
  simp only at kr kc ⊢
  have H0 : St (fun _ => False) w _ [_] := (St.nil _ w).allocAt rfl #[.int .i64 0, .slice none 0 0] 45
  go_enter Tryz.func37, Tryz.ntmps37
  go_upto_region 3 with (go_at_call 85; go_must (refine (kin _).mono ?_; rintro e w1 ⟨rfl, rfl⟩))
  obtain ⟨rb, hrb⟩ : ∃ z, w.heap.size = z := ⟨_, rfl⟩
  obtain ⟨wa, hwa⟩ : ∃ z, w.alloc (.cells #[.int .i64 0, .slice none 0 0] 45) = z := ⟨_, rfl⟩
  rw [hwa, hrb] at H0
  try rw [hwa]
  try simp only [hrb]
  have H1 : St (fun _ => False) w wa [Blk rb #[.int .i64 0, .slice none 0 0] 45] := H0
  have hrbh := Lib.hid hrb
  clear hwa hrb H0 kin
  go_cut [6, 7, 8, 9, 15] from 16 to 36 (fun p8 p9 p10 p11 _ wx => ∃ (sb0 : Nat) (pa0 : Option Addr) (pc0 : Nat) (oa0 : Option Addr) (oc0 : Nat) (ms0 : List Pm) (os0 : List Om) (H0 : List (Value × List Int)), p8 = .pointer (some ⟨sb0, 0, none⟩) ∧ p9 = .slice oa0 os0.length oc0 ∧ p10 = .int .i64 n0 ∧ p11 = .int .i64 e0 ∧ Hid (ms0.map (·.p) = ps0 ∧ os0.map (·.o) = O0 ∧ (∀ m ∈ ms0, Pm.own m ∈ H0) ∧ ∀ y ∈ os0, Om.own y ∈ H0) ∧ St (fun _ => False) w wx [Blk sb0 #[.int .i64 mk0, .slice pa0 ms0.length pc0] 45, Row 68 8 (.slice pa0 ms0.length pc0) ms0.length (encP.all ms0), Row 63 10 (.slice oa0 os0.length oc0) os0.length (encO.all os0), Pool H0, Blk rb #[.int .i64 0, .slice none 0 0] 45])
  case first =>
    refine wp_plan (.small 0 (.small 1 (.small 2 (.small 3 (.small 4 (.small 5 (.small 6 (.small 7 (.small 8 (.small 9 (.small 10 (.small 11 (.small 12 (.small 13 (.small 14 (.small 15 (.fork 16 22 (.small 17 (.small 18 (.small 19 (.small 20 (.small 21 (.alone 22 (.alone 23 (.small 24 (.small 25 (.small 26 .nil)))))))))) (.alone 16 (.small 17 (.small 18 (.small 19 (.small 20 (.small 21 (.alone 23 (.small 24 (.small 25 (.small 26 .nil))))))))))))))))))))))))))) (Fam fun w' => St (fun _ => False) w w' [Blk rb #[.int .i64 0, .slice none 0 0] 45]) (fun w' => St (fun _ => False) w w' [Blk rb #[.int .i64 0, .slice none 0 0] 45]) (by kernel_rfl) (by rfl) (by kernel_rfl) (by kernel_rfl) H1.drew (Fam.st (fun _ h => h.pick [0])) ?_
    iterate 16 first
      | (apply plan_pass
         · rfl
         · rfl
         intro K hK
         go_simp
         refine hK _ ?_
         clear hK K)
      | (apply plan_step
         · rfl
         · rfl
         · intro I hI w1 h1'
           have h1 := hI.2 _ h1'
           obtain ⟨⟨c0, c1⟩, q0, q1, q2, q3, q4, q5, q6, q7, q8⟩ := kc.out w1 h1.kept
           first
             | (go_simp
                first
                  | rfl
                  | exact ⟨rfl, h1'⟩
               )
         intro K hK
         go_simp
         refine hK _ ?_
         clear hK K)
    refine plan_two rfl rfl rfl rfl ?_ ?_
    · skip
      intro V hV w1 h1
      go_simp
      refine (kr.out w1 h1.kept).mono ?_
      rintro e w2 ⟨hs, ho, ms0, os0, H0, rfl, hm, ho2, hmo, hoo, G1⟩
      have hall0 : Hid (ms0.map (·.p) = ps0 ∧ os0.map (·.o) = O0 ∧ (∀ m ∈ ms0, Pm.own m ∈ H0) ∧ ∀ y ∈ os0, Om.own y ∈ H0) := Lib.hid ⟨hm, ho2, hmo, hoo⟩
      clear hm ho2 hmo hoo
      obtain ⟨pa0, pc0, rfl, -, -⟩ := slice_form' (G1.row 0 rfl)
      obtain ⟨oa0, oc0, rfl, -, -⟩ := slice_form' (G1.row 1 rfl)
      have HX : St (fun _ => False) w w2 [Row 68 8 (.slice pa0 ms0.length pc0) ms0.length (encP.all ms0), Row 63 10 (.slice oa0 os0.length oc0) os0.length (encO.all os0), Pool H0, Blk rb #[.int .i64 0, .slice none 0 0] 45] := h1.call0 G1
      refine ⟨_, rfl, fun w' => St (fun _ => False) w w' [Row 68 8 (.slice pa0 ms0.length pc0) ms0.length (encP.all ms0), Row 63 10 (.slice oa0 os0.length oc0) os0.length (encO.all os0), Pool H0, Blk rb #[.int .i64 0, .slice none 0 0] 45], hV _ _ _ (fun _ h => h) (Fam.st (fun _ h => h.pick [3])) ?_, HX⟩
      intro K hK
      go_simp
      refine hK _ ?_
      clear hK K hV V
      clear HX h1 G1 w1 w2
      iterate 5 first
        | (apply plan_pass
           · rfl
           · rfl
           intro K hK
           go_simp
           refine hK _ ?_
           clear hK K)
        | (apply plan_step
           · rfl
           · rfl
           · intro I hI w1 h1'
             have h1 := hI.2 _ h1'
             first
               | (go_simp
                  first
                    | rfl
                    | exact ⟨rfl, h1'⟩
                 )
           intro K hK
           go_simp
           refine hK _ ?_
           clear hK K)
      refine plan_one rfl rfl ?_
      intro V hV w1 h1
      go_simp
      obtain ⟨sb0, hsb0⟩ : ∃ g, w1.heap.size = g := ⟨_, rfl⟩
      have HX : St (fun _ => False) w _ [Blk sb0 #[.int .i64 0, .slice none 0 0] 45, Row 68 8 (.slice pa0 ms0.length pc0) ms0.length (encP.all ms0), Row 63 10 (.slice oa0 os0.length oc0) os0.length (encO.all os0), Pool H0, Blk rb #[.int .i64 0, .slice none 0 0] 45] := h1.allocAt hsb0 #[.int .i64 0, .slice none 0 0] 45
      simp only [hsb0]
      refine ⟨fun w' => St (fun _ => False) w w' [Blk sb0 #[.int .i64 0, .slice none 0 0] 45, Row 68 8 (.slice pa0 ms0.length pc0) ms0.length (encP.all ms0), Row 63 10 (.slice oa0 os0.length oc0) os0.length (encO.all os0), Pool H0, Blk rb #[.int .i64 0, .slice none 0 0] 45], hV _ _ _ (fun _ h => h) (Fam.st (fun _ h => h.pick [4])) ?_, HX⟩
      intro K hK
      go_simp
      refine hK _ ?_
      clear hK K hV V
      clear HX h1 hsb0 w1
      refine plan_one rfl rfl ?_
      intro V hV w1 h1
      refine h1.came_store 0 rfl 45 (.tmp 6) (.tmp 33) rfl #[.int .i64 mk0, .slice pa0 ms0.length pc0] rfl rfl (by kernel_rfl) (Nat.zero_lt_succ _) rfl (by simp [allOne, Value.oneCell']) ?_
      intro w2 HX
      refine ⟨fun w' => St (fun _ => False) w w' [Blk sb0 #[.int .i64 mk0, .slice pa0 ms0.length pc0] 45, Row 68 8 (.slice pa0 ms0.length pc0) ms0.length (encP.all ms0), Row 63 10 (.slice oa0 os0.length oc0) os0.length (encO.all os0), Pool H0, Blk rb #[.int .i64 0, .slice none 0 0] 45], hV _ _ _ (fun _ h => h) (Fam.st (fun _ h => h.pick [4])) ?_, HX⟩
      intro K hK
      go_simp
      refine hK _ ?_
      clear hK K hV V
      clear HX h1 w1 w2
      iterate 3 first
        | (apply plan_pass
           · rfl
           · rfl
           intro K hK
           go_simp
           refine hK _ ?_
           clear hK K)
        | (apply plan_step
           · rfl
           · rfl
           · intro I hI w1 h1'
             have h1 := hI.2 _ h1'
             first
               | (go_simp
                  first
                    | rfl
                    | exact ⟨rfl, h1'⟩
                 )
           intro K hK
           go_simp
           refine hK _ ?_
           clear hK K)
      refine plan_nil ?_
      intro w9 H9
      go_wp2
      go_meet
      exact ⟨sb0, pa0, pc0, oa0, oc0, ms0, os0, H0, rfl, rfl, rfl, rfl, by assumption, H9.pick [0, 1, 2, 3, 4]⟩
    · skip
      intro V hV w1 h1
      go_simp
      obtain ⟨sb0, hsb0⟩ : ∃ g, w1.heap.size = g := ⟨_, rfl⟩
      have HX : St (fun _ => False) w _ [Blk sb0 #[.int .i64 0, .slice none 0 0] 45, Blk rb #[.int .i64 0, .slice none 0 0] 45] := h1.allocAt hsb0 #[.int .i64 0, .slice none 0 0] 45
      simp only [hsb0]
      refine ⟨fun w' => St (fun _ => False) w w' [Blk sb0 #[.int .i64 0, .slice none 0 0] 45, Blk rb #[.int .i64 0, .slice none 0 0] 45], hV _ _ _ (fun _ h => h) (Fam.st (fun _ h => h.pick [1])) ?_, HX⟩
      intro K hK
      go_simp
      refine hK _ ?_
      clear hK K hV V
      clear HX h1 hsb0 w1
      refine plan_one rfl rfl ?_
      intro V hV w1 h1
      go_simp
      refine (kr.out w1 h1.kept).mono ?_
      rintro e w2 ⟨hs, ho, ms0, os0, H0, rfl, hm, ho2, hmo, hoo, G1⟩
      have hall0 : Hid (ms0.map (·.p) = ps0 ∧ os0.map (·.o) = O0 ∧ (∀ m ∈ ms0, Pm.own m ∈ H0) ∧ ∀ y ∈ os0, Om.own y ∈ H0) := Lib.hid ⟨hm, ho2, hmo, hoo⟩
      clear hm ho2 hmo hoo
      obtain ⟨pa0, pc0, rfl, -, -⟩ := slice_form' (G1.row 0 rfl)
      obtain ⟨oa0, oc0, rfl, -, -⟩ := slice_form' (G1.row 1 rfl)
      have HX : St (fun _ => False) w w2 [Row 68 8 (.slice pa0 ms0.length pc0) ms0.length (encP.all ms0), Row 63 10 (.slice oa0 os0.length oc0) os0.length (encO.all os0), Pool H0, Blk sb0 #[.int .i64 0, .slice none 0 0] 45, Blk rb #[.int .i64 0, .slice none 0 0] 45] := h1.call0 G1
      refine ⟨_, rfl, fun w' => St (fun _ => False) w w' [Row 68 8 (.slice pa0 ms0.length pc0) ms0.length (encP.all ms0), Row 63 10 (.slice oa0 os0.length oc0) os0.length (encO.all os0), Pool H0, Blk sb0 #[.int .i64 0, .slice none 0 0] 45, Blk rb #[.int .i64 0, .slice none 0 0] 45], hV _ _ _ (fun _ h => h) (Fam.st (fun _ h => h.pick [4])) ?_, HX⟩
      intro K hK
      go_simp
      refine hK _ ?_
      clear hK K hV V
      clear HX h1 G1 w1 w2
      iterate 5 first
        | (apply plan_pass
           · rfl
           · rfl
           intro K hK
           go_simp
           refine hK _ ?_
           clear hK K)
        | (apply plan_step
           · rfl
           · rfl
           · intro I hI w1 h1'
             have h1 := hI.2 _ h1'
             first
               | (go_simp
                  first
                    | rfl
                    | exact ⟨rfl, h1'⟩
                 )
           intro K hK
           go_simp
           refine hK _ ?_
           clear hK K)
      refine plan_one rfl rfl ?_
      intro V hV w1 h1
      refine h1.came_store 3 rfl 45 (.tmp 6) (.tmp 33) rfl #[.int .i64 mk0, .slice pa0 ms0.length pc0] rfl rfl (by kernel_rfl) (Nat.zero_lt_succ _) rfl (by simp [allOne, Value.oneCell']) ?_
      intro w2 HX
      refine ⟨fun w' => St (fun _ => False) w w' [Row 68 8 (.slice pa0 ms0.length pc0) ms0.length (encP.all ms0), Row 63 10 (.slice oa0 os0.length oc0) os0.length (encO.all os0), Pool H0, Blk sb0 #[.int .i64 mk0, .slice pa0 ms0.length pc0] 45, Blk rb #[.int .i64 0, .slice none 0 0] 45], hV _ _ _ (fun _ h => h) (Fam.st (fun _ h => h.pick [4])) ?_, HX⟩
      intro K hK
      go_simp
      refine hK _ ?_
      clear hK K hV V
      clear HX h1 w1 w2
      iterate 3 first
        | (apply plan_pass
           · rfl
           · rfl
           intro K hK
           go_simp
           refine hK _ ?_
           clear hK K)
        | (apply plan_step
           · rfl
           · rfl
           · intro I hI w1 h1'
             have h1 := hI.2 _ h1'
             first
               | (go_simp
                  first
                    | rfl
                    | exact ⟨rfl, h1'⟩
                 )
           intro K hK
           go_simp
           refine hK _ ?_
           clear hK K)
      refine plan_nil ?_
      intro w9 H9
      go_wp2
      go_meet
      exact ⟨sb0, pa0, pc0, oa0, oc0, ms0, os0, H0, rfl, rfl, rfl, rfl, by assumption, H9.pick [3, 0, 1, 2, 4]⟩
  case rest =>
    clear H1
    obtain ⟨sb0, pa0, pc0, oa0, oc0, ms0, os0, H0, rfl, rfl, rfl, rfl, hall, HC⟩ := hcut
    obtain ⟨hm, -, ho, -⟩ := hall.out
    obtain ⟨rfl, rfl⟩ : mk = mk0 ∧ ps = ps0 := by have := hmk.out; simp only [Stt.mk.injEq] at this; exact this
    have HC2 : St (fun _ => False) w wc [Blk sb0 #[.int .i64 mk, .slice pa0 ms0.length pc0] 45, Row 68 8 (.slice pa0 ms0.length pc0) ms0.length (encP.all ms0), Row 63 10 (.slice oa0 os0.length oc0) os0.length (encO.all os0), Pool H0, Blk rb #[.int .i64 0, .slice none 0 0] 45] := HC
    have s0 := HC2.cell 0 0 rfl rfl
    have s1 := HC2.cell 0 1 rfl rfl
    have z0 := HC2.cell 4 0 rfl rfl
    have z1 := HC2.cell 4 1 rfl rfl
    have r0 := HC2.free 4 0 rfl
    have r1 := HC2.free 4 1 rfl
    have HD := (HC2.set 4 rfl 0 (.int .i64 mk)).set 4 rfl 1 (.slice pa0 ms0.length pc0)
    have hmh := Lib.hid hm
    have hoh := Lib.hid ho
    clear hall hm ho HC hmk kr kc
    go_wp2
    try simp only [Exit.inBlock, Exit.then]
    refine bodyPost_ret (results_ct rfl rfl (blk_range (cs := [.int .i64 mk, .slice pa0 ms0.length pc0]) (HD.blk 4 rfl)) Tryz.underlying45 rfl (by kernel_rfl)) rfl ?_
    exact ⟨_, ms0, H0, rfl, hmh.out, hoh.out, HD.pick [1, 3]⟩
end

end Go.Proofs.YtiglgfonhdfpmaaGreat
