import Derived.Test.YtiglgfonhdfpmaaGreatLw1
import Derived.Test.YtiglgfonhdfpmaaGreatLw2
import Derived.Test.YtiglgfonhdfpmaaGreatLw3
import Derived.Test.YtiglgfonhdfpmaaGreatLw4
import Derived.Test.YtiglgfonhdfpmaaGreatLw6
import Derived.Test.YtiglgfonhdfpmaaGreatLw8
import Derived.Test.YtiglgfonhdfpmaaGreatLw13
import Derived.Deep.CutBlock
import Derived.Lib.ItoaNum
import Derived.Lib.AtoiAll
import Derived.Lib.Split
import Derived.Lib.SplitLaws
import Derived.Lib.IndexLaws
import Derived.Lib.CountLaws
/- oper.Step. Conditions: the state and the item fit the machine; so many. (Printed by a program of mine.) -/
set_option linter.unusedVariables false
set_option linter.unusedSimpArgs false
namespace Go.Proofs.YtiglgfonhdfpmaaGreat
open Go.RowKit

theorem results_ctt {P : Program} {fn : Func} {t b1 c1 : Tmp} {ty : TypeId} (h : fn.results = #[.cell t ty, .tmp b1, .tmp c1]) {tmps : Array Value} {w : World} {b : Nat} {cs : List Value} {d : TypeDesc} (ht : tmps.getD t undef = .pointer (some ⟨b, 0, none⟩)) (hr : w.rangeAt b 0 cs)
    (hu : P.underlying ty = some d) (hd : d.isRow = true) (hi : (P.info? ty).map (·.size) = some cs.length) : (results fn tmps).run P w = .ok (.tuple #[.agg cs.toArray, tmps.getD b1 undef, tmps.getD c1 undef]) w := by
  have h2 := run_loadVar_mid (P := P) w b 0 ty cs d hr hu hd hi
  have h3 : tmps[t]?.getD undef = .pointer (some ⟨b, 0, none⟩) := by simpa using ht
  simp [results, h, h3, asAddr, h2]
/-- What a step hands back, all its own. -/
def StepOk (S : Nat → Prop) (w : World) (r : StepR) (e : Ending) (w' : World) : Prop :=
  ∃ hs ho ms os H, e = .returned (.tuple #[.agg #[.int .i64 r.s.mark, hs], ho, .int .i64 r.e]) ∧ ms.map (·.p) = r.s.panes ∧ os.map (·.o) = r.outs ∧ (∀ m ∈ ms, Pm.own m ∈ H) ∧ (∀ y ∈ os, Om.own y ∈ H) ∧
    St S w w' [Row 68 8 hs ms.length (encP.all ms), Row 63 10 ho os.length (encO.all os), Pool H]

set_option maxHeartbeats 8000000 in
set_option maxRecDepth 100000 in
theorem oper_step (q : Qry) (s : Stt) (x : Itm) {v : Value} (w : World) (hv : PnsRO w v s.panes) (hl : s.panes.length ≤ 1073741824) (hf : ∀ p ∈ s.panes, p.fits) (hx : x.fits) :
    Calls Tryz.prog 27 #[qyV q, .agg #[.int .i64 s.mark, v], itmV x] w fun e w' => StepOk (fun _ => False) w (stepM q s x) e w' := by
  obtain ⟨mk, l⟩ := s
  simp only at hv hl hf
  have kc := fun w' (hk : Kept (fun _ => False) w w') => oper_copied (hv.later hk) hl (fun p hp => (hf p hp).2.1)
  have krg := fun w' (hk : Kept (fun _ => False) w w') => oper_right q ⟨mk, l⟩ w' (hv.later hk) hl hf
  have kev := fun w' => ev_right x hx w'
  have kst := Lib.hid (fun (h : x.right = true) => h)
  obtain ⟨ms0, hm0, hv0, -⟩ := hv
  obtain ⟨va, vc, rfl, -, -⟩ := hv0
  have e0 : ms0.length = l.length := by rw [← hm0, List.length_map]
  rw [e0] at kc krg ⊢
  clear hm0 e0 hf
  have hstep : stepM q ⟨mk, l⟩ x = if (Stt.right q ⟨mk, l⟩ && x.right) = true then (if x.kind = 2 then ⟨(markM q ⟨mk, l⟩ x.time).1, (markM q ⟨mk, l⟩ x.time).2, 0⟩ else eventM q ⟨mk, l⟩ x) else ⟨⟨mk, l⟩, [], 2⟩ := rfl
  have kmk := Lib.hid (fun (h : Stt.right q ⟨mk, l⟩ = true) (t : Nat) w' S' (hS : Sep w' [Stp t q mk l []] S') => step_mark (at1 := x.time) h (by simp) hS)
  have kvt := Lib.hid (fun (h : Stt.right q ⟨mk, l⟩ = true) (h2 : x.right = true) (h3 : x.kind = 1) (t : Nat) w' S' (hS : Sep w' [Stp t q mk l []] S') => step_event h h2 h3 (by simp) hS)
  have hkind : x.right = true → ¬ x.kind = 2 → x.kind = 1 := fun h h2 => by
    unfold Itm.right at h
    simp only [Bool.and_eq_true] at h
    refine Classical.byContradiction fun h3 => ?_
    rw [if_neg h3, if_neg h2] at h
    simp at h
  have hkindh := Lib.hid hkind
  obtain ⟨res, hres⟩ : ∃ z, stepM q ⟨mk, l⟩ x = z := ⟨_, rfl⟩
  rw [hres] at hstep ⊢
  have hsteph := Lib.hid hstep
  obtain ⟨sr, hsr⟩ : ∃ z, Stt.right q ⟨mk, l⟩ = z := ⟨_, rfl⟩
  obtain ⟨xr, hxr⟩ : ∃ z, x.right = z := ⟨_, rfl⟩
  simp only [hsr] at krg
  simp only [hxr] at kev
  have hsrh := Lib.hid hsr
  have hxrh := Lib.hid hxr
  clear hstep hkind hsr hxr hres kst
  obtain ⟨xx, hxx⟩ : ∃ z, z = x := ⟨_, rfl⟩
  have hxxh := Lib.hid hxx
  obtain ⟨xk, xy, xt, xv⟩ := x
  unfold itmV textV at kev
  unfold qyV qyC at krg
  unfold qyV qyC itmV textV
  simp only at kev krg ⊢
  have H1 : St (fun _ => False) w _ [_] := (St.nil _ w).allocAt rfl #[.int .i64 q.kind, .int .i64 q.size, .int .i64 q.slide, .int .i64 q.late, .int .i64 q.agg, .int .i64 q.k] 23
  have H2 : St (fun _ => False) w _ [_, _] := H1.allocAt (B := w.heap.size + 1) (Array.size_push _) #[.int .i64 mk, .slice va l.length vc] 45
  have H3 : St (fun _ => False) w _ [_, _, _] := H2.allocAt (B := w.heap.size + 1 + 1) (by simp [Array.size_push]) #[.int .i64 xk, .string ⟨xy.toArray⟩, .int .i64 xt, .int .i64 xv] 56
  have H4 : St (fun _ => False) w _ [_, _, _, _] := H3.allocAt (B := w.heap.size + 1 + 1 + 1) (by simp [Array.size_push]) #[.int .i64 0, .slice none 0 0] 45
  go_enter Tryz.func27, Tryz.ntmps27
  go_upto_region 1 with (fail)
  obtain ⟨bq, hbq⟩ : ∃ b, w.heap.size = b := ⟨_, rfl⟩
  obtain ⟨bs, hbs⟩ : ∃ b, bq + 1 = b := ⟨_, rfl⟩
  obtain ⟨bx, hbx⟩ : ∃ b, bs + 1 = b := ⟨_, rfl⟩
  obtain ⟨br, hbr⟩ : ∃ b, bx + 1 = b := ⟨_, rfl⟩
  simp only [hbq, hbs, hbx, hbr] at H4 ⊢
  obtain ⟨w1, hw1⟩ : ∃ z, (((w.alloc (.cells #[.int .i64 q.kind, .int .i64 q.size, .int .i64 q.slide, .int .i64 q.late, .int .i64 q.agg, .int .i64 q.k] 23)).alloc (.cells #[.int .i64 mk, .slice va l.length vc] 45)).alloc (.cells #[.int .i64 xk, .string ⟨xy.toArray⟩, .int .i64 xt, .int .i64 xv] 56)).alloc (.cells #[.int .i64 0, .slice none 0 0] 45) = z := ⟨_, rfl⟩
  rw [hw1] at H4
  rw [hw1]
  have H5 : St (fun _ => False) w w1 [Blk bq #[.int .i64 q.kind, .int .i64 q.size, .int .i64 q.slide, .int .i64 q.late, .int .i64 q.agg, .int .i64 q.k] 23, Blk bs #[.int .i64 mk, .slice va l.length vc] 45, Blk bx #[.int .i64 xk, .string ⟨xy.toArray⟩, .int .i64 xt, .int .i64 xv] 56, Blk br #[.int .i64 0, .slice none 0 0] 45] := H4.pick [3, 2, 1, 0]
  have hbqh := Lib.hid hbq
  clear hw1 hbq hbs hbx hbr H1 H2 H3 H4
  go_cut [9] from 12 to 17 (fun p9 wx => ∃ (bw : Nat) (ca : Option Addr) (cc : Nat) (ms : List Pm), p9 = .pointer (some ⟨bw, 0, none⟩) ∧ Hid (ms.map (·.p) = l) ∧ St (fun _ => False) w wx [Row 68 8 (.slice ca ms.length cc) ms.length (encP.all ms), Pool (ms.map Pm.own), Blk bw #[.int .i64 mk, .slice ca ms.length cc] 45, Blk bq #[.int .i64 q.kind, .int .i64 q.size, .int .i64 q.slide, .int .i64 q.late, .int .i64 q.agg, .int .i64 q.k] 23, Blk bs #[.int .i64 mk, .slice va l.length vc] 45, Blk bx #[.int .i64 xk, .string ⟨xy.toArray⟩, .int .i64 xt, .int .i64 xv] 56, Blk br #[.int .i64 0, .slice none 0 0] 45])
  case first =>
    refine wp_plan (.small 0 (.small 1 (.small 2 (.small 3 (.fork 4 6 (.small 5 (.alone 6 (.alone 7 .nil))) (.alone 4 (.small 5 (.alone 7 .nil)))))))) (Fam fun w' => St (fun _ => False) w w' [Blk bs #[.int .i64 mk, .slice va l.length vc] 45]) (fun w' => St (fun _ => False) w w' [Blk bq #[.int .i64 q.kind, .int .i64 q.size, .int .i64 q.slide, .int .i64 q.late, .int .i64 q.agg, .int .i64 q.k] 23, Blk bs #[.int .i64 mk, .slice va l.length vc] 45, Blk bx #[.int .i64 xk, .string ⟨xy.toArray⟩, .int .i64 xt, .int .i64 xv] 56, Blk br #[.int .i64 0, .slice none 0 0] 45]) (by kernel_rfl) (by rfl) (by kernel_rfl) (by kernel_rfl) H5.drew (Fam.st (fun _ h => h.pick [1])) ?_
    iterate 4 first
      | (apply plan_pass
         · rfl
         · rfl
         intro K hK
         go_simp
         refine hK _ ?_
         clear hK K)
      | (apply plan_step
         · rfl
         · rfl
         · intro I hI w1 h1'
           have h1 := hI.2 _ h1'
           have c0 := h1.cell 0 0 rfl rfl
           have c1 := h1.cell 0 1 rfl rfl
           first
             | (go_simp
                first
                  | rfl
                  | exact ⟨rfl, h1'⟩
               )
         intro K hK
         go_simp
         refine hK _ ?_
         clear hK K)
    refine plan_two rfl rfl rfl rfl ?_ ?_
    · skip
      intro V hV w1 h1
      go_simp
      refine (kc w1 h1.kept).mono ?_
      rintro e w2 ⟨cv, ms, rfl, hms, G1⟩
      have hmsh := Lib.hid hms
      clear hms
      obtain ⟨ca, cc, rfl, -, -⟩ := slice_form' (G1.row 0 rfl)
      have HX : St (fun _ => False) w w2 [Row 68 8 (.slice ca ms.length cc) ms.length (encP.all ms), Pool (ms.map Pm.own), Blk bq #[.int .i64 q.kind, .int .i64 q.size, .int .i64 q.slide, .int .i64 q.late, .int .i64 q.agg, .int .i64 q.k] 23, Blk bs #[.int .i64 mk, .slice va l.length vc] 45, Blk bx #[.int .i64 xk, .string ⟨xy.toArray⟩, .int .i64 xt, .int .i64 xv] 56, Blk br #[.int .i64 0, .slice none 0 0] 45] := h1.call0 G1
      refine ⟨_, rfl, fun w' => St (fun _ => False) w w' [Row 68 8 (.slice ca ms.length cc) ms.length (encP.all ms), Pool (ms.map Pm.own), Blk bq #[.int .i64 q.kind, .int .i64 q.size, .int .i64 q.slide, .int .i64 q.late, .int .i64 q.agg, .int .i64 q.k] 23, Blk bs #[.int .i64 mk, .slice va l.length vc] 45, Blk bx #[.int .i64 xk, .string ⟨xy.toArray⟩, .int .i64 xt, .int .i64 xv] 56, Blk br #[.int .i64 0, .slice none 0 0] 45], hV _ _ _ (fun _ h => h) (Fam.st (fun _ h => h.pick [3])) ?_, HX⟩
      intro K hK
      go_simp
      refine hK _ ?_
      clear hK K hV V
      clear HX h1 G1 w1 w2
      iterate 1 first
        | (apply plan_pass
           · rfl
           · rfl
           intro K hK
           go_simp
           refine hK _ ?_
           clear hK K)
        | (apply plan_step
           · rfl
           · rfl
           · intro I hI w1 h1'
             have h1 := hI.2 _ h1'
             first
               | (go_simp
                  first
                    | rfl
                    | exact ⟨rfl, h1'⟩
                 )
           intro K hK
           go_simp
           refine hK _ ?_
           clear hK K)
      refine plan_one rfl rfl ?_
      intro V hV w1 h1
      go_simp
      obtain ⟨bw, hbw⟩ : ∃ g, w1.heap.size = g := ⟨_, rfl⟩
      have HX : St (fun _ => False) w _ [Blk bw #[.int .i64 0, .slice none 0 0] 45, Row 68 8 (.slice ca ms.length cc) ms.length (encP.all ms), Pool (ms.map Pm.own), Blk bq #[.int .i64 q.kind, .int .i64 q.size, .int .i64 q.slide, .int .i64 q.late, .int .i64 q.agg, .int .i64 q.k] 23, Blk bs #[.int .i64 mk, .slice va l.length vc] 45, Blk bx #[.int .i64 xk, .string ⟨xy.toArray⟩, .int .i64 xt, .int .i64 xv] 56, Blk br #[.int .i64 0, .slice none 0 0] 45] := h1.allocAt hbw #[.int .i64 0, .slice none 0 0] 45
      simp only [hbw]
      refine ⟨fun w' => St (fun _ => False) w w' [Blk bw #[.int .i64 0, .slice none 0 0] 45, Row 68 8 (.slice ca ms.length cc) ms.length (encP.all ms), Pool (ms.map Pm.own), Blk bq #[.int .i64 q.kind, .int .i64 q.size, .int .i64 q.slide, .int .i64 q.late, .int .i64 q.agg, .int .i64 q.k] 23, Blk bs #[.int .i64 mk, .slice va l.length vc] 45, Blk bx #[.int .i64 xk, .string ⟨xy.toArray⟩, .int .i64 xt, .int .i64 xv] 56, Blk br #[.int .i64 0, .slice none 0 0] 45], hV _ _ _ (fun _ h => h) (Fam.st (fun _ h => h.pick [4])) ?_, HX⟩
      intro K hK
      go_simp
      refine hK _ ?_
      clear hK K hV V
      clear HX h1 hbw w1
      refine plan_one rfl rfl ?_
      intro V hV w1 h1
      have r0 := h1.free 0 0 rfl
      have r1 := h1.free 0 1 rfl
      have x0 := h1.cell 0 0 rfl rfl
      have x1 := h1.cell 0 1 rfl rfl
      have H5 := (h1.set 0 rfl 0 (.int .i64 mk)).set 0 rfl 1 (.slice ca ms.length cc)
      go_simp
      refine ⟨fun w' => St (fun _ => False) w w' [Blk bw #[.int .i64 mk, .slice ca ms.length cc] 45, Row 68 8 (.slice ca ms.length cc) ms.length (encP.all ms), Pool (ms.map Pm.own), Blk bq #[.int .i64 q.kind, .int .i64 q.size, .int .i64 q.slide, .int .i64 q.late, .int .i64 q.agg, .int .i64 q.k] 23, Blk bs #[.int .i64 mk, .slice va l.length vc] 45, Blk bx #[.int .i64 xk, .string ⟨xy.toArray⟩, .int .i64 xt, .int .i64 xv] 56, Blk br #[.int .i64 0, .slice none 0 0] 45], hV _ _ _ (fun _ h => h) (Fam.st (fun _ h => h.pick [4])) ?_, H5⟩
      intro K hK
      go_simp
      refine hK _ ?_
      clear hK K hV V
      clear H5 h1 w1 r0 r1 x0 x1
      refine plan_nil ?_
      intro w9 H9
      go_wp2
      go_meet
      exact ⟨bw, ca, cc, ms, rfl, hmsh, H9.pick [1, 2, 0, 3, 4, 5, 6]⟩
    · skip
      intro V hV w1 h1
      go_simp
      obtain ⟨bw, hbw⟩ : ∃ g, w1.heap.size = g := ⟨_, rfl⟩
      have HX : St (fun _ => False) w _ [Blk bw #[.int .i64 0, .slice none 0 0] 45, Blk bq #[.int .i64 q.kind, .int .i64 q.size, .int .i64 q.slide, .int .i64 q.late, .int .i64 q.agg, .int .i64 q.k] 23, Blk bs #[.int .i64 mk, .slice va l.length vc] 45, Blk bx #[.int .i64 xk, .string ⟨xy.toArray⟩, .int .i64 xt, .int .i64 xv] 56, Blk br #[.int .i64 0, .slice none 0 0] 45] := h1.allocAt hbw #[.int .i64 0, .slice none 0 0] 45
      simp only [hbw]
      refine ⟨fun w' => St (fun _ => False) w w' [Blk bw #[.int .i64 0, .slice none 0 0] 45, Blk bq #[.int .i64 q.kind, .int .i64 q.size, .int .i64 q.slide, .int .i64 q.late, .int .i64 q.agg, .int .i64 q.k] 23, Blk bs #[.int .i64 mk, .slice va l.length vc] 45, Blk bx #[.int .i64 xk, .string ⟨xy.toArray⟩, .int .i64 xt, .int .i64 xv] 56, Blk br #[.int .i64 0, .slice none 0 0] 45], hV _ _ _ (fun _ h => h) (Fam.st (fun _ h => h.pick [2])) ?_, HX⟩
      intro K hK
      go_simp
      refine hK _ ?_
      clear hK K hV V
      clear HX h1 hbw w1
      refine plan_one rfl rfl ?_
      intro V hV w1 h1
      go_simp
      refine (kc w1 h1.kept).mono ?_
      rintro e w2 ⟨cv, ms, rfl, hms, G1⟩
      have hmsh := Lib.hid hms
      clear hms
      obtain ⟨ca, cc, rfl, -, -⟩ := slice_form' (G1.row 0 rfl)
      have HX : St (fun _ => False) w w2 [Row 68 8 (.slice ca ms.length cc) ms.length (encP.all ms), Pool (ms.map Pm.own), Blk bw #[.int .i64 0, .slice none 0 0] 45, Blk bq #[.int .i64 q.kind, .int .i64 q.size, .int .i64 q.slide, .int .i64 q.late, .int .i64 q.agg, .int .i64 q.k] 23, Blk bs #[.int .i64 mk, .slice va l.length vc] 45, Blk bx #[.int .i64 xk, .string ⟨xy.toArray⟩, .int .i64 xt, .int .i64 xv] 56, Blk br #[.int .i64 0, .slice none 0 0] 45] := h1.call0 G1
      refine ⟨_, rfl, fun w' => St (fun _ => False) w w' [Row 68 8 (.slice ca ms.length cc) ms.length (encP.all ms), Pool (ms.map Pm.own), Blk bw #[.int .i64 0, .slice none 0 0] 45, Blk bq #[.int .i64 q.kind, .int .i64 q.size, .int .i64 q.slide, .int .i64 q.late, .int .i64 q.agg, .int .i64 q.k] 23, Blk bs #[.int .i64 mk, .slice va l.length vc] 45, Blk bx #[.int .i64 xk, .string ⟨xy.toArray⟩, .int .i64 xt, .int .i64 xv] 56, Blk br #[.int .i64 0, .slice none 0 0] 45], hV _ _ _ (fun _ h => h) (Fam.st (fun _ h => h.pick [4])) ?_, HX⟩
      intro K hK
      go_simp
      refine hK _ ?_
      clear hK K hV V
      clear HX h1 G1 w1 w2
      iterate 1 first
        | (apply plan_pass
           · rfl
           · rfl
           intro K hK
           go_simp
           refine hK _ ?_
           clear hK K)
        | (apply plan_step
           · rfl
           · rfl
           · intro I hI w1 h1'
             have h1 := hI.2 _ h1'
             first
               | (go_simp
                  first
                    | rfl
                    | exact ⟨rfl, h1'⟩
                 )
           intro K hK
           go_simp
           refine hK _ ?_
           clear hK K)
      refine plan_one rfl rfl ?_
      intro V hV w1 h1
      have r0 := h1.free 2 0 rfl
      have r1 := h1.free 2 1 rfl
      have x0 := h1.cell 2 0 rfl rfl
      have x1 := h1.cell 2 1 rfl rfl
      have H5 := (h1.set 2 rfl 0 (.int .i64 mk)).set 2 rfl 1 (.slice ca ms.length cc)
      go_simp
      refine ⟨fun w' => St (fun _ => False) w w' [Row 68 8 (.slice ca ms.length cc) ms.length (encP.all ms), Pool (ms.map Pm.own), Blk bw #[.int .i64 mk, .slice ca ms.length cc] 45, Blk bq #[.int .i64 q.kind, .int .i64 q.size, .int .i64 q.slide, .int .i64 q.late, .int .i64 q.agg, .int .i64 q.k] 23, Blk bs #[.int .i64 mk, .slice va l.length vc] 45, Blk bx #[.int .i64 xk, .string ⟨xy.toArray⟩, .int .i64 xt, .int .i64 xv] 56, Blk br #[.int .i64 0, .slice none 0 0] 45], hV _ _ _ (fun _ h => h) (Fam.st (fun _ h => h.pick [4])) ?_, H5⟩
      intro K hK
      go_simp
      refine hK _ ?_
      clear hK K hV V
      clear H5 h1 w1 r0 r1 x0 x1
      refine plan_nil ?_
      intro w9 H9
      go_wp2
      go_meet
      exact ⟨bw, ca, cc, ms, rfl, hmsh, H9⟩
  case rest =>
    obtain ⟨bw, ca, cc, ms, rfl, hmsh, HC⟩ := hcut
    clear H5
    have d0 := HC.cell 3 0 rfl rfl
    have d1 := HC.cell 3 1 rfl rfl
    have d2 := HC.cell 3 2 rfl rfl
    have d3 := HC.cell 3 3 rfl rfl
    have d4 := HC.cell 3 4 rfl rfl
    have d5 := HC.cell 3 5 rfl rfl
    have s0 := HC.cell 4 0 rfl rfl
    have s1 := HC.cell 4 1 rfl rfl
    have hcc : (sr = false ∨ (sr = true ∧ xr = false)) ∨ (sr = true ∧ xr = true) := by cases sr <;> cases xr <;> simp
    rcases hcc with hbad | ⟨rfl, rfl⟩
    · have hfr : res = ⟨⟨mk, l⟩, [], 2⟩ := by
        rw [hsteph.out, hsrh.out, hxrh.out, if_neg (by rcases hbad with h | h <;> simp [h])]
      have hfres := Lib.hid hfr
      clear hfr hsteph kmk kvt hkindh
      rcases hbad with rfl | ⟨rfl, rfl⟩
      all_goals
        go_upto_region 3 with (first
          | (go_at_call 29; go_must (refine (St.callPast (krg _ HC.kept) HC).mono ?_; rintro e w3 ⟨rfl, H6⟩; have i0 := H6.cell 5 0 rfl rfl; have i1 := H6.cell 5 1 rfl rfl; have i2 := H6.cell 5 2 rfl rfl; have i3 := H6.cell 5 3 rfl rfl))
          | (go_at_call 71; go_must (refine (St.callPast (kev _) H6).mono ?_; rintro e w4 ⟨rfl, H7⟩)))
      · skip
        have y0 := H6.cell 2 0 rfl rfl
        have y1 := H6.cell 2 1 rfl rfl
        have x0 := H6.cell 6 0 rfl rfl
        have x1 := H6.cell 6 1 rfl rfl
        have r0 := H6.free 6 0 rfl
        have r1 := H6.free 6 1 rfl
        have H8 := (H6.set 6 rfl 0 (.int .i64 mk)).set 6 rfl 1 (.slice ca ms.length cc)
        go_wp2
        try simp only [Exit.inBlock, Exit.then]
        refine bodyPost_ret (results_ctt rfl rfl (blk_range (cs := [.int .i64 mk, .slice ca ms.length cc]) (H8.blk 6 rfl)) Tryz.underlying45 rfl (by kernel_rfl)) rfl ?_
        rw [hfres.out]
        exact ⟨.slice ca ms.length cc, .slice none 0 0, ms, [], ms.map Pm.own, rfl, hmsh.out, rfl, fun m hm => List.mem_map_of_mem hm, (fun y hy => by cases hy), (H8.row_nil 63 10).pick [1, 0, 2]⟩
      · skip
        have y0 := H7.cell 2 0 rfl rfl
        have y1 := H7.cell 2 1 rfl rfl
        have x0 := H7.cell 6 0 rfl rfl
        have x1 := H7.cell 6 1 rfl rfl
        have r0 := H7.free 6 0 rfl
        have r1 := H7.free 6 1 rfl
        have H8 := (H7.set 6 rfl 0 (.int .i64 mk)).set 6 rfl 1 (.slice ca ms.length cc)
        go_wp2
        try simp only [Exit.inBlock, Exit.then]
        refine bodyPost_ret (results_ctt rfl rfl (blk_range (cs := [.int .i64 mk, .slice ca ms.length cc]) (H8.blk 6 rfl)) Tryz.underlying45 rfl (by kernel_rfl)) rfl ?_
        rw [hfres.out]
        exact ⟨.slice ca ms.length cc, .slice none 0 0, ms, [], ms.map Pm.own, rfl, hmsh.out, rfl, fun m hm => List.mem_map_of_mem hm, (fun y hy => by cases hy), (H8.row_nil 63 10).pick [1, 0, 2]⟩
    · go_upto_region 4 with (first
        | (go_at_call 29; go_must (refine (St.callPast (krg _ HC.kept) HC).mono ?_; rintro e w3 ⟨rfl, H6⟩; have i0 := H6.cell 5 0 rfl rfl; have i1 := H6.cell 5 1 rfl rfl; have i2 := H6.cell 5 2 rfl rfl; have i3 := H6.cell 5 3 rfl rfl))
        | (go_at_call 71; go_must (refine (St.callPast (kev _) H6).mono ?_; rintro e w4 ⟨rfl, H7⟩)))
      clear H6 HC d0 d1 d2 d3 d4 d5 s0 s1 i0 i1 i2 i3 krg kev
      refine wp_script [(0, false), (1, false), (2, false), (3, false), (4, false), (5, true), (6, false), (7, false), (8, true), (9, false)] (Fam fun w' => St (fun _ => False) w w' [Blk bq #[.int .i64 q.kind, .int .i64 q.size, .int .i64 q.slide, .int .i64 q.late, .int .i64 q.agg, .int .i64 q.k] 23, Blk bs #[.int .i64 mk, .slice va l.length vc] 45]) (fun w' => St (fun _ => False) w w' [Row 68 8 (.slice ca ms.length cc) ms.length (encP.all ms), Pool (ms.map Pm.own), Blk bw #[.int .i64 mk, .slice ca ms.length cc] 45, Blk bq #[.int .i64 q.kind, .int .i64 q.size, .int .i64 q.slide, .int .i64 q.late, .int .i64 q.agg, .int .i64 q.k] 23, Blk bs #[.int .i64 mk, .slice va l.length vc] 45, Blk bx #[.int .i64 xk, .string ⟨xy.toArray⟩, .int .i64 xt, .int .i64 xv] 56, Blk br #[.int .i64 0, .slice none 0 0] 45]) (by kernel_rfl) (by rfl) (by kernel_rfl) (by kernel_rfl) H7.drew (Fam.st (fun _ h => h.pick [3, 4])) ?_
      iterate 5 first
        | (apply script_pass
           · rfl
           · rfl
           intro K hK
           go_simp
           refine hK _ ?_
           clear hK K)
        | (apply script_step
           · rfl
           · rfl
           · intro I hI w1 h1'
             have h1 := hI.2 _ h1'
             have d0 := h1.cell 0 0 rfl rfl
             have d1 := h1.cell 0 1 rfl rfl
             have d2 := h1.cell 0 2 rfl rfl
             have d3 := h1.cell 0 3 rfl rfl
             have d4 := h1.cell 0 4 rfl rfl
             have d5 := h1.cell 0 5 rfl rfl
             have s0 := h1.cell 1 0 rfl rfl
             have s1 := h1.cell 1 1 rfl rfl
             first
               | (go_simp
                  first
                    | rfl
                    | exact ⟨rfl, h1'⟩
                 )
           intro K hK
           go_simp
           refine hK _ ?_
           clear hK K)
      refine script_alone rfl rfl ?_
      intro V hV w1 h1
      go_simp
      refine (kc w1 h1.kept).mono ?_
      rintro e w2 ⟨cv, ms3, rfl, hms3, G1⟩
      have hms3h := Lib.hid hms3
      clear hms3
      obtain ⟨ca2, cc2, rfl, -, -⟩ := slice_form' (G1.row 0 rfl)
      have HX : St (fun _ => False) w w2 [Row 68 8 (.slice ca2 ms3.length cc2) ms3.length (encP.all ms3), Pool (ms3.map Pm.own), Row 68 8 (.slice ca ms.length cc) ms.length (encP.all ms), Pool (ms.map Pm.own), Blk bw #[.int .i64 mk, .slice ca ms.length cc] 45, Blk bq #[.int .i64 q.kind, .int .i64 q.size, .int .i64 q.slide, .int .i64 q.late, .int .i64 q.agg, .int .i64 q.k] 23, Blk bs #[.int .i64 mk, .slice va l.length vc] 45, Blk bx #[.int .i64 xk, .string ⟨xy.toArray⟩, .int .i64 xt, .int .i64 xv] 56, Blk br #[.int .i64 0, .slice none 0 0] 45] := h1.call0 G1
      refine ⟨_, rfl, fun w' => St (fun _ => False) w w' [Row 68 8 (.slice ca2 ms3.length cc2) ms3.length (encP.all ms3), Pool (ms3.map Pm.own), Row 68 8 (.slice ca ms.length cc) ms.length (encP.all ms), Pool (ms.map Pm.own), Blk bw #[.int .i64 mk, .slice ca ms.length cc] 45, Blk bq #[.int .i64 q.kind, .int .i64 q.size, .int .i64 q.slide, .int .i64 q.late, .int .i64 q.agg, .int .i64 q.k] 23, Blk bs #[.int .i64 mk, .slice va l.length vc] 45, Blk bx #[.int .i64 xk, .string ⟨xy.toArray⟩, .int .i64 xt, .int .i64 xv] 56, Blk br #[.int .i64 0, .slice none 0 0] 45], hV _ _ _ (fun _ h => h) (Fam.st (fun _ h => h.pick [5, 6])) ?_, HX⟩
      intro K hK
      go_simp
      refine hK _ ?_
      clear hK K hV V
      clear HX h1 G1 w1 w2
      iterate 2 first
        | (apply script_pass
           · rfl
           · rfl
           intro K hK
           go_simp
           refine hK _ ?_
           clear hK K)
        | (apply script_step
           · rfl
           · rfl
           · intro I hI w1 h1'
             have h1 := hI.2 _ h1'
             first
               | (go_simp
                  first
                    | rfl
                    | exact ⟨rfl, h1'⟩
                 )
           intro K hK
           go_simp
           refine hK _ ?_
           clear hK K)
      refine script_alone rfl rfl ?_
      intro V hV w1 h1
      go_simp
      obtain ⟨bt, hbt⟩ : ∃ g, w1.heap.size = g := ⟨_, rfl⟩
      have HX : St (fun _ => False) w _ [Blk bt (stC q mk (.slice ca2 ms3.length cc2) (.slice none 0 0)) 137, Row 68 8 (.slice ca2 ms3.length cc2) ms3.length (encP.all ms3), Pool (ms3.map Pm.own), Row 68 8 (.slice ca ms.length cc) ms.length (encP.all ms), Pool (ms.map Pm.own), Blk bw #[.int .i64 mk, .slice ca ms.length cc] 45, Blk bq #[.int .i64 q.kind, .int .i64 q.size, .int .i64 q.slide, .int .i64 q.late, .int .i64 q.agg, .int .i64 q.k] 23, Blk bs #[.int .i64 mk, .slice va l.length vc] 45, Blk bx #[.int .i64 xk, .string ⟨xy.toArray⟩, .int .i64 xt, .int .i64 xv] 56, Blk br #[.int .i64 0, .slice none 0 0] 45] := h1.allocAt hbt (stC q mk (.slice ca2 ms3.length cc2) (.slice none 0 0)) 137
      simp only [hbt]
      refine ⟨fun w' => St (fun _ => False) w w' [Blk bt (stC q mk (.slice ca2 ms3.length cc2) (.slice none 0 0)) 137, Row 68 8 (.slice ca2 ms3.length cc2) ms3.length (encP.all ms3), Pool (ms3.map Pm.own), Row 68 8 (.slice ca ms.length cc) ms.length (encP.all ms), Pool (ms.map Pm.own), Blk bw #[.int .i64 mk, .slice ca ms.length cc] 45, Blk bq #[.int .i64 q.kind, .int .i64 q.size, .int .i64 q.slide, .int .i64 q.late, .int .i64 q.agg, .int .i64 q.k] 23, Blk bs #[.int .i64 mk, .slice va l.length vc] 45, Blk bx #[.int .i64 xk, .string ⟨xy.toArray⟩, .int .i64 xt, .int .i64 xv] 56, Blk br #[.int .i64 0, .slice none 0 0] 45], hV _ _ _ (fun _ h => h) (Fam.st (fun _ h => h.pick [6, 7])) ?_, HX⟩
      intro K hK
      go_simp
      refine hK _ ?_
      clear hK K hV V
      clear HX h1 hbt w1
      iterate 1 first
        | (apply script_pass
           · rfl
           · rfl
           intro K hK
           go_simp
           refine hK _ ?_
           clear hK K)
        | (apply script_step
           · rfl
           · rfl
           · intro I hI w1 h1'
             have h1 := hI.2 _ h1'
             first
               | (go_simp
                  first
                    | rfl
                    | exact ⟨rfl, h1'⟩
                 )
           intro K hK
           go_simp
           refine hK _ ?_
           clear hK K)
      refine script_nil ?_
      intro w5 H8
      have H9 : St (fun _ => False) w w5 [Blk bt (stC q mk (.slice ca2 ms3.length cc2) (.slice none 0 0)) 137, Row 68 8 (.slice ca2 ms3.length cc2) ms3.length (encP.all ms3), Row 63 10 (.slice none 0 0) 0 (encO.all []), Pool (ms3.map Pm.own), Row 68 8 (.slice ca ms.length cc) ms.length (encP.all ms), Pool (ms.map Pm.own), Blk bw #[.int .i64 mk, .slice ca ms.length cc] 45, Blk bq #[.int .i64 q.kind, .int .i64 q.size, .int .i64 q.slide, .int .i64 q.late, .int .i64 q.agg, .int .i64 q.k] 23, Blk bs #[.int .i64 mk, .slice va l.length vc] 45, Blk bx #[.int .i64 xk, .string ⟨xy.toArray⟩, .int .i64 xt, .int .i64 xv] 56, Blk br #[.int .i64 0, .slice none 0 0] 45] := (H8.row_nil 63 10).pick [1, 2, 0, 3, 4, 5, 6, 7, 8, 9, 10]
      have hms3h := (by assumption : Hid (ms3.map (·.p) = l))
      have HS := Stp.mk' (q := q) (mk := mk) (l := l) (o := []) (os := []) hms3h.out rfl (fun m hm => List.mem_map_of_mem hm) (fun y hy => by cases hy) H9
      have HS : St (fun _ => False) w w5 [Stp bt q mk l [], Row 68 8 (.slice ca ms.length cc) ms.length (encP.all ms), Pool (ms.map Pm.own), Blk bw #[.int .i64 mk, .slice ca ms.length cc] 45, Blk bq #[.int .i64 q.kind, .int .i64 q.size, .int .i64 q.slide, .int .i64 q.late, .int .i64 q.agg, .int .i64 q.k] 23, Blk bs #[.int .i64 mk, .slice va l.length vc] 45, Blk bx #[.int .i64 xk, .string ⟨xy.toArray⟩, .int .i64 xt, .int .i64 xv] 56, Blk br #[.int .i64 0, .slice none 0 0] 45] := HS
      clear H7 H8 H9 kc
      have i0 := HS.cell 6 0 rfl rfl
      have i1 := HS.cell 6 1 rfl rfl
      have i2 := HS.cell 6 2 rfl rfl
      have i3 := HS.cell 6 3 rfl rfl
      obtain ⟨S1, K1, G1⟩ := St.call (l1 := [_]) (l2 := [_, _, _, _, _, _, _]) HS
      by_cases hk2 : xk = 2
      · subst hk2
        have hfr : res = ⟨(markM q ⟨mk, l⟩ xt).1, (markM q ⟨mk, l⟩ xt).2, 0⟩ := by
          rw [hsteph.out, hsrh.out, hxrh.out]
          rfl
        have hfres := Lib.hid hfr
        have km := kmk.out hsrh.out bt w5 S1 K1
        simp only [List.nil_append] at km
        obtain ⟨MM, hMM⟩ : ∃ z, markM q ⟨mk, l⟩ xt = z := ⟨_, rfl⟩
        rw [hMM] at hfres
        simp only [hMM] at km
        clear hMM
        obtain ⟨⟨MK1, L1⟩, O1⟩ := MM
        try simp only at km
        try simp only at hfres
        clear hfr hsteph kmk kvt hkindh HS K1
        go_upto_region 10 with (go_at_call 72; go_must (refine km.mono ?_; rintro e w6 ⟨rfl, H10⟩))
        have H11 : St (fun _ => False) w w6 [Stp bt q MK1 L1 O1, Row 68 8 (.slice ca ms.length cc) ms.length (encP.all ms), Pool (ms.map Pm.own), Blk bw #[.int .i64 mk, .slice ca ms.length cc] 45, Blk bq #[.int .i64 q.kind, .int .i64 q.size, .int .i64 q.slide, .int .i64 q.late, .int .i64 q.agg, .int .i64 q.k] 23, Blk bs #[.int .i64 mk, .slice va l.length vc] 45, Blk bx #[.int .i64 2, .string ⟨xy.toArray⟩, .int .i64 xt, .int .i64 xv] 56, Blk br #[.int .i64 0, .slice none 0 0] 45] := G1 _ _ H10
        clear H10 G1 km i0 i1 i2 i3
        obtain ⟨pv, ov, ms2, os2, HH, hml2, hol2, hmo2, hoo2, HO⟩ := Stp.open H11
        have hml2h := Lib.hid hml2
        have hol2h := Lib.hid hol2
        have hmo2h := Lib.hid hmo2
        have hoo2h := Lib.hid hoo2
        clear hml2 hol2 hmo2 hoo2 H11
        obtain ⟨pa, pc, rfl, -, -⟩ := slice_form' (HO.row 1 rfl)
        obtain ⟨oa, oc, rfl, -, -⟩ := slice_form' (HO.row 2 rfl)
        have HO2 : St (fun _ => False) w _ [Blk br #[.int .i64 0, .slice none 0 0] 45, Blk bt (stC q MK1 (.slice pa ms2.length pc) (.slice oa os2.length oc)) 137, Row 68 8 (.slice pa ms2.length pc) ms2.length (encP.all ms2), Row 63 10 (.slice oa os2.length oc) os2.length (encO.all os2), Pool HH] := HO.pick [10, 0, 1, 2, 3]
        clear HO
        go_upto_region 10 with (fail)
        refine wp_script [(0, false), (1, false), (2, false), (3, false), (4, false), (5, false), (6, false), (7, false), (8, true), (9, false), (10, false)] (Fam fun w' => St (fun _ => False) w w' [Blk bt (stC q MK1 (.slice pa ms2.length pc) (.slice oa os2.length oc)) 137]) (fun w' => St (fun _ => False) w w' [Blk br #[.int .i64 0, .slice none 0 0] 45, Blk bt (stC q MK1 (.slice pa ms2.length pc) (.slice oa os2.length oc)) 137, Row 68 8 (.slice pa ms2.length pc) ms2.length (encP.all ms2), Row 63 10 (.slice oa os2.length oc) os2.length (encO.all os2), Pool HH]) (by kernel_rfl) (by rfl) (by kernel_rfl) (by kernel_rfl) HO2.drew (Fam.st (fun _ h => h.pick [1])) ?_
        iterate 8 first
          | (apply script_pass
             · rfl
             · rfl
             intro K hK
             go_simp
             refine hK _ ?_
             clear hK K)
          | (apply script_step
             · rfl
             · rfl
             · intro I hI w1 h1'
               have h1 := hI.2 _ h1'
               have c6 := h1.cell 0 6 rfl rfl
               have c7 := h1.cell 0 7 rfl rfl
               have c8 := h1.cell 0 8 rfl rfl
               first
                 | (go_simp
                    first
                      | rfl
                      | exact ⟨rfl, h1'⟩
                   )
             intro K hK
             go_simp
             refine hK _ ?_
             clear hK K)
        refine script_alone rfl rfl ?_
        intro V hV w1 h1
        have r0 := h1.free 0 0 rfl
        have r1 := h1.free 0 1 rfl
        have x0 := h1.cell 0 0 rfl rfl
        have x1 := h1.cell 0 1 rfl rfl
        have HX := (h1.set 0 rfl 0 (.int .i64 MK1)).set 0 rfl 1 (.slice pa ms2.length pc)
        go_simp
        refine ⟨fun w' => St (fun _ => False) w w' [Blk br #[.int .i64 MK1, .slice pa ms2.length pc] 45, Blk bt (stC q MK1 (.slice pa ms2.length pc) (.slice oa os2.length oc)) 137, Row 68 8 (.slice pa ms2.length pc) ms2.length (encP.all ms2), Row 63 10 (.slice oa os2.length oc) os2.length (encO.all os2), Pool HH], hV _ _ _ (fun _ h => h) (Fam.st (fun _ h => h.pick [1])) ?_, HX⟩
        intro K hK
        go_simp
        refine hK _ ?_
        clear hK K hV V
        clear HX h1 w1 r0 r1 x0 x1
        iterate 2 first
          | (apply script_pass
             · rfl
             · rfl
             intro K hK
             go_simp
             refine hK _ ?_
             clear hK K)
          | (apply script_step
             · rfl
             · rfl
             · intro I hI w1 h1'
               have h1 := hI.2 _ h1'
               first
                 | (go_simp
                    first
                      | rfl
                      | exact ⟨rfl, h1'⟩
                   )
             intro K hK
             go_simp
             refine hK _ ?_
             clear hK K)
        refine script_nil ?_
        intro w9 H9
        go_wp2
        try simp only [Exit.inBlock, Exit.then]
        refine bodyPost_ret (results_ctt rfl rfl (blk_range (cs := [.int .i64 MK1, .slice pa ms2.length pc]) (H9.blk 0 rfl)) Tryz.underlying45 rfl (by kernel_rfl)) rfl ?_
        rw [hfres.out]
        exact ⟨.slice pa ms2.length pc, .slice oa os2.length oc, ms2, os2, HH, rfl, hml2h.out, hol2h.out, hmo2h.out, hoo2h.out, H9.pick [2, 3, 4]⟩
      · have hk1 := hkindh.out hxrh.out hk2
        subst hk1
        have hfr : res = eventM q ⟨mk, l⟩ ⟨1, xy, xt, xv⟩ := by
          rw [hsteph.out, hsrh.out, hxrh.out]
          rfl
        have kv := kvt.out hsrh.out hxrh.out rfl bt w5 S1 K1
        unfold eventM at hfr
        try simp only at hfr
        obtain ⟨LS, hLS⟩ : ∃ z, laysM q mk xv (winsOf q xy xt) ⟨l, [], false⟩ = z := ⟨_, rfl⟩
        rw [hLS] at hfr kv
        unfold EvOk at kv
        clear hLS hsteph kmk kvt hkindh HS K1 hk2
        unfold itmV textV at kv
        simp only at kv
        cases LS with
        | none =>
          simp only at hfr kv
          have hfres := Lib.hid hfr
          clear hfr
          go_upto_region 9 with (go_at_call 73; go_must (refine kv.mono ?_; rintro e w6 ⟨rfl, H10⟩))
          have H11 : St (fun _ => False) w w6 [Row 68 8 (.slice ca ms.length cc) ms.length (encP.all ms), Pool (ms.map Pm.own), Blk bw #[.int .i64 mk, .slice ca ms.length cc] 45, Blk bq #[.int .i64 q.kind, .int .i64 q.size, .int .i64 q.slide, .int .i64 q.late, .int .i64 q.agg, .int .i64 q.k] 23, Blk bs #[.int .i64 mk, .slice va l.length vc] 45, Blk bx #[.int .i64 1, .string ⟨xy.toArray⟩, .int .i64 xt, .int .i64 xv] 56, Blk br #[.int .i64 0, .slice none 0 0] 45] := G1 _ _ H10
          clear H10 G1 kv i0 i1 i2 i3
          have y0 := H11.cell 2 0 rfl rfl
          have y1 := H11.cell 2 1 rfl rfl
          have x0 := H11.cell 6 0 rfl rfl
          have x1 := H11.cell 6 1 rfl rfl
          have r0 := H11.free 6 0 rfl
          have r1 := H11.free 6 1 rfl
          have H12 := (H11.set 6 rfl 0 (.int .i64 mk)).set 6 rfl 1 (.slice ca ms.length cc)
          go_wp2
          try simp only [Exit.inBlock, Exit.then]
          refine bodyPost_ret (results_ctt rfl rfl (blk_range (cs := [.int .i64 mk, .slice ca ms.length cc]) (H12.blk 6 rfl)) Tryz.underlying45 rfl (by kernel_rfl)) rfl ?_
          rw [hfres.out]
          exact ⟨.slice ca ms.length cc, .slice none 0 0, ms, [], ms.map Pm.own, rfl, hmsh.out, rfl, fun m hm => List.mem_map_of_mem hm, (fun y hy => by cases hy), (H12.row_nil 63 10).pick [1, 0, 2]⟩
        | some y =>
          simp only at hfr kv
          by_cases hfull : 256 < y.panes.length
          · simp only [if_pos hfull] at hfr kv
            have hfres := Lib.hid hfr
            clear hfr
            go_upto_region 9 with (go_at_call 73; go_must (refine kv.mono ?_; rintro e w6 ⟨rfl, H10⟩))
            have H11 : St (fun _ => False) w w6 [Row 68 8 (.slice ca ms.length cc) ms.length (encP.all ms), Pool (ms.map Pm.own), Blk bw #[.int .i64 mk, .slice ca ms.length cc] 45, Blk bq #[.int .i64 q.kind, .int .i64 q.size, .int .i64 q.slide, .int .i64 q.late, .int .i64 q.agg, .int .i64 q.k] 23, Blk bs #[.int .i64 mk, .slice va l.length vc] 45, Blk bx #[.int .i64 1, .string ⟨xy.toArray⟩, .int .i64 xt, .int .i64 xv] 56, Blk br #[.int .i64 0, .slice none 0 0] 45] := G1 _ _ H10
            clear H10 G1 kv i0 i1 i2 i3 hfull
            have y0 := H11.cell 2 0 rfl rfl
            have y1 := H11.cell 2 1 rfl rfl
            have x0 := H11.cell 6 0 rfl rfl
            have x1 := H11.cell 6 1 rfl rfl
            have r0 := H11.free 6 0 rfl
            have r1 := H11.free 6 1 rfl
            have H12 := (H11.set 6 rfl 0 (.int .i64 mk)).set 6 rfl 1 (.slice ca ms.length cc)
            go_wp2
            try simp only [Exit.inBlock, Exit.then]
            refine bodyPost_ret (results_ctt rfl rfl (blk_range (cs := [.int .i64 mk, .slice ca ms.length cc]) (H12.blk 6 rfl)) Tryz.underlying45 rfl (by kernel_rfl)) rfl ?_
            rw [hfres.out]
            exact ⟨.slice ca ms.length cc, .slice none 0 0, ms, [], ms.map Pm.own, rfl, hmsh.out, rfl, fun m hm => List.mem_map_of_mem hm, (fun y hy => by cases hy), (H12.row_nil 63 10).pick [1, 0, 2]⟩
          · simp only [if_neg hfull] at hfr kv
            obtain ⟨O1, hO1⟩ : ∃ z, (if y.taken = true then y.outs else y.outs ++ [lateO ⟨1, xy, xt, xv⟩]) = z := ⟨_, rfl⟩
            rw [hO1] at hfr kv
            have hfres := Lib.hid hfr
            obtain ⟨MK1, hMK1⟩ : ∃ z, z = mk := ⟨_, rfl⟩
            obtain ⟨L1, hL1⟩ : ∃ z, y.panes = z := ⟨_, rfl⟩
            rw [hL1] at kv hfres
            clear hfr hO1 hfull hL1
            go_upto_region 10 with (go_at_call 73; go_must (refine kv.mono ?_; rintro e w6 ⟨rfl, H10⟩))
            have H11 : St (fun _ => False) w w6 [Stp bt q mk L1 O1, Row 68 8 (.slice ca ms.length cc) ms.length (encP.all ms), Pool (ms.map Pm.own), Blk bw #[.int .i64 mk, .slice ca ms.length cc] 45, Blk bq #[.int .i64 q.kind, .int .i64 q.size, .int .i64 q.slide, .int .i64 q.late, .int .i64 q.agg, .int .i64 q.k] 23, Blk bs #[.int .i64 mk, .slice va l.length vc] 45, Blk bx #[.int .i64 1, .string ⟨xy.toArray⟩, .int .i64 xt, .int .i64 xv] 56, Blk br #[.int .i64 0, .slice none 0 0] 45] := G1 _ _ H10
            clear H10 G1 kv i0 i1 i2 i3
            rw [← hMK1] at H11 hfres
            clear hMK1
            obtain ⟨pv, ov, ms2, os2, HH, hml2, hol2, hmo2, hoo2, HO⟩ := Stp.open H11
            have hml2h := Lib.hid hml2
            have hol2h := Lib.hid hol2
            have hmo2h := Lib.hid hmo2
            have hoo2h := Lib.hid hoo2
            clear hml2 hol2 hmo2 hoo2 H11
            obtain ⟨pa, pc, rfl, -, -⟩ := slice_form' (HO.row 1 rfl)
            obtain ⟨oa, oc, rfl, -, -⟩ := slice_form' (HO.row 2 rfl)
            have HO2 : St (fun _ => False) w _ [Blk br #[.int .i64 0, .slice none 0 0] 45, Blk bt (stC q MK1 (.slice pa ms2.length pc) (.slice oa os2.length oc)) 137, Row 68 8 (.slice pa ms2.length pc) ms2.length (encP.all ms2), Row 63 10 (.slice oa os2.length oc) os2.length (encO.all os2), Pool HH] := HO.pick [10, 0, 1, 2, 3]
            clear HO
            go_upto_region 10 with (fail)
            refine wp_script [(0, false), (1, false), (2, false), (3, false), (4, false), (5, false), (6, false), (7, false), (8, true), (9, false), (10, false)] (Fam fun w' => St (fun _ => False) w w' [Blk bt (stC q MK1 (.slice pa ms2.length pc) (.slice oa os2.length oc)) 137]) (fun w' => St (fun _ => False) w w' [Blk br #[.int .i64 0, .slice none 0 0] 45, Blk bt (stC q MK1 (.slice pa ms2.length pc) (.slice oa os2.length oc)) 137, Row 68 8 (.slice pa ms2.length pc) ms2.length (encP.all ms2), Row 63 10 (.slice oa os2.length oc) os2.length (encO.all os2), Pool HH]) (by kernel_rfl) (by rfl) (by kernel_rfl) (by kernel_rfl) HO2.drew (Fam.st (fun _ h => h.pick [1])) ?_
            iterate 8 first
              | (apply script_pass
                 · rfl
                 · rfl
                 intro K hK
                 go_simp
                 refine hK _ ?_
                 clear hK K)
              | (apply script_step
                 · rfl
                 · rfl
                 · intro I hI w1 h1'
                   have h1 := hI.2 _ h1'
                   have c6 := h1.cell 0 6 rfl rfl
                   have c7 := h1.cell 0 7 rfl rfl
                   have c8 := h1.cell 0 8 rfl rfl
                   first
                     | (go_simp
                        first
                          | rfl
                          | exact ⟨rfl, h1'⟩
                       )
                 intro K hK
                 go_simp
                 refine hK _ ?_
                 clear hK K)
            refine script_alone rfl rfl ?_
            intro V hV w1 h1
            have r0 := h1.free 0 0 rfl
            have r1 := h1.free 0 1 rfl
            have x0 := h1.cell 0 0 rfl rfl
            have x1 := h1.cell 0 1 rfl rfl
            have HX := (h1.set 0 rfl 0 (.int .i64 MK1)).set 0 rfl 1 (.slice pa ms2.length pc)
            go_simp
            refine ⟨fun w' => St (fun _ => False) w w' [Blk br #[.int .i64 MK1, .slice pa ms2.length pc] 45, Blk bt (stC q MK1 (.slice pa ms2.length pc) (.slice oa os2.length oc)) 137, Row 68 8 (.slice pa ms2.length pc) ms2.length (encP.all ms2), Row 63 10 (.slice oa os2.length oc) os2.length (encO.all os2), Pool HH], hV _ _ _ (fun _ h => h) (Fam.st (fun _ h => h.pick [1])) ?_, HX⟩
            intro K hK
            go_simp
            refine hK _ ?_
            clear hK K hV V
            clear HX h1 w1 r0 r1 x0 x1
            iterate 2 first
              | (apply script_pass
                 · rfl
                 · rfl
                 intro K hK
                 go_simp
                 refine hK _ ?_
                 clear hK K)
              | (apply script_step
                 · rfl
                 · rfl
                 · intro I hI w1 h1'
                   have h1 := hI.2 _ h1'
                   first
                     | (go_simp
                        first
                          | rfl
                          | exact ⟨rfl, h1'⟩
                       )
                 intro K hK
                 go_simp
                 refine hK _ ?_
                 clear hK K)
            refine script_nil ?_
            intro w9 H9
            go_wp2
            try simp only [Exit.inBlock, Exit.then]
            refine bodyPost_ret (results_ctt rfl rfl (blk_range (cs := [.int .i64 MK1, .slice pa ms2.length pc]) (H9.blk 0 rfl)) Tryz.underlying45 rfl (by kernel_rfl)) rfl ?_
            rw [hfres.out]
            exact ⟨.slice pa ms2.length pc, .slice oa os2.length oc, ms2, os2, HH, rfl, hml2h.out, hol2h.out, hmo2h.out, hoo2h.out, H9.pick [2, 3, 4]⟩

end Go.Proofs.YtiglgfonhdfpmaaGreat

/- Lanes in memory: their cells, what each holds, the whole as one part; lists of parts. Laws. -/
set_option linter.unusedVariables false
set_option linter.unusedSimpArgs false
namespace Go.Proofs.YtiglgfonhdfpmaaGreat
open Go.RowKit

theorem Sep.perm {w : World} {l l' : List SP} (h : l.Perm l') : ∀ {S : Nat → Prop}, Sep w l S → Sep w l' S := by
  induction h with
  | nil => exact fun h => h
  | cons A _ ih => exact fun ⟨S1, h1, h2, h3⟩ => ⟨S1, h1, h2, ih h3⟩
  | swap A B l =>
    intro S ⟨S1, h1, h2, S2, g1, g2, g3⟩
    exact ⟨S2, g1, fun k hk => (g2 k hk).1, S1, h1, fun k hk => ⟨h2 k hk, fun c => (g2 k c).2 hk⟩, g3.mono fun k _ a => ⟨⟨a.1.1, a.2⟩, a.1.2⟩⟩
  | trans _ _ ih1 ih2 => exact fun h => ih2 (ih1 h)
section
variable {α : Type} {f : α → SP} {S : Nat → Prop} {w0 w : World} {l : List α} {L : List SP}
theorem St.perm {l1 l2 : List SP} (H : St S w0 w l1) (h : l1.Perm l2) : St S w0 w l2 := ⟨H.kept, H.sep.perm h⟩
/-- Many parts of a kind. -/
def Many (f : α → SP) (l : List α) : SP := SP.all (l.map f)
theorem Many.nil (H : St S w0 w L) : St S w0 w (Many f [] :: L) := St.all_iff.2 H
theorem Many.snoc {x : α} (H : St S w0 w (Many f l :: f x :: L)) : St S w0 w (Many f (l ++ [x]) :: L) := by
  refine St.all_iff.2 ?_
  rw [List.map_append, List.append_assoc]
  exact St.all_iff.1 H
theorem Many.one {x : α} (H : St S w0 w (f x :: L)) : St S w0 w (Many f [x] :: L) := St.all_iff.2 H
theorem Many.app {m : List α} (H : St S w0 w (Many f l :: Many f m :: L)) : St S w0 w (Many f (l ++ m) :: L) := by
  refine St.all_iff.2 ?_
  rw [List.map_append, List.append_assoc]
  have h1 := St.all_iff.1 H
  have h2 : St S w0 w (Many f m :: (l.map f ++ L)) := h1.perm List.perm_middle
  refine (St.all_iff.1 h2).perm ?_
  rw [← List.append_assoc, ← List.append_assoc]
  exact List.Perm.append_right _ List.perm_append_comm
theorem Many.split {m : List α} (H : St S w0 w (Many f (l ++ m) :: L)) : St S w0 w (Many f l :: Many f m :: L) := by
  refine St.all_iff.2 ?_
  have h1 := St.all_iff.1 H
  rw [List.map_append] at h1
  refine St.perm (l1 := Many f m :: (l.map f ++ L)) ?_ List.perm_middle.symm
  refine St.all_iff.2 (h1.perm ?_)
  rw [← List.append_assoc]
  exact List.Perm.append_right _ List.perm_append_comm
theorem erase_map {β : Type} {g : α → β} : ∀ (l : List α) (i : Nat), (l.map g).eraseIdx i = (l.eraseIdx i).map g
  | [], i => by simp
  | a :: l, 0 => rfl
  | a :: l, i + 1 => by rw [List.map_cons, List.eraseIdx_cons_succ, erase_map l i]; rfl
/-- The i-th of them apart, and back. -/
theorem Many.out {i : Nat} {x : α} (H : St S w0 w (Many f l :: L)) (hx : l[i]? = some x) : St S w0 w (f x :: Many f (l.eraseIdx i) :: L) := by
  have h1 := St.all_iff.1 H
  have hlt := (List.getElem?_eq_some_iff.1 hx).1
  have h2 : St S w0 w (f x :: (l.map f ++ L).eraseIdx i) := h1.front i (by rw [List.getElem?_append_left (by simpa using hlt), List.getElem?_map, hx]; rfl)
  rw [List.eraseIdx_append_of_lt_length (by simpa using hlt), erase_map] at h2
  have h3 : St S w0 w ((l.eraseIdx i).map f ++ (f x :: L)) := h2.perm List.perm_middle.symm
  have h4 : St S w0 w (Many f (l.eraseIdx i) :: f x :: L) := St.all_iff.2 h3
  exact h4.perm (List.Perm.swap _ _ _)
theorem erase_perm {i : Nat} {y : α} : ∀ {l : List α}, i < l.length → (y :: l.eraseIdx i).Perm (l.set i y) := by
  induction i with
  | zero =>
    intro l h
    cases l with
    | nil => simp at h
    | cons a l => exact List.Perm.refl _
  | succ i ih =>
    intro l h
    cases l with
    | nil => simp at h
    | cons a l =>
      rw [List.eraseIdx_cons_succ, List.set_cons_succ]
      exact (List.Perm.swap _ _ _).trans ((ih (by simpa using h)).cons a)
theorem Many.back {i : Nat} {y : α} (H : St S w0 w (f y :: Many f (l.eraseIdx i) :: L)) (hi : i < l.length) : St S w0 w (Many f (l.set i y) :: L) := by
  refine St.all_iff.2 ?_
  have h1 : St S w0 w (Many f (l.eraseIdx i) :: f y :: L) := H.perm (List.Perm.swap _ _ _)
  have h2 := St.all_iff.1 h1
  have h3 : St S w0 w (f y :: ((l.eraseIdx i).map f ++ L)) := h2.perm List.perm_middle
  refine h3.perm ?_
  rw [← List.cons_append]
  refine List.Perm.append_right _ ?_
  rw [← List.map_cons]
  exact (erase_perm hi).map f
end

/-- A lane with where its panes and outs lie. -/
structure Lm where
  q : Qry
  mr : Int
  ps : List Pm
  pa : Option Addr
  pc : Nat
  os : List Om
  oa : Option Addr
  oc : Nat
abbrev Lm.ph (y : Lm) : Value := .slice y.pa y.ps.length y.pc
abbrev Lm.oh (y : Lm) : Value := .slice y.oa y.os.length y.oc
abbrev lmC (y : Lm) : Array Value := #[.int .i64 y.q.kind, .int .i64 y.q.size, .int .i64 y.q.slide, .int .i64 y.q.late, .int .i64 y.q.agg, .int .i64 y.q.k, .int .i64 y.mr, y.ph, y.oh]
def encL : Enc Lm where
  cells y := (lmC y).toList
  k := 9
  len _ := rfl
  pos := by decide
  one m v hv := by
    simp only [lmC, List.mem_cons, List.not_mem_nil, or_false] at hv
    rcases hv with rfl | rfl | rfl | rfl | rfl | rfl | rfl | rfl | rfl <;> rfl
def Lm.ln (y : Lm) : Ln := ⟨y.q, ⟨y.mr, y.ps.map (·.p)⟩, y.os.map (·.o)⟩
def LmP (y : Lm) : SP := Row 68 8 y.ph y.ps.length (encP.all y.ps)
def LmO (y : Lm) : SP := Row 63 10 y.oh y.os.length (encO.all y.os)
def Lm.own (H : List (Value × List Int)) (y : Lm) : Prop := (∀ m ∈ y.ps, m.own ∈ H) ∧ ∀ o ∈ y.os, o.own ∈ H
/-- What lies behind lanes' address. -/
structure LnX where
  ms : List Lm
  la : Option Addr
  lc : Nat
  ia : Option Addr
  ic : Nat
  H : List (Value × List Int)
def LnX.good (x : LnX) (l : List Ln) : Prop := x.ms.map Lm.ln = l ∧ ∀ y ∈ x.ms, y.own x.H
def LnsAt (b : Nat) (l : List Ln) (items : List Itm) : SP :=
  SP.ex fun x : LnX => SP.all [SP.pure (x.good l), Blk b #[.slice x.la x.ms.length x.lc, .slice x.ia items.length x.ic] 153, Row 155 9 (.slice x.la x.ms.length x.lc) x.ms.length (encL.all x.ms), Row 56 4 (.slice x.ia items.length x.ic) items.length (itms items), Many LmP x.ms, Many LmO x.ms, Pool x.H]
section
variable {S : Nat → Prop} {w0 w : World} {L : List SP} {b : Nat} {l : List Ln} {items : List Itm}
theorem LnsAt.open (h : St S w0 w (LnsAt b l items :: L)) : ∃ (ms : List Lm) (la : Option Addr) (lc : Nat) (ia : Option Addr) (ic : Nat) (H : List (Value × List Int)), ms.map Lm.ln = l ∧ (∀ y ∈ ms, y.own H) ∧
    St S w0 w (Blk b #[.slice la ms.length lc, .slice ia items.length ic] 153 :: Row 155 9 (.slice la ms.length lc) ms.length (encL.all ms) :: Row 56 4 (.slice ia items.length ic) items.length (itms items) :: Many LmP ms :: Many LmO ms :: Pool H :: L) := by
  obtain ⟨⟨ms, la, lc, ia, ic, H⟩, h2⟩ := St.ex_iff.1 h
  have h3 := St.all_iff.1 h2
  obtain ⟨⟨g1, g2⟩, h4⟩ := St.pure_iff.1 h3
  exact ⟨ms, la, lc, ia, ic, H, g1, g2, h4⟩
theorem LnsAt.mk {ms : List Lm} {la : Option Addr} {lc : Nat} {ia : Option Addr} {ic : Nat} {H : List (Value × List Int)} (g1 : ms.map Lm.ln = l) (g2 : ∀ y ∈ ms, y.own H)
    (h : St S w0 w (Blk b #[.slice la ms.length lc, .slice ia items.length ic] 153 :: Row 155 9 (.slice la ms.length lc) ms.length (encL.all ms) :: Row 56 4 (.slice ia items.length ic) items.length (itms items) :: Many LmP ms :: Many LmO ms :: Pool H :: L)) : St S w0 w (LnsAt b l items :: L) :=
  St.ex_iff.2 ⟨⟨ms, la, lc, ia, ic, H⟩, St.all_iff.2 (St.pure_iff.2 ⟨⟨g1, g2⟩, h⟩)⟩
end
abbrev lmZ : Value := .agg #[.int .i64 0, .int .i64 0, .int .i64 0, .int .i64 0, .int .i64 0, .int .i64 0, .int .i64 0, .slice none 0 0, .slice none 0 0]
theorem Tryz.info155 : (Tryz.prog.info? 155).map (fun i => (i.zero, i.size, i.bytes)) = some (some lmZ, 9, 104) := by kernel_rfl
/-- The cells of the i-th lane of a row. -/
theorem lm_row {w : World} {v : Value} {n : Nat} {ms : List Lm} (h : w.ownsRow 0 155 9 v n (encL.all ms)) {i : Nat} {y : Lm} (hy : ms[i]? = some y) : ∃ g cap, v = .slice (some ⟨g, 0, none⟩) n cap ∧
    w.cell? ⟨g, i * 9, none⟩ = some (.int .i64 y.q.kind) ∧ w.cell? ⟨g, i * 9 + 1, none⟩ = some (.int .i64 y.q.size) ∧ w.cell? ⟨g, i * 9 + 2, none⟩ = some (.int .i64 y.q.slide) ∧ w.cell? ⟨g, i * 9 + 3, none⟩ = some (.int .i64 y.q.late) ∧ w.cell? ⟨g, i * 9 + 4, none⟩ = some (.int .i64 y.q.agg) ∧
    w.cell? ⟨g, i * 9 + 5, none⟩ = some (.int .i64 y.q.k) ∧ w.cell? ⟨g, i * 9 + 6, none⟩ = some (.int .i64 y.mr) ∧ w.cell? ⟨g, i * 9 + 7, none⟩ = some y.ph ∧ w.cell? ⟨g, i * 9 + 8, none⟩ = some y.oh := by
  have h9 : 0 < n := by
    have := h.1
    rw [encL.all_len] at this
    have hlt := (List.getElem?_eq_some_iff.1 hy).1
    have h9 : encL.k = 9 := rfl
    rw [h9] at this
    omega
  rcases id h.2 with ⟨_, h0⟩ | ⟨g, cap, cur, rfl, _⟩
  · omega
  · exact ⟨g, cap, rfl, own_cell h (encL.get (j := 0) hy rfl), own_cell h (encL.get (j := 1) hy rfl), own_cell h (encL.get (j := 2) hy rfl), own_cell h (encL.get (j := 3) hy rfl), own_cell h (encL.get (j := 4) hy rfl), own_cell h (encL.get (j := 5) hy rfl), own_cell h (encL.get (j := 6) hy rfl), own_cell h (encL.get (j := 7) hy rfl), own_cell h (encL.get (j := 8) hy rfl)⟩

end Go.Proofs.YtiglgfonhdfpmaaGreat

/- slices.Clone at outs, the lanes' copied. Condition: so many. (Printed by a program of mine out of PnB.) -/
set_option linter.unusedVariables false
set_option linter.unusedSimpArgs false
namespace Go.Proofs.YtiglgfonhdfpmaaGreat
open Go.RowKit

set_option maxHeartbeats 1000000 in
set_option maxRecDepth 100000 in
theorem ots_clone {v : Value} {l : List Om} {w : World} (hv : encO.RO w v l) (hl : l.length ≤ 1073741824) :
    Calls Tryz.prog 151 #[v] w fun e w' => ∃ v', e = .returned v' ∧ St (fun _ => False) w w' [Row 63 10 v' l.length (encO.all l)] := by
  obtain ⟨ad, cap, rfl, h0, hcell⟩ := hv.cells
  cases ad with
  | none =>
    obtain rfl := h0 rfl
    have hq := fun w => Lib.run_eql_slice_nil (P := Tryz.prog) w 46 63 none 0 cap 0 0 Tryz.underlying46
    go_enter Tryz.func151, Tryz.ntmps151
    go_wp2
    go_ret
    exact ⟨_, rfl, (St.nil _ w).row_nil 63 10⟩
  | some a =>
    have hnew : St (fun _ => False) w (w.alloc (.cells #[] 63)) [Row 63 10 (.slice (some ⟨w.heap.size, 0, none⟩) 0 0) 0 []] := by
      refine ⟨(Kept.refl _ _).alloc _, fun k => k = w.heap.size, ⟨?_, fun k => by simp [Value.ownBlock, eq_comm]⟩, fun k h => .inr (by omega), trivial⟩
      exact World.ownsRow_lit w #[] 0 (Nat.zero_le _) (by simp [maxLen]) rfl
    have hnews : ∀ p, some a = some p → ∀ j u, (encO.all l)[j]? = some u → (w.alloc (.cells #[] 63)).cell? (p.add j) = some u := fun p hp j u hj => Lib.cell?_alloc_some _ (hcell p hp j u hj)
    have hlen := encO.all_len l
    have hb : (0 + l.length) * 112 ≤ 140737488355328 := by omega
    have h1 := encO.all_one1 l
    clear hcell h0
    have hq := fun w => Lib.run_eql_slice_nil (P := Tryz.prog) w 46 63 (some a) l.length cap 0 0 Tryz.underlying46
    go_enter Tryz.func151, Tryz.ntmps151
    go_wp2_with (at_builtin; go_must (refine St.list_add hnew 0 rfl rfl (.tmp 5) (.tmp 6) 46 rfl Tryz.underlying46 Tryz.info63 (by decide) rfl (encO.all l) rfl hlen (by intro h; cases h) hnews h1 hb ?_; intro v' w1 H1 hz))
    go_ret
    exact ⟨v', rfl, by simpa using H1⟩

/-- The list of numbers of an out of a block. -/
theorem ot_blk {w : World} {g : Nat} {L : List Om} {R : List Value} {t : TypeId} (h : w.heap[g]? = some (.cells (encO.all L ++ R).toArray t (0, 0))) {i : Nat} {x : Om} (hx : L[i]? = some x) : w.cell? ⟨g, i * 10 + 9, none⟩ = some x.hd := by
  have h2 := encO.get hx (show (encO.cells x)[9]? = some x.hd from rfl)
  have hlt := (List.getElem?_eq_some_iff.1 h2).1
  refine cell_blk' h ?_
  rw [List.getElem?_toArray, List.getElem?_append_left (show i * 10 + 9 < _ from hlt)]
  exact h2

set_option maxHeartbeats 4000000 in
set_option maxRecDepth 100000 in
theorem lns_copied {v : Value} {l : List Ot} {w : World} (hv : OtsRO w v l) (hl : l.length ≤ 1073741824) (ht : ∀ p ∈ l, p.value.length ≤ 1073741824) :
    Calls Tryz.prog 84 #[v] w fun e w' => ∃ v' ms, e = .returned v' ∧ ms.map (·.o) = l ∧ St (fun _ => False) w w' [Row 63 10 v' ms.length (encO.all ms), Pool (ms.map Om.own)] := by
  obtain ⟨ms, rfl, hv, hro⟩ := hv
  rw [List.length_map] at hl
  have kcl := ots_clone hv hl
  have hroh := Lib.hid hro
  have hth := Lib.hid (fun m (hm : m ∈ ms) => ht m.o (List.mem_map.2 ⟨m, hm, rfl⟩))
  obtain ⟨ad0, cap0, rfl, -, -⟩ := hv
  clear ht hro
  go_enter Tryz.func84, Tryz.ntmps84
  go_upto_block 1 with (go_at_call 151; go_must (refine kcl.mono ?_; rintro e w2 ⟨v2, rfl, H2⟩; obtain ⟨ad, cap, rfl, hcp, hown⟩ := slice_form' (H2.row 0 rfl)))
  clear kcl
  by_cases hn : ms = []
  · subst hn
    have H3 : St (fun _ => False) w w2 [Pool [], Row 63 10 (.slice ad 0 cap) 0 []] := H2.pool_nil
    go_loopw [4, 9] (fun _ j wr => j = .int .i64 0 ∧ St (fun _ => False) w wr [Pool [], Row 63 10 (.slice ad 0 cap) 0 []]) (fun _ _ _ => 0)
    case atStart => exact ⟨rfl, H3⟩
    case round =>
      clear H2 H3
      obtain ⟨rfl, HM⟩ := hrel
      go_wp2
      go_ret
      exact ⟨_, [], rfl, rfl, HM.pick [1, 0]⟩
  · have hne : ms.length ≠ 0 := fun h => hn (List.eq_nil_of_length_eq_zero h)
    obtain ⟨g, cap', R, hv', hnc, hcm, hxl, hcs, HB⟩ := H2.row_blk 0 rfl hne
    obtain ⟨rfl, rfl⟩ : ad = some ⟨g, 0, none⟩ ∧ cap = cap' := by injection hv' with h1 _ h2; exact ⟨h1, h2⟩
    have HB : St (fun _ => False) w w2 [Blk g (encO.all ms ++ R).toArray 63] := HB
    have HB2 : St (fun _ => False) w w2 [Pool [], Blk g (encO.all ms ++ R).toArray 63] := HB.pool_nil
    clear H2 HB hv' hown hn
    go_loopw [4, 9] (fun _ j wr => ∃ (i : Nat) (L : List Om), i ≤ ms.length ∧ j = .int .i64 i ∧ Hid (L.map (·.o) = ms.map (·.o)) ∧ Hid (L.drop i = ms.drop i) ∧ St (fun _ => False) w wr [Pool ((L.take i).map Om.own), Blk g (encO.all L ++ R).toArray 63]) (fun _ j _ => ms.length - (intOf j).toNat)
    case atStart => exact ⟨0, ms, by omega, rfl, Lib.hid rfl, Lib.hid rfl, HB2⟩
    case round =>
      clear HB2
      obtain ⟨i, L, hi, rfl, hM, hD, HM⟩ := hrel
      have hLl : L.length = ms.length := by have := congrArg List.length hM.out; simpa using this
      by_cases hlt : i < ms.length
      · obtain ⟨x, hx⟩ : ∃ x, ms[i]? = some x := ⟨_, List.getElem?_eq_getElem hlt⟩
        have hxL : L[i]? = some x := by
          have e1 : (L.drop i)[0]? = L[i]? := by simp
          have e2 : (ms.drop i)[0]? = ms[i]? := by simp
          rw [← e1, hD.out, e2, hx]
        have hxm := List.mem_of_getElem? hx
        have kc := ints_clone ((hroh.out x hxm).later HM.kept) (hth.out x hxm)
        have q5 := ot_blk (HM.blk 1 rfl) hxL
        have f5 := HM.free 1 (i * 10 + 9) rfl
        have hlt2 : (i : Int) < (ms.length : Int) := by omega
        have hro5 := hroh.out x hxm
        have hxLh := Lib.hid hxL
        clear hx hxL hLl
        obtain ⟨⟨xl, ⟨zk, zy, zt, zv⟩, ⟨xk, xf, xt⟩, xr, gt⟩, xa, xc⟩ := x
        unfold Om.hd at q5 kc hro5
        simp only at q5 kc hro5
        go_wp2_with (go_at_call 82; go_must (refine kc.mono ?_; rintro e w5 ⟨v5, rfl, H5⟩; obtain ⟨ax, cx, rfl, -, -⟩ := slice_form' (H5.row 0 rfl); have H6 := HM.call0 H5; have f5 := H6.free 2 (i * 10 + 9) rfl; have q5 : w5.cell? ⟨g, i * 10 + 9, none⟩ = some (.slice xa gt.length xc) := (ot_blk (H6.blk 2 rfl) hxLh.out))) 
        have H7 := H6.set 2 rfl (i * 10 + 9) (.slice ax gt.length cx)
        rw [show (encO.all L ++ R).toArray.setIfInBounds (i * 10 + 9) (.slice ax gt.length cx) = (encO.all (L.set i ⟨⟨xl, ⟨zk, zy, zt, zv⟩, ⟨xk, xf, xt⟩, xr, gt⟩, ax, cx⟩) ++ R).toArray from encO.set1 (j := 9) hxLh.out (by decide) rfl] at H7
        have H8 := St.pool_add (l := [_]) H7 (ints_own (H7.row 0 rfl) (ints_lim hro5))
        go_roundw
        case rel =>
          have hiL : i < L.length := (List.getElem?_eq_some_iff.1 hxLh.out).1
          refine ⟨i + 1, L.set i ⟨⟨xl, ⟨zk, zy, zt, zv⟩, ⟨xk, xf, xt⟩, xr, gt⟩, ax, cx⟩, by omega, by go_num, Lib.hid ?_, Lib.hid ?_, ?_⟩
          · rw [List.map_set, ← hM.out]
            refine List.ext_getElem? fun j => ?_
            rw [List.getElem?_set]
            split
            · rename_i h
              subst h
              rw [if_pos (by simpa using hiL), List.getElem?_map, hxLh.out]
              rfl
            · rfl
          · rw [List.drop_set_of_lt (by omega), ← List.drop_drop, hD.out, List.drop_drop]
          · have e : (L.set i ⟨⟨xl, ⟨zk, zy, zt, zv⟩, ⟨xk, xf, xt⟩, xr, gt⟩, ax, cx⟩).take (i + 1) = L.take i ++ [⟨⟨xl, ⟨zk, zy, zt, zv⟩, ⟨xk, xf, xt⟩, xr, gt⟩, ax, cx⟩] := take_set1 _ hiL
            rw [e]
            refine H8.pool_sub 0 rfl ?_
            intro y hy
            rw [List.map_append] at hy
            rcases List.mem_append.1 hy with hy | hy
            · exact List.mem_cons_of_mem _ hy
            · simp only [List.map_cons, List.map_nil, List.mem_singleton] at hy
              rw [hy]
              exact List.mem_cons_self
        case measure => simp [intOf]; omega
      · obtain rfl : i = ms.length := by omega
        have hLl2 : L.length = ms.length := by have := congrArg List.length hM.out; simpa using this
        rw [← hLl2, List.take_length] at HM
        go_wp2
        go_ret
        have H9 := HM.blk_row 1 (e := 63) (size := 10) (cap := cap) (n := ms.length) (xs := encO.all L) rfl hnc hcm (by
          rw [List.length_append, encO.all_len, hLl2]
          rw [List.length_append, encO.all_len] at hcs
          exact hcs) (by rw [List.take_append_of_le_length (by rw [encO.all_len, hLl2]; exact Nat.le_refl _), List.take_of_length_le (by rw [encO.all_len, hLl2]; exact Nat.le_refl _)])
        refine ⟨_, rfl, L, hM.out, ?_⟩
        rw [hLl2]
        exact H9.pick [1, 0]

end Go.Proofs.YtiglgfonhdfpmaaGreat

/- slices.Equal at numbers, of equal lists. Condition: so many. -/
set_option linter.unusedVariables false
set_option linter.unusedSimpArgs false
namespace Go.Proofs.YtiglgfonhdfpmaaGreat
open Go.RowKit

set_option maxHeartbeats 2000000 in
set_option maxRecDepth 100000 in
theorem ints_equal {v v' : Value} {l : List Int} {w : World} (hv : IntsRO w v l) (hv' : IntsRO w v' l) (hl : l.length ≤ 1073741824) :
    Calls Tryz.prog 70 #[v, v'] w fun e w' => e = .returned (.bool true) ∧ Below w.heap.size w w' := by
  obtain ⟨ao, cap, rfl, hcap, hfit, hic⟩ := hv
  obtain ⟨ao', cap', rfl, hcap', -, hic'⟩ := hv'
  have hich := Lib.hid hic
  have hich' := Lib.hid hic'
  clear hic hfit hic'
  have H1 : St (fun _ => False) w w [] := St.nil _ w
  go_enter Tryz.func70, Tryz.ntmps70
  go_upto_block 2 with (fail)
  go_loopw [5, 13] (fun _ j wr => ∃ (i : Nat), i ≤ l.length ∧ j = .int .i64 i ∧ St (fun _ => False) w wr []) (fun _ j _ => l.length - (intOf j).toNat)
  case atStart => exact ⟨0, by omega, rfl, H1⟩
  case round =>
    clear H1
    obtain ⟨i, hi, rfl, HM⟩ := hrel
    by_cases hlt : i < l.length
    · obtain ⟨b, o, rfl, hb, hc⟩ := hich.out (by intro e; rw [e] at hlt; simp at hlt)
      obtain ⟨b', o', rfl, hb', hc'⟩ := hich'.out (by intro e; rw [e] at hlt; simp at hlt)
      obtain ⟨y, hy⟩ : ∃ y, l[i]? = some y := ⟨_, List.getElem?_eq_getElem hlt⟩
      have hc := hc i y hy
      have hc' := hc' i y hy
      have hlt2 : (i : Int) < (l.length : Int) := by omega
      clear hy
      go_upto_region 6 with (fail)
      refine wp_calm (fun w' => St (fun _ => False) w w' []) (by kernel_rfl) (by kernel_rfl) (HM.drew) ?_
      iterate 9 first
        | (apply calm_pass
           · rfl
           intro K hK
           go_simp
           refine hK _ ?_
           clear hK K)
        | (apply calm_step
           · rfl
           · intro w1 h1
             have d0 := (World.cell?_of_block (h1.kept.block b hb id)).trans hc
             have d1 := (World.cell?_of_block (h1.kept.block b' hb' id)).trans hc'
             first
               | (go_simp
                  first
                    | rfl
                    | exact ⟨rfl, h1⟩
                 )
           intro K hK
           go_simp
           refine hK _ ?_
           clear hK K)
      refine calm_nil ?_
      intro w2 H2
      go_wp2
      go_roundw
      case rel =>
        exact ⟨i + 1, by omega, by go_num, H2⟩
      case measure => simp [intOf]; omega
    · obtain rfl : i = l.length := by omega
      go_wp2
      go_ret
      exact ⟨rfl, HM.below (Nat.le_refl _) (fun _ h => h.elim)⟩

end Go.Proofs.YtiglgfonhdfpmaaGreat

/- slices.EqualFunc at panes, of the same ones; oper.Same, oper.New. Condition: they fit. (Printed by a program of mine.) -/
set_option linter.unusedVariables false
set_option linter.unusedSimpArgs false
namespace Go.Proofs.YtiglgfonhdfpmaaGreat
open Go.RowKit

set_option maxHeartbeats 2000000 in
set_option maxRecDepth 100000 in
theorem oper_new (w : World) : Calls Tryz.prog 22 #[] w fun e w' => e = .returned (.agg #[.int .i64 (-1), .slice none 0 0]) ∧ St (fun _ => False) w w' [] := by
  have H0 : St (fun _ => False) w _ [_] := (St.nil _ w).allocAt rfl #[.int .i64 (-1), .slice none 0 0] 45
  go_enter Tryz.func22, Tryz.ntmps22
  go_wp2
  try simp only [Exit.inBlock, Exit.then]
  refine bodyPost_ret (results_ag rfl rfl (blk_range (cs := [.int .i64 (-1), .slice none 0 0]) (H0.blk 0 rfl)) Tryz.underlying45 rfl (by kernel_rfl)) rfl ?_
  exact ⟨rfl, H0.pick []⟩

end Go.Proofs.YtiglgfonhdfpmaaGreat

/- oper.SameOuts of the same ones. Condition: they fit. (Printed by a program of mine.) -/
set_option linter.unusedVariables false
set_option linter.unusedSimpArgs false
namespace Go.Proofs.YtiglgfonhdfpmaaGreat
open Go.RowKit
/-- The cells of an out of a slice. -/
theorem ot_cells {w w' : World} {b o i : Nat} {x : Om} (h : w.rangeAt b (o + i * 10) (otC x).toList) (hb : w'.heap[b]? = w.heap[b]?) :
    w'.cell? ⟨b, o + i * 10, none⟩ = some (.bool x.o.late) ∧ w'.cell? ⟨b, o + i * 10 + 1, none⟩ = some (.int .i64 x.o.item.kind) ∧ w'.cell? ⟨b, o + i * 10 + 2, none⟩ = some (textV x.o.item.key) ∧ w'.cell? ⟨b, o + i * 10 + 3, none⟩ = some (.int .i64 x.o.item.time) ∧ w'.cell? ⟨b, o + i * 10 + 4, none⟩ = some (.int .i64 x.o.item.value) ∧
    w'.cell? ⟨b, o + i * 10 + 5, none⟩ = some (textV x.o.w.key) ∧ w'.cell? ⟨b, o + i * 10 + 6, none⟩ = some (.int .i64 x.o.w.frm) ∧ w'.cell? ⟨b, o + i * 10 + 7, none⟩ = some (.int .i64 x.o.w.to) ∧ w'.cell? ⟨b, o + i * 10 + 8, none⟩ = some (.int .i64 x.o.round) ∧ w'.cell? ⟨b, o + i * 10 + 9, none⟩ = some x.hd :=
  ⟨Enc.at (E := encO) h hb (j := 0) rfl, Enc.at (E := encO) h hb (j := 1) rfl, Enc.at (E := encO) h hb (j := 2) rfl, Enc.at (E := encO) h hb (j := 3) rfl, Enc.at (E := encO) h hb (j := 4) rfl, Enc.at (E := encO) h hb (j := 5) rfl, Enc.at (E := encO) h hb (j := 6) rfl, Enc.at (E := encO) h hb (j := 7) rfl, Enc.at (E := encO) h hb (j := 8) rfl, Enc.at (E := encO) h hb (j := 9) rfl⟩
set_option maxHeartbeats 4000000 in
set_option maxRecDepth 100000 in
theorem out_same (m m' : Om) (w : World) (he : m.o = m'.o) (hr : IntsRO w m.hd m.o.value) (hr' : IntsRO w m'.hd m'.o.value) (hf : m.o.value.length ≤ 1073741824) :
    Calls Tryz.prog 69 #[otV m, otV m'] w fun e w' => e = .returned (.bool true) ∧ Below w.heap.size w w' := by
  obtain ⟨p, xa, xc⟩ := m
  obtain ⟨p', xa', xc'⟩ := m'
  simp only at he hf hr hr'
  subst he
  have ke := fun w' (hk : Kept (fun _ => False) w w') => ints_equal (hr.later hk) (hr'.later hk) hf
  clear hr hr' hf
  obtain ⟨ol, ⟨ik, iy, it, iv⟩, ⟨xk, xf, xt⟩, xr, vs⟩ := p
  unfold otV otC textV
  simp only at ke ⊢
  obtain ⟨b, hb⟩ : ∃ g, w.heap.size = g := ⟨_, rfl⟩
  obtain ⟨b2, hb2⟩ : ∃ b2, b + 1 = b2 := ⟨_, rfl⟩
  have H0 : St (fun _ => False) w _ [_] := (St.nil _ w).allocAt hb #[.bool ol, .int .i64 ik, .string ⟨iy.toArray⟩, .int .i64 it, .int .i64 iv, .string ⟨xk.toArray⟩, .int .i64 xf, .int .i64 xt, .int .i64 xr, .slice xa vs.length xc] 63
  have H := H0.allocAt (B := b2) (by rw [← hb2, ← hb]; exact Array.size_push _) #[.bool ol, .int .i64 ik, .string ⟨iy.toArray⟩, .int .i64 it, .int .i64 iv, .string ⟨xk.toArray⟩, .int .i64 xf, .int .i64 xt, .int .i64 xr, .slice xa' vs.length xc'] 63
  obtain ⟨w1, hw1⟩ : ∃ w1, (w.alloc (.cells #[.bool ol, .int .i64 ik, .string ⟨iy.toArray⟩, .int .i64 it, .int .i64 iv, .string ⟨xk.toArray⟩, .int .i64 xf, .int .i64 xt, .int .i64 xr, .slice xa vs.length xc] 63)).alloc (.cells #[.bool ol, .int .i64 ik, .string ⟨iy.toArray⟩, .int .i64 it, .int .i64 iv, .string ⟨xk.toArray⟩, .int .i64 xf, .int .i64 xt, .int .i64 xr, .slice xa' vs.length xc'] 63) = w1 := ⟨_, rfl⟩
  rw [hw1] at H
  go_enter Tryz.func69, Tryz.ntmps69
  go_upto_region 1 with (fail)
  try simp only [hb, hb2]
  try rw [hw1]
  have hbh := Lib.hid hb
  clear hw1 hb hb2 H0
  have H3 : St (fun _ => False) w w1 [Blk b2 #[.bool ol, .int .i64 ik, .string ⟨iy.toArray⟩, .int .i64 it, .int .i64 iv, .string ⟨xk.toArray⟩, .int .i64 xf, .int .i64 xt, .int .i64 xr, .slice xa' vs.length xc'] 63, Blk b #[.bool ol, .int .i64 ik, .string ⟨iy.toArray⟩, .int .i64 it, .int .i64 iv, .string ⟨xk.toArray⟩, .int .i64 xf, .int .i64 xt, .int .i64 xr, .slice xa vs.length xc] 63] := H
  clear H
  have c0 := H3.cell 0 0 rfl rfl
  have d0 := H3.cell 1 0 rfl rfl
  have c1 := H3.cell 0 1 rfl rfl
  have d1 := H3.cell 1 1 rfl rfl
  have c2 := H3.cell 0 2 rfl rfl
  have d2 := H3.cell 1 2 rfl rfl
  have c3 := H3.cell 0 3 rfl rfl
  have d3 := H3.cell 1 3 rfl rfl
  have c4 := H3.cell 0 4 rfl rfl
  have d4 := H3.cell 1 4 rfl rfl
  have c5 := H3.cell 0 5 rfl rfl
  have d5 := H3.cell 1 5 rfl rfl
  have c6 := H3.cell 0 6 rfl rfl
  have d6 := H3.cell 1 6 rfl rfl
  have c7 := H3.cell 0 7 rfl rfl
  have d7 := H3.cell 1 7 rfl rfl
  have c8 := H3.cell 0 8 rfl rfl
  have d8 := H3.cell 1 8 rfl rfl
  have c9 := H3.cell 0 9 rfl rfl
  have d9 := H3.cell 1 9 rfl rfl
  go_wp2_with (go_at_call 70; go_must (refine (St.callPast (ke _ H3.kept) H3).mono ?_; rintro e w2 ⟨rfl, H2⟩))
  go_ret
  exact ⟨rfl, H2.below (Nat.le_refl _) (fun _ h => h.elim)⟩

set_option maxHeartbeats 4000000 in
set_option maxRecDepth 100000 in
theorem ots_equal {v v' : Value} {l : List Ot} (w : World) (hv : OtsRO w v l) (hv' : OtsRO w v' l) (hl : l.length ≤ 1073741824) (hf : ∀ p ∈ l, p.value.length ≤ 1073741824) :
    Calls Tryz.prog 68 #[v, v', .func (.func 69) #[] #[]] w fun e w' => e = .returned (.bool true) ∧ Below w.heap.size w w' := by
  obtain ⟨ms, hm, hic0, hro⟩ := hv
  obtain ⟨ms', hm', hic0', hro'⟩ := hv'
  obtain ⟨ao, cap, rfl, hcap, hic⟩ := hic0
  obtain ⟨ao', cap', rfl, hcap', hic'⟩ := hic0'
  have e1 : ms.length = l.length := by rw [← hm, List.length_map]
  have e2 : ms'.length = l.length := by rw [← hm', List.length_map]
  have ks := Lib.hid (fun (i : Nat) (m m' : Om) (h1 : ms[i]? = some m) (h2 : ms'[i]? = some m') w' (hk : Kept (fun _ => False) w w') => by
    have a1 : l[i]? = some m.o := by rw [← hm, List.getElem?_map, h1]; rfl
    have a2 : l[i]? = some m'.o := by rw [← hm', List.getElem?_map, h2]; rfl
    have hp : m.o = m'.o := by rw [a1] at a2; exact Option.some.inj a2
    exact And.intro hp (out_same m m' w' hp ((hro m (List.mem_of_getElem? h1)).later hk) ((hro' m' (List.mem_of_getElem? h2)).later hk) (hf m.o (List.mem_of_getElem? a1))))
  have hich := Lib.hid hic
  have hich' := Lib.hid hic'
  rw [e1, e2]
  have e1h := Lib.hid e1
  have e2h := Lib.hid e2
  clear hic hic' hro hro' hm hm' e1 e2
  have H1 : St (fun _ => False) w w [] := St.nil _ w
  go_enter Tryz.func68, Tryz.ntmps68
  go_upto_block 2 with (fail)
  go_loopw [7, 8, 9, 17] (fun _ _ _ j wr => ∃ (i : Nat), i ≤ l.length ∧ j = .int .i64 i ∧ St (fun _ => False) w wr []) (fun _ _ _ j _ => l.length - (intOf j).toNat)
  case atStart => exact ⟨0, by omega, rfl, H1⟩
  case round =>
    clear H1
    obtain ⟨i, hi, rfl, HM⟩ := hrel
    by_cases hlt : i < l.length
    · have hlt1 : i < ms.length := by rw [e1h.out]; exact hlt
      have hlt2 : i < ms'.length := by rw [e2h.out]; exact hlt
      obtain ⟨b, o, rfl, hb, hc⟩ := hich.out (by intro e; rw [e] at hlt1; simp at hlt1)
      obtain ⟨b', o', rfl, hb', hc'⟩ := hich'.out (by intro e; rw [e] at hlt2; simp at hlt2)
      obtain ⟨y, hy⟩ : ∃ y, ms[i]? = some y := ⟨_, List.getElem?_eq_getElem hlt1⟩
      obtain ⟨y', hy'⟩ : ∃ y, ms'[i]? = some y := ⟨_, List.getElem?_eq_getElem hlt2⟩
      have hc := hc i y hy
      have hc' := hc' i y' hy'
      obtain ⟨hpp, -⟩ := ks.out i y y' hy hy' wr HM.kept
      have kk := fun w' hk => (ks.out i y y' hy hy' w' hk).2
      have hlt3 : (i : Int) < (l.length : Int) := by omega
      clear hy hy' hlt1 hlt2
      obtain ⟨q0, q1, q2, q3, q4, q5, q6, q7, q8, q9⟩ := ot_cells hc (HM.kept.block b hb id)
      obtain ⟨P, xa, xc⟩ := y
      obtain ⟨P', xa', xc'⟩ := y'
      simp only at hpp
      subst hpp
      obtain ⟨ol, ⟨ik, iy, it, iv⟩, ⟨xk, xf, xt⟩, xr, vs⟩ := P
      have hch' := Lib.hid hc'
      clear hc hc'
      unfold otV otC Om.hd textV at kk
      simp only at q0 q1 q2 q3 q4 q5 q6 q7 q8 q9 kk
      unfold textV at q2 q5
      try unfold Om.hd at q9
      try simp only at q9
      have HA : St (fun _ => False) w _ [_] := HM.allocAt rfl #[.bool ol, .int .i64 ik, .string ⟨iy.toArray⟩, .int .i64 it, .int .i64 iv, .string ⟨xk.toArray⟩, .int .i64 xf, .int .i64 xt, .int .i64 xr, .slice xa vs.length xc] 63
      go_upto_region 6 with (fail)
      obtain ⟨wb, hwb⟩ : ∃ wb, wr.alloc (.cells #[.bool ol, .int .i64 ik, .string ⟨iy.toArray⟩, .int .i64 it, .int .i64 iv, .string ⟨xk.toArray⟩, .int .i64 xf, .int .i64 xt, .int .i64 xr, .slice xa vs.length xc] 63) = wb := ⟨_, rfl⟩
      obtain ⟨yb, hyb⟩ : ∃ yb, wr.heap.size = yb := ⟨_, rfl⟩
      rw [hwb, hyb] at HA
      try rw [hwb]
      try simp only [hyb]
      have HA2 : St (fun _ => False) w wb [Blk yb #[.bool ol, .int .i64 ik, .string ⟨iy.toArray⟩, .int .i64 it, .int .i64 iv, .string ⟨xk.toArray⟩, .int .i64 xf, .int .i64 xt, .int .i64 xr, .slice xa vs.length xc] 63] := HA
      clear hwb hyb q0 q1 q2 q3 q4 q5 q6 q7 q8 q9 HM HA
      obtain ⟨r0, r1, r2, r3, r4, r5, r6, r7, r8, r9⟩ := ot_cells hch'.out (HA2.kept.block b' hb' id)
      simp only at r0 r1 r2 r3 r4 r5 r6 r7 r8 r9
      unfold textV at r2 r5
      try unfold Om.hd at r9
      try simp only at r9
      have HB : St (fun _ => False) w _ [_, _] := HA2.allocAt rfl #[.bool ol, .int .i64 ik, .string ⟨iy.toArray⟩, .int .i64 it, .int .i64 iv, .string ⟨xk.toArray⟩, .int .i64 xf, .int .i64 xt, .int .i64 xr, .slice xa' vs.length xc'] 63
      go_upto_region 7 with (fail)
      obtain ⟨wc, hwc⟩ : ∃ wc, wb.alloc (.cells #[.bool ol, .int .i64 ik, .string ⟨iy.toArray⟩, .int .i64 it, .int .i64 iv, .string ⟨xk.toArray⟩, .int .i64 xf, .int .i64 xt, .int .i64 xr, .slice xa' vs.length xc'] 63) = wc := ⟨_, rfl⟩
      obtain ⟨zb, hzb⟩ : ∃ zb, wb.heap.size = zb := ⟨_, rfl⟩
      rw [hwc, hzb] at HB
      try rw [hwc]
      try simp only [hzb]
      have HB2 : St (fun _ => False) w wc [Blk zb #[.bool ol, .int .i64 ik, .string ⟨iy.toArray⟩, .int .i64 it, .int .i64 iv, .string ⟨xk.toArray⟩, .int .i64 xf, .int .i64 xt, .int .i64 xr, .slice xa' vs.length xc'] 63, Blk yb #[.bool ol, .int .i64 ik, .string ⟨iy.toArray⟩, .int .i64 it, .int .i64 iv, .string ⟨xk.toArray⟩, .int .i64 xf, .int .i64 xt, .int .i64 xr, .slice xa vs.length xc] 63] := HB
      clear hwc hzb r0 r1 r2 r3 r4 r5 r6 r7 r8 r9 HB HA2
      have c0 := HB2.cell 1 0 rfl rfl
      have d0 := HB2.cell 0 0 rfl rfl
      have c1 := HB2.cell 1 1 rfl rfl
      have d1 := HB2.cell 0 1 rfl rfl
      have c2 := HB2.cell 1 2 rfl rfl
      have d2 := HB2.cell 0 2 rfl rfl
      have c3 := HB2.cell 1 3 rfl rfl
      have d3 := HB2.cell 0 3 rfl rfl
      have c4 := HB2.cell 1 4 rfl rfl
      have d4 := HB2.cell 0 4 rfl rfl
      have c5 := HB2.cell 1 5 rfl rfl
      have d5 := HB2.cell 0 5 rfl rfl
      have c6 := HB2.cell 1 6 rfl rfl
      have d6 := HB2.cell 0 6 rfl rfl
      have c7 := HB2.cell 1 7 rfl rfl
      have d7 := HB2.cell 0 7 rfl rfl
      have c8 := HB2.cell 1 8 rfl rfl
      have d8 := HB2.cell 0 8 rfl rfl
      have c9 := HB2.cell 1 9 rfl rfl
      have d9 := HB2.cell 0 9 rfl rfl
      go_wp2_with (go_at_call 69; go_must (refine (St.callPast (kk _ HB2.kept) HB2).mono ?_; rintro e w3 ⟨rfl, H3⟩))
      go_roundw
      case rel => exact ⟨i + 1, by omega, by go_num, H3.pick []⟩
      case measure => simp [intOf]; omega
    · obtain rfl : i = l.length := by omega
      go_wp2
      go_ret
      exact ⟨rfl, HM.below (Nat.le_refl _) (fun _ h => h.elim)⟩

set_option maxHeartbeats 2000000 in
set_option maxRecDepth 100000 in
theorem oper_outs {v v' : Value} {l : List Ot} (w : World) (hv : OtsRO w v l) (hv' : OtsRO w v' l) (hl : l.length ≤ 1073741824) (hf : ∀ p ∈ l, p.value.length ≤ 1073741824) :
    Calls Tryz.prog 26 #[v, v'] w fun e w' => e = .returned (.bool true) ∧ Below w.heap.size w w' := by
  have ke := ots_equal w hv hv' hl hf
  obtain ⟨ms, hm, hv0, -⟩ := hv
  obtain ⟨ms', hm', hv0', -⟩ := hv'
  obtain ⟨va, vc, rfl, -, -⟩ := hv0
  obtain ⟨va', vc', rfl, -, -⟩ := hv0'
  clear hm hm' hl hf
  have H : St (fun _ => False) w w [] := St.nil _ w
  go_enter Tryz.func26, Tryz.ntmps26
  go_wp2_with (go_at_call 68; go_must (refine (St.callPast ke H).mono ?_; rintro e w2 ⟨rfl, H2⟩))
  go_ret
  exact ⟨rfl, H2.below (Nat.le_refl _) (fun _ h => h.elim)⟩

end Go.Proofs.YtiglgfonhdfpmaaGreat

/- The document's Same of states and SameOuts, of the same ones. Condition: they fit. (Printed by a program of mine.) -/
set_option linter.unusedVariables false
set_option linter.unusedSimpArgs false
namespace Go.Proofs.YtiglgfonhdfpmaaGreat
open Go.RowKit

section
variable {P : Program} {S : Nat → Prop} {w0 w : World} {l : List SP}
/-- A whole variable stored, as an operation of a script. -/
theorem St.came_store (H : St S w0 w l) (i : Nat) {g : Nat} {old : Array Value} {t : TypeId} (hi' : l[i]? = some (Blk g old t)) {o : Oper} {a : Act} (ty : TypeId) (x y : Operand) (ho : o.op = .store ty x y)
    (cells : Array Value) (hx : a.eval x = .pointer (some ⟨g, 0, none⟩)) (hy : a.eval y = .agg cells) (hi : (P.info? ty).map (·.size) = some cells.size) (hn : 0 < cells.size) (hold : old.size = cells.size) (h1 : allOne cells = true)
    {V : Value → (World → Prop) → Prop} (h : ∀ w', St S w0 w' (l.set i (Blk g cells t)) → ∃ I', V undef I' ∧ I' w') : CameV P V ((execOp a.eval o).run P w) := by
  obtain ⟨dst, op, ty', pos, after, gd⟩ := o
  simp only at ho
  subst ho
  have hb : rowSize w g = cells.size := by
    unfold rowSize
    rw [H.blk i hi']
    exact hold
  have hr := run_store_at (P := P) (w := w) (a := a) (dst := dst) (ty' := ty') (pos := pos) (after := after) (g := gd) (t := ty) (x := x) (y := y) (n := cells.size) hi hn (by rw [hx]; rfl) (by rw [hx]; rfl) (by rw [hx]; exact hb) (by rw [hy]; rfl) (by rw [hy]; rfl) (by rw [hy]; exact h1)
  rw [hr, hx, hy]
  exact h _ (H.setRow i hi' cells)
end
end Go.Proofs.YtiglgfonhdfpmaaGreat
