import Derived.Test.YtiglgfonhdfpmaaGreatLw1
import Derived.Test.YtiglgfonhdfpmaaGreatLw2
import Derived.Test.YtiglgfonhdfpmaaGreatLw3
import Derived.Test.YtiglgfonhdfpmaaGreatLw4
import Derived.Test.YtiglgfonhdfpmaaGreatLw5
import Derived.Test.YtiglgfonhdfpmaaGreatLw13
import Derived.Test.YtiglgfonhdfpmaaGreatLw14
import Derived.Test.YtiglgfonhdfpmaaGreatLw15
import Derived.Test.YtiglgfonhdfpmaaGreatLw16
import Derived.Deep.CutBlock
import Derived.Lib.ItoaNum
import Derived.Lib.AtoiAll
import Derived.Lib.Split
import Derived.Lib.SplitLaws
import Derived.Lib.IndexLaws
import Derived.Lib.CountLaws
/- Step's answers by cases; State where there is no lane; law35's first. (Printed by a program of mine.) -/
set_option linter.unusedVariables false
set_option linter.unusedSimpArgs false
namespace Go.Proofs.YtiglgfonhdfpmaaGreat
open Go.RowKit

theorem Enc.blk {α : Type} (E : Enc α) {w : World} {b : Nat} {t : TypeId} {l : List α} (h : w.heap[b]? = some (.cells (E.all l).toArray t (0, 0))) : E.RO w (.slice (some ⟨b, 0, none⟩) l.length l.length) l := by
  refine ⟨some ⟨b, 0, none⟩, l.length, rfl, Nat.le_refl _, fun _ => ⟨b, 0, rfl, blk_lt h, fun i x hi j v hj => ?_⟩⟩
  refine cell_blk' h ?_
  rw [List.getElem?_toArray, Nat.zero_add]
  exact E.get hi hj
theorem lns_step_ok {lb : Nat} {l : List Ln} {items : List Itm} {S : Nat → Prop} (x : Itm) (w : World) (hx : x.fits) (hif : ∀ y ∈ items, y.fits) (hil : items.length ≤ 4194304) (hl0 : l ≠ []) (hl : l.length ≤ 16) (hfit : LnFit l) (hg : goLn x l = true) (HS : Sep w [LnsAt lb l items] S) :
    Calls Tryz.prog 35 #[.pointer (some ⟨lb, 0, none⟩), itmV x] w fun e w' => ∃ g hs, e = .returned (.tuple #[.slice (some ⟨g, 0, none⟩) l.length l.length, .int .i64 (-1), .int .i64 0]) ∧ OtssRO w' hs (l.map fun y => (stepM y.q y.s x).outs) ∧ St S w w' [LnsAt lb (l.map (Ln.go x)) (items ++ [x]), Blk g hs.toArray 46] := by
  refine (lns_step x w hx hif hil hl0 hl hfit HS).mono fun e w' h => ?_
  obtain ⟨h1, h2⟩ := go_none.1 hg
  unfold LnStep at h
  rw [if_pos h1, bad_none.2 h2] at h
  exact h
theorem lns_step_no {lb : Nat} {l : List Ln} {items : List Itm} {S : Nat → Prop} (x : Itm) (w : World) (hx : x.fits) (hif : ∀ y ∈ items, y.fits) (hil : items.length ≤ 4194304) (hl0 : l ≠ []) (hl : l.length ≤ 16) (hfit : LnFit l) (hg : goLn x l = false) (HS : Sep w [LnsAt lb l items] S) :
    Calls Tryz.prog 35 #[.pointer (some ⟨lb, 0, none⟩), itmV x] w fun e w' => ∃ (i er : Int), e = .returned (.tuple #[.slice none 0 0, .int .i64 i, .int .i64 er]) ∧ (er == 0) = false ∧ St S w w' [LnsAt lb l items] := by
  refine (lns_step x w hx hif hil hl0 hl hfit HS).mono fun e w' h => ?_
  unfold LnStep at h
  by_cases h1 : x.right = true
  · rw [if_pos h1] at h
    cases hb : badLn x l 0 with
    | none =>
      have := go_none.2 ⟨h1, bad_none.1 hb⟩
      rw [hg] at this
      cases this
    | some z =>
      obtain ⟨i, er⟩ := z
      rw [hb] at h
      exact ⟨i, er, h.1, by simpa using bad_err hb, h.2⟩
  · rw [if_neg h1] at h
    exact ⟨-1, 2, h.1, by decide, h.2⟩
theorem lns_step_arg {lb : Nat} {l : List Ln} {items : List Itm} {S : Nat → Prop} (x : Itm) (w : World) (hx : x.fits) (hif : ∀ y ∈ items, y.fits) (hil : items.length ≤ 4194304) (hl0 : l ≠ []) (hl : l.length ≤ 16) (hfit : LnFit l) (hg : x.right = false) (HS : Sep w [LnsAt lb l items] S) :
    Calls Tryz.prog 35 #[.pointer (some ⟨lb, 0, none⟩), itmV x] w fun e w' => e = .returned (.tuple #[.slice none 0 0, .int .i64 (-1), .int .i64 2]) ∧ St S w w' [LnsAt lb l items] := by
  refine (lns_step x w hx hif hil hl0 hl hfit HS).mono fun e w' h => ?_
  unfold LnStep at h
  rw [if_neg (by rw [hg]; decide)] at h
  exact h
set_option maxHeartbeats 1000000 in
theorem lns_state_no {S : Nat → Prop} {w0 w : World} {b : Nat} {l : List Ln} {items : List Itm} {L : List SP} (H : St S w0 w (LnsAt b l items :: L)) {j : Nat} (hj : l.length ≤ j) :
    Calls Tryz.prog 37 #[.pointer (some ⟨b, 0, none⟩), .int .i64 j] w fun e w' => e = .returned (.tuple #[.agg #[.int .i64 0, .slice none 0 0], .bool false]) ∧ Below w.heap.size w w' := by
  have kin := fun o => lns_in (H.skip o) j
  rw [decide_eq_false (by omega)] at kin
  have H0 : St (fun _ => False) w _ [_] := (St.nil _ w).allocAt rfl #[.int .i64 0, .slice none 0 0] 45
  clear H
  go_enter Tryz.func37, Tryz.ntmps37
  go_upto_region 2 with (go_at_call 85; go_must (refine (kin _).mono ?_; rintro e w1 ⟨rfl, rfl⟩))
  obtain ⟨rb, hrb⟩ : ∃ z, w.heap.size = z := ⟨_, rfl⟩
  obtain ⟨wa, hwa⟩ : ∃ z, w.alloc (.cells #[.int .i64 0, .slice none 0 0] 45) = z := ⟨_, rfl⟩
  rw [hwa, hrb] at H0
  try rw [hwa]
  try simp only [hrb]
  have H1 : St (fun _ => False) w wa [Blk rb #[.int .i64 0, .slice none 0 0] 45] := H0
  have hrbh := Lib.hid hrb
  clear hwa hrb H0 kin
  have z0 := H1.cell 0 0 rfl rfl
  have z1 := H1.cell 0 1 rfl rfl
  have r0 := H1.free 0 0 rfl
  have r1 := H1.free 0 1 rfl
  have HD := (H1.set 0 rfl 0 (.int .i64 0)).set 0 rfl 1 (.slice none 0 0)
  go_wp2
  try simp only [Exit.inBlock, Exit.then]
  refine bodyPost_ret (results_ct rfl rfl (blk_range (cs := [.int .i64 0, .slice none 0 0]) (HD.blk 0 rfl)) Tryz.underlying45 rfl (by kernel_rfl)) rfl ?_
  exact ⟨rfl, HD.below (Nat.le_refl _) (fun _ h => h.elim)⟩

def qa35 : Qry := ⟨1, 10, 0, 0, 2, 0⟩
def qb35 : Qry := ⟨1, 5, 0, 0, 1, 0⟩
def x35 : Itm := ⟨1, [97], 3, 7⟩
def m35 : Itm := ⟨2, [], 5, 0⟩
def o35 : Ot := ⟨false, itm00, ⟨[97], 0, 5⟩, 1, [1]⟩
def lA : List Ln := [qa35, qb35].map Ln.new
def lB : List Ln := lA.map (Ln.go x35)
def lC : List Ln := lB.map (Ln.go m35)
def rD : RunR := runsM qa35 [x35, m35] ⟨stt0, [], 0, 0⟩
def lD : List Ln := lC ++ [⟨qa35, rD.s, rD.outs⟩]
theorem fitA : LnFit lA := all_fit [qa35, qb35] (l := []) (by simp)
theorem fitB : LnFit lB := by
  rw [show lB = [qa35, qb35].map (allLn · [x35]) by kernel_rfl]
  exact all_fit _ (by simp)
theorem fitD : LnFit lD := by
  rw [show lD = [qa35, qb35, qa35].map (allLn · [x35, m35]) by kernel_rfl]
  exact all_fit _ (by simp)
theorem fits35 : ∀ y ∈ [x35, m35], y.fits := by
  intro y hy
  simp only [List.mem_cons, List.not_mem_nil, or_false] at hy
  rcases hy with rfl | rfl <;> simp [Itm.fits, x35, m35]
theorem OtsRO.form {w : World} {v : Value} {l : List Ot} (h : OtsRO w v l) : ∃ ad cap, v = .slice ad l.length cap := by
  obtain ⟨ms, h1, h2, -⟩ := h
  obtain ⟨ad, cap, e, -⟩ := h2
  refine ⟨ad, cap, ?_⟩
  rw [e, ← h1, List.length_map]

set_option maxHeartbeats 8000000 in
set_option maxRecDepth 100000 in
theorem first35 (w : World) : Calls Tryz.prog 32 #[] w fun e w' => e = .returned (.bool true) ∧ Below w.heap.size w w' := by
  have g1 : goLn x35 lA = true := by kernel_rfl
  have g2 : goLn m35 lB = true := by kernel_rfl
  have ks1 := fun (lb : Nat) w' S' => lns_step_ok (lb := lb) (S := S') (items := []) x35 w' (fits35 _ (by simp)) (fun y hy => by cases hy) (by simp) (by simp [lA]) (by simp [lA]) fitA g1
  have ks2 := fun (lb : Nat) w' S' => lns_step_ok (lb := lb) (S := S') (items := [] ++ [x35]) m35 w' (fits35 _ (by simp)) (fun y hy => fits35 y (by simp only [List.nil_append, List.mem_singleton] at hy; simp [hy])) (by simp) (by simp [lB, lA]) (by simp [lB, lA]) fitB g2
  have ks3 := fun (lb : Nat) w' S' => lns_step_arg (lb := lb) (S := S') (l := lD) (items := [x35, m35]) itm00 w' (by simp [Itm.fits, itm00]) fits35 (by simp) (by simp [lD]) (by simp [lD, lC, lB, lA]) fitD (by kernel_rfl)
  have ka := fun (lb : Nat) w' S' => lns_add (lb := lb) (l := lC) (items := [x35, m35]) (S := S') qa35 w' fits35 (by simp) (by simp [lC, lB, lA])
  have hc1 : qa35.right = true ∧ lC.length < 16 ∧ (runsM qa35 [x35, m35] ⟨stt0, [], 0, 0⟩).e = 0 := ⟨by kernel_rfl, by simp [lC, lB, lA], by kernel_rfl⟩
  unfold LnAdd at ka
  simp only [if_pos hc1] at ka
  have hl3 : (lB.map fun y => (stepM y.q y.s m35).outs) = [[], [o35]] := by kernel_rfl
  rw [hl3] at ks2
  have kst := fun (lb : Nat) (w' : World) (S0 : Nat → Prop) (w0 : World) (L : List SP) (h : St S0 w0 w' (LnsAt lb lD [x35, m35] :: L)) => lns_state h (j := 2) (x := ⟨qa35, rD.s, rD.outs⟩) (by kernel_rfl) (by simp [lD, lC, lB, lA]) (fitD _ (by simp [lD])).1 (fitD _ (by simp [lD])).2.1
  have ksn := fun (lb : Nat) (w' : World) (S0 : Nat → Prop) (w0 : World) (L : List SP) (h : St S0 w0 w' (LnsAt lb lD [x35, m35] :: L)) => lns_state_no h (j := 3) (by simp [lD, lC, lB, lA])
  have hou : (allLn qb35 [x35, m35]).outs = [o35] := by kernel_rfl
  have kou := fun (lb : Nat) (w' : World) (S0 : Nat → Prop) (w0 : World) (L : List SP) (h : St S0 w0 w' (LnsAt lb lD [x35, m35] :: L)) => lns_outs h (j := 1) (x := allLn qb35 [x35, m35]) (by kernel_rfl) (by simp [lD, lC, lB, lA]) (by rw [hou]; simp) (fun o ho => by rw [hou] at ho; simp only [List.mem_singleton] at ho; subst ho; simp [o35])
  rw [hou] at kou
  have kit := fun (lb : Nat) (w' : World) (S0 : Nat → Prop) (w0 : World) (L : List SP) (h : St S0 w0 w' (LnsAt lb lD [x35, m35] :: L)) => lns_items h fits35 (by simp)
  have kle := fun (lb : Nat) (w' : World) (S0 : Nat → Prop) (w0 : World) (L : List SP) (h : St S0 w0 w' (LnsAt lb lD [x35, m35] :: L)) => lns_len h
  have hmk : rD.s.mark = 5 := by kernel_rfl
  have kn0 := fun w' => lns_new w' (Enc.RO.nil (E := encQ) w') (by simp)
  unfold NewOk at kn0
  simp only [show newB [] = false from rfl, Bool.false_eq_true, if_false] at kn0
  unfold itmV textV at ks1 ks2 ks3
  unfold qyV qyC at ka
  simp only [x35, m35, itm00, qa35] at ks1 ks2 ks3 ka
  simp only [show lB.length = 2 from rfl] at ks2
  have H1 : St (fun _ => False) w _ [_, _] := ((St.nil _ w).allocAt rfl #[.int .i64 0, .int .i64 0, .int .i64 0, .int .i64 0, .int .i64 0, .int .i64 0] 23).allocAt (B := w.heap.size + 1) (by simp [Array.size_push]) #[.int .i64 0, .int .i64 0, .int .i64 0, .int .i64 0, .int .i64 0, .int .i64 0] 23
  go_enter Tryz.func32, Tryz.ntmps32
  go_upto_region 2 with (first | ((with_reducible show Go.wpList _ _ _ (Oper.mk none (Op.store 23 (Operand.tmp 1) _) _ _ _ _ :: _) _ _); go_must (refine St.list_store H1 1 rfl rfl 23 (.tmp 1) (.tmp 22) rfl #[.int .i64 1, .int .i64 10, .int .i64 0, .int .i64 0, .int .i64 2, .int .i64 0] rfl rfl (by kernel_rfl) rfl (by simp [Value.oneCell']) ?_; intro wq H2 hzwq; clear hzwq)) | ((with_reducible show Go.wpList _ _ _ (Oper.mk none (Op.store 23 (Operand.tmp 2) _) _ _ _ _ :: _) _ _); go_must (refine St.list_store H2 0 rfl rfl 23 (.tmp 2) (.tmp 23) rfl #[.int .i64 1, .int .i64 5, .int .i64 0, .int .i64 0, .int .i64 1, .int .i64 0] rfl rfl (by kernel_rfl) rfl (by simp [Value.oneCell']) ?_; intro wr H3 hzwr; clear hzwr)))
  obtain ⟨ba, hba⟩ : ∃ g, w.heap.size = g := ⟨_, rfl⟩
  rw [hba] at H3
  try simp only [hba]
  obtain ⟨bb, hbb⟩ : ∃ g, ba + 1 = g := ⟨_, rfl⟩
  rw [hbb] at H3
  try simp only [hbb]
  have H4 : St (fun _ => False) w wr [Blk ba #[.int .i64 1, .int .i64 10, .int .i64 0, .int .i64 0, .int .i64 2, .int .i64 0] 23, Blk bb #[.int .i64 1, .int .i64 5, .int .i64 0, .int .i64 0, .int .i64 1, .int .i64 0] 23] := H3.pick [1, 0]
  have hbah := Lib.hid hba
  have hbbh := Lib.hid hbb
  clear hba hbb H1 H2 H3
  have a0 := H4.cell 0 0 rfl rfl
  have a1 := H4.cell 0 1 rfl rfl
  have a2 := H4.cell 0 2 rfl rfl
  have a3 := H4.cell 0 3 rfl rfl
  have a4 := H4.cell 0 4 rfl rfl
  have a5 := H4.cell 0 5 rfl rfl
  have b0 := H4.cell 1 0 rfl rfl
  have b1 := H4.cell 1 1 rfl rfl
  have b2 := H4.cell 1 2 rfl rfl
  have b3 := H4.cell 1 3 rfl rfl
  have b4 := H4.cell 1 4 rfl rfl
  have b5 := H4.cell 1 5 rfl rfl
  have HT : St (fun _ => False) w (wr.alloc (.cells #[.int .i64 1, .int .i64 10, .int .i64 0, .int .i64 0, .int .i64 2, .int .i64 0, .int .i64 1, .int .i64 5, .int .i64 0, .int .i64 0, .int .i64 1, .int .i64 0] 23)) [Blk wr.heap.size #[.int .i64 1, .int .i64 10, .int .i64 0, .int .i64 0, .int .i64 2, .int .i64 0, .int .i64 1, .int .i64 5, .int .i64 0, .int .i64 0, .int .i64 1, .int .i64 0] 23, Blk ba #[.int .i64 1, .int .i64 10, .int .i64 0, .int .i64 0, .int .i64 2, .int .i64 0] 23, Blk bb #[.int .i64 1, .int .i64 5, .int .i64 0, .int .i64 0, .int .i64 1, .int .i64 0] 23] := H4.allocAt rfl #[.int .i64 1, .int .i64 10, .int .i64 0, .int .i64 0, .int .i64 2, .int .i64 0, .int .i64 1, .int .i64 5, .int .i64 0, .int .i64 0, .int .i64 1, .int .i64 0] 23
  have kn := lns_new _ (Enc.blk encQ (l := [qa35, qb35]) (HT.blk 0 rfl)) (by simp)
  unfold NewOk at kn
  simp only [show newB [qa35, qb35] = true from by kernel_rfl, if_true] at kn
  go_upto_region 3 with (go_at_call 33; go_must (refine kn.mono ?_; rintro e w1 ⟨lb, rfl, G1⟩; have H5 : St (fun _ => False) w w1 [LnsAt lb lA [], Blk ba #[.int .i64 1, .int .i64 10, .int .i64 0, .int .i64 0, .int .i64 2, .int .i64 0] 23, Blk bb #[.int .i64 1, .int .i64 5, .int .i64 0, .int .i64 0, .int .i64 1, .int .i64 0] 23] := (HT.call0 G1).pick [0, 2, 3]))
  clear H4 HT a0 a1 a2 a3 a4 a5 b0 b1 b2 b3 b4 b5 kn G1
  go_upto_region 6 with (go_at_call 35; go_must (obtain ⟨S1, K1, G1⟩ := St.call (l1 := [_]) H5; refine (ks1 lb _ _ K1).mono ?_; rintro e w2 ⟨g1, hs1, rfl, -, T1⟩; have H6 := G1 _ _ T1))
  have H7 : St (fun _ => False) w w2 [LnsAt lb lB ([] ++ [x35]), Blk ba #[.int .i64 1, .int .i64 10, .int .i64 0, .int .i64 0, .int .i64 2, .int .i64 0] 23, Blk bb #[.int .i64 1, .int .i64 5, .int .i64 0, .int .i64 0, .int .i64 1, .int .i64 0] 23] := H6.pick [0, 2, 3]
  clear H5 H6 G1 T1 K1 ks1
  go_upto_region 7 with (go_at_call 35; go_must (obtain ⟨S2, K2, G2⟩ := St.call (l1 := [_]) H7; refine (ks2 lb _ _ K2).mono ?_; rintro e w3 ⟨g2, hs2, rfl, hro2, T2⟩; have H8 := G2 _ _ T2))
  obtain ⟨hs2l, hs2x⟩ := hro2
  obtain ⟨u0, hu0, r0⟩ := hs2x 0 [] rfl
  obtain ⟨u1, hu1, r1⟩ := hs2x 1 [o35] rfl
  obtain ⟨ao, co, rfl⟩ := r0.form
  obtain ⟨ap, cp, rfl⟩ := r1.form
  obtain rfl : hs2 = [.slice ao 0 co, .slice ap 1 cp] := by
    match hs2, hs2l with
    | [x, y], _ =>
      simp only [List.getElem?_cons_zero, Option.some.injEq] at hu0
      simp only [List.getElem?_cons_succ, List.getElem?_cons_zero, Option.some.injEq] at hu1
      rw [hu0, hu1]
      rfl
  have H9 : St (fun _ => False) w w3 [LnsAt lb lC [x35, m35], Blk g2 #[.slice ao 0 co, .slice ap 1 cp] 46, Blk ba #[.int .i64 1, .int .i64 10, .int .i64 0, .int .i64 0, .int .i64 2, .int .i64 0] 23, Blk bb #[.int .i64 1, .int .i64 5, .int .i64 0, .int .i64 0, .int .i64 1, .int .i64 0] 23] := H8
  clear H7 H8 G2 T2 K2 ks2 hs2l hs2x hu0 hu1 r0 r1
  have a0 := H9.cell 2 0 rfl rfl
  have a1 := H9.cell 2 1 rfl rfl
  have a2 := H9.cell 2 2 rfl rfl
  have a3 := H9.cell 2 3 rfl rfl
  have a4 := H9.cell 2 4 rfl rfl
  have a5 := H9.cell 2 5 rfl rfl
  go_upto_region 8 with (go_at_call 36; go_must (obtain ⟨S3, K3, G3⟩ := St.call (l1 := [_]) H9; refine (ka lb _ _ K3).mono ?_; rintro e w4 ⟨rfl, T3⟩; have H10 := G3 _ _ T3))
  have H11 : St (fun _ => False) w w4 [LnsAt lb lD [x35, m35], Blk g2 #[.slice ao 0 co, .slice ap 1 cp] 46, Blk ba #[.int .i64 1, .int .i64 10, .int .i64 0, .int .i64 0, .int .i64 2, .int .i64 0] 23, Blk bb #[.int .i64 1, .int .i64 5, .int .i64 0, .int .i64 0, .int .i64 1, .int .i64 0] 23] := H10
  clear H9 H10 G3 T3 K3 ka a0 a1 a2 a3 a4 a5
  go_upto_region 9 with (go_at_call 35; go_must (obtain ⟨S4, K4, G4⟩ := St.call (l1 := [_]) H11; refine (ks3 lb _ _ K4).mono ?_; rintro e w5 ⟨rfl, T4⟩; have H12 := G4 _ _ T4))
  have H13 : St (fun _ => False) w w5 [LnsAt lb lD [x35, m35], Blk g2 #[.slice ao 0 co, .slice ap 1 cp] 46, Blk ba #[.int .i64 1, .int .i64 10, .int .i64 0, .int .i64 0, .int .i64 2, .int .i64 0] 23, Blk bb #[.int .i64 1, .int .i64 5, .int .i64 0, .int .i64 0, .int .i64 1, .int .i64 0] 23] := H12
  clear H11 H12 G4 T4 K4 ks3
  have H14 : St (fun _ => False) w w5 [LnsAt lb lD [x35, m35], Blk g2 #[.slice ao 0 co, .slice ap 1 cp] 46] := H13.pick [0, 1]
  clear H13
  simp only [hmk] at kst
  go_upto_region 10 with (go_at_call 37; go_must (refine (kst lb _ _ _ _ H14).mono ?_; rintro e w6 ⟨pv, ms, HH, rfl, -, -, T5⟩; obtain ⟨pa, pc, rfl, -, -⟩ := slice_form' (T5.row 0 rfl); have H15 : St (fun _ => False) w w6 [LnsAt lb lD [x35, m35], Blk g2 #[.slice ao 0 co, .slice ap 1 cp] 46] := (H14.call0 T5).pick [2, 3]; have H16 : St (fun _ => False) w _ (_ :: _) := H15.allocAt rfl #[.int .i64 5, .slice pa ms.length pc] 45))
  obtain ⟨w7, hw7⟩ : ∃ z, w6.alloc (.cells #[.int .i64 5, .slice pa ms.length pc] 45) = z := ⟨_, rfl⟩
  obtain ⟨sb, hsb⟩ : ∃ z, w6.heap.size = z := ⟨_, rfl⟩
  rw [hw7, hsb] at H16
  try rw [hw7]
  try simp only [hsb]
  have H17 : St (fun _ => False) w w7 [Blk sb #[.int .i64 5, .slice pa ms.length pc] 45, LnsAt lb lD [x35, m35], Blk g2 #[.slice ao 0 co, .slice ap 1 cp] 46] := H16
  have hsbh := Lib.hid hsb
  clear hw7 hsb H14 H15 H16 T5 kst
  go_upto_region 11 with (go_at_call 37; go_must (refine (St.callPast (ksn lb _ _ _ _ (H17.front 1 rfl)) H17).mono ?_; rintro e w8 ⟨rfl, H18⟩; have H19 : St (fun _ => False) w _ (_ :: _) := H18.allocAt rfl #[.int .i64 0, .slice none 0 0] 45))
  obtain ⟨w9, hw9⟩ : ∃ z, w8.alloc (.cells #[.int .i64 0, .slice none 0 0] 45) = z := ⟨_, rfl⟩
  obtain ⟨sb2, hsb2⟩ : ∃ z, w8.heap.size = z := ⟨_, rfl⟩
  rw [hw9, hsb2] at H19
  try rw [hw9]
  try simp only [hsb2]
  have H20 : St (fun _ => False) w w9 [Blk sb #[.int .i64 5, .slice pa ms.length pc] 45, LnsAt lb lD [x35, m35], Blk g2 #[.slice ao 0 co, .slice ap 1 cp] 46] := H19.pick [1, 2, 3]
  have hsb2h := Lib.hid hsb2
  clear hw9 hsb2 H17 H18 H19 ksn
  have e3 : lD.length = 3 := rfl
  simp only [e3, show (((3 : Nat)) : Int) = 3 from rfl] at kle
  simp only [show [x35, m35].length = 2 from rfl] at kit
  have c0 := H20.cell 2 0 rfl rfl
  have c1 := H20.cell 2 1 rfl rfl
  have s0 := H20.cell 0 0 rfl rfl
  go_wp2_with (first
    | (go_at_call 33; go_must (refine (St.callPast (kn0 _) H20).mono ?_; rintro e w10 ⟨rfl, H21⟩; clear c0 c1 s0; have c0 := H21.cell 2 0 rfl rfl; have c1 := H21.cell 2 1 rfl rfl; have s0 := H21.cell 0 0 rfl rfl))
    | (go_at_call 38; go_must (refine (kle lb _ _ _ _ (H21.front 1 rfl)).mono ?_; rintro e w11 ⟨rfl, rfl⟩))
    | (go_at_call 39; go_must (refine (kit lb _ _ _ _ (H21.front 1 rfl)).mono ?_; rintro e w12 ⟨iv, rfl, T6⟩; obtain ⟨ja, jc, rfl, -, -⟩ := slice_form' (T6.row 0 rfl); have H22 : St (fun _ => False) w w12 [Blk sb #[.int .i64 5, .slice pa ms.length pc] 45, LnsAt lb lD [x35, m35], Blk g2 #[.slice ao 0 co, .slice ap 1 cp] 46] := (H21.call0 T6).pick [1, 2, 3]; clear c0 c1 s0; have c0 := H22.cell 2 0 rfl rfl; have c1 := H22.cell 2 1 rfl rfl; have s0 := H22.cell 0 0 rfl rfl))
    | (go_at_call 40; go_must (refine (kou lb _ _ _ _ (H22.front 1 rfl)).mono ?_; rintro e w13 ⟨ov, os, rfl, ho, T7⟩; obtain ⟨oa, oc, rfl, -, -⟩ := slice_form' (T7.row 0 rfl); have hol : os.length = 1 := (by have := congrArg List.length ho; simpa using this); rw [hol]; have H23 : St (fun _ => False) w w13 [Blk sb #[.int .i64 5, .slice pa ms.length pc] 45, LnsAt lb lD [x35, m35], Blk g2 #[.slice ao 0 co, .slice ap 1 cp] 46] := (H22.call0 T7).pick [2, 3, 4])))
  go_ret
  exact ⟨rfl, H23.below (Nat.le_refl _) (fun _ h => h.elim)⟩

end Go.Proofs.YtiglgfonhdfpmaaGreat

/- batch.Outs: all items, those that are refused left out. Conditions: the items fit the machine; so many. (Printed by a program of mine.) -/
set_option linter.unusedVariables false
set_option linter.unusedSimpArgs false
namespace Go.Proofs.YtiglgfonhdfpmaaGreat
open Go.RowKit

/-- What batch.Outs hands back, all its own. -/
def BatOk (w : World) (r : RunR) (e : Ending) (w' : World) : Prop :=
  ∃ ho os H, e = .returned (.tuple #[ho, .int .i64 r.n]) ∧ os.map (·.o) = r.outs ∧ (∀ y ∈ os, Om.own y ∈ H) ∧ St (fun _ => False) w w' [Row 63 10 ho os.length (encO.all os), Pool H]

set_option maxHeartbeats 8000000 in
set_option maxRecDepth 100000 in
theorem bat_outs (q : Qry) (l : List Itm) {iv : Value} (w : World) (hi : ItmsRO w iv l) (hil : l.length ≤ 4194304) :
    Calls Tryz.prog 45 #[qyV q, iv] w fun e w' => BatOk w (batM q l ⟨stt0, [], 0, 0⟩) e w' := by
  obtain ⟨res, hres⟩ : ∃ z, batM q l ⟨stt0, [], 0, 0⟩ = z := ⟨_, rfl⟩
  rw [hres]
  have hresh := Lib.hid hres
  clear hres
  obtain ⟨ia, ic, rfl, hic, hifit, hix⟩ := hi
  have hixh := Lib.hid hix
  have hifith := Lib.hid hifit
  clear hifit hix
  have kst := Lib.hid (fun (st : Stt) (x : Itm) (v : Value) w' (hv : PnsRO w' v st.panes) (hl : st.panes.length ≤ 1073741824) (hf : ∀ p ∈ st.panes, p.fits) (hx : x.fits) => oper_step q st x w' hv hl hf hx)
  have hgood := Lib.hid (fun (st : Stt) (x : Itm) (h : (stepM q st x).e = 0) => step_good h)
  have houts := Lib.hid (fun (st : Stt) (x : Itm) => step_outs q st x)
  have hbd := Lib.hid (fun (i : Nat) (x : Itm) (h : l[i]? = some x) r => bat_drop (q := q) h r)
  have knew := fun w' => new_below w'
  unfold qyV qyC at kst
  unfold qyV qyC
  have H1 : St (fun _ => False) w _ [_] := (St.nil _ w).allocAt rfl #[.int .i64 q.kind, .int .i64 q.size, .int .i64 q.slide, .int .i64 q.late, .int .i64 q.agg, .int .i64 q.k] 23
  go_enter Tryz.func45, Tryz.ntmps45
  go_upto_region 1 with (fail)
  obtain ⟨qb, hqb⟩ : ∃ b, w.heap.size = b := ⟨_, rfl⟩
  obtain ⟨w1, hw1⟩ : ∃ z, w.alloc (.cells #[.int .i64 q.kind, .int .i64 q.size, .int .i64 q.slide, .int .i64 q.late, .int .i64 q.agg, .int .i64 q.k] 23) = z := ⟨_, rfl⟩
  rw [hw1, hqb] at H1
  try rw [hw1]
  try simp only [hqb]
  have H2 : St (fun _ => False) w w1 [Blk qb #[.int .i64 q.kind, .int .i64 q.size, .int .i64 q.slide, .int .i64 q.late, .int .i64 q.agg, .int .i64 q.k] 23] := H1
  have hqbh := Lib.hid hqb
  clear hw1 hqb H1
  go_upto_block 1 with (go_at_call 22; go_must (refine (St.callPast (knew _) H2).mono ?_; rintro e w2 ⟨rfl, H3⟩))
  have H4 : St (fun _ => False) w _ [_, _] := H3.allocAt rfl #[.int .i64 (-1), .slice none 0 0] 45
  obtain ⟨w3, hw3⟩ : ∃ z, w2.alloc (.cells #[.int .i64 (-1), .slice none 0 0] 45) = z := ⟨_, rfl⟩
  obtain ⟨sb, hsb⟩ : ∃ b, w2.heap.size = b := ⟨_, rfl⟩
  rw [hw3, hsb] at H4
  try rw [hw3]
  try simp only [hsb]
  have H5 : St (fun _ => False) w w3 [Blk sb #[.int .i64 (-1), .slice none 0 0] 45, Row 68 8 (.slice none 0 0) 0 (encP.all []), Row 63 10 (.slice none 0 0) 0 (encO.all []), Pool [], Blk qb #[.int .i64 q.kind, .int .i64 q.size, .int .i64 q.slide, .int .i64 q.late, .int .i64 q.agg, .int .i64 q.k] 23] := (((H4.pool_nil).row_nil 63 10).row_nil 68 8).pick [3, 0, 1, 2, 4]
  have hsbh := Lib.hid hsb
  clear hw3 hsb H2 H3 H4 knew
  go_loopw [7, 8, 10, 11, 12, 13, 17] (fun u7 u8 _ _ _ _ u17 wr => ∃ (i n : Nat) (st : Stt) (O : List Ot) (smk : Int) (ms1 : List Pm) (os : List Om) (HH : List (Value × List Int)) (pa : Option Addr) (pc : Nat) (oa : Option Addr) (oc : Nat), i ≤ l.length ∧ u7 = .slice oa os.length oc ∧ u8 = .int .i64 n ∧ u17 = .int .i64 i ∧ Hid (batM q (l.drop i) ⟨st, O, n, 0⟩ = res) ∧ Hid (st.mark = smk ∧ ms1.map (·.p) = st.panes ∧ os.map (·.o) = O ∧ (∀ m ∈ ms1, Pm.own m ∈ HH) ∧ (∀ y ∈ os, Om.own y ∈ HH) ∧ st.panes.length ≤ 1073741824 ∧ ∀ p ∈ st.panes, p.fits) ∧ os.length ≤ 256 * i ∧ n ≤ i ∧ St (fun _ => False) w wr [Blk sb #[.int .i64 smk, .slice pa ms1.length pc] 45, Row 68 8 (.slice pa ms1.length pc) ms1.length (encP.all ms1), Row 63 10 (.slice oa os.length oc) os.length (encO.all os), Pool HH, Blk qb #[.int .i64 q.kind, .int .i64 q.size, .int .i64 q.slide, .int .i64 q.late, .int .i64 q.agg, .int .i64 q.k] 23]) (fun _ _ _ _ _ _ u17 _ => l.length - (intOf u17).toNat)
  case atStart => exact ⟨0, 0, stt0, [], -1, [], [], [], none, 0, none, 0, Nat.zero_le _, rfl, rfl, rfl, Lib.hid hresh.out, Lib.hid ⟨rfl, rfl, rfl, fun m hm => (by cases hm), fun y hy => (by cases hy), by simp [stt0], fun p hp => (by simp [stt0] at hp)⟩, by simp, Nat.le_refl _, H5⟩
  case round =>
    clear H5
    obtain ⟨i, n, st, O, smk, ms1, os, HH, pa, pc, oa, oc, hi, rfl, rfl, rfl, hrun, hall, hos, hni, HM⟩ := hrel
    by_cases hlt : i < l.length
    · obtain ⟨bi, oi, rfl, hbi, hcx⟩ := hixh.out (by intro e; rw [e] at hlt; simp at hlt)
      obtain ⟨x, hx⟩ : ∃ x, l[i]? = some x := ⟨_, List.getElem?_eq_getElem hlt⟩
      have hxf := hifith.out x (List.mem_of_getElem? hx)
      have hrd := hbd.out i x hx ⟨st, O, n, 0⟩
      simp only at hrd
      rw [hrun.out] at hrd
      obtain ⟨hsm, hms1, hos1, hmo1, hoo1, hpl1, hpf1⟩ := hall.out
      have hst := fun v w' hv => kst.out st x v w' hv hpl1 hpf1 hxf
      have hgd := hgood.out st x
      have hou := houts.out st x
      obtain ⟨R, hR⟩ : ∃ z, stepM q st x = z := ⟨_, rfl⟩
      simp only [hR] at hst
      rw [hR] at hrd hgd hou
      rw [hsm] at hst
      have hrdh := Lib.hid hrd
      have hgdh := Lib.hid hgd
      have hro : ∀ w' (L : List SP), St (fun _ => False) w w' L → ∀ a b : Nat, L[a]? = some (Row 68 8 (.slice pa ms1.length pc) ms1.length (encP.all ms1)) → L[b]? = some (Pool HH) → PnsRO w' (.slice pa ms1.length pc) st.panes := fun w' L h a b ha hb => by
        rw [← hms1]
        exact h.pnsRO a b ha hb hmo1
      have hroh := Lib.hid hro
      have hos1h := Lib.hid hos1
      have hoo1h := Lib.hid hoo1
      unfold StepOk at hst
      obtain ⟨x0, x1, x2, x3⟩ := itm_cells (hcx i x hx) (HM.kept.block bi hbi id)
      have hi2 : (i : Int) < (l.length : Int) := by omega
      clear hrd hgd hms1 hos1 hmo1 hoo1 hpl1 hpf1 hsm hro hR hcx hx hxf hrun
      obtain ⟨xk, xy, xt, xv⟩ := x
      unfold textV at x1
      unfold itmV textV at hst
      simp only at x0 x1 x2 x3 hst
      have hsth := Lib.hid hst
      clear hst
      have HA : St (fun _ => False) w _ (_ :: _) := HM.allocAt rfl #[.int .i64 xk, .string ⟨xy.toArray⟩, .int .i64 xt, .int .i64 xv] 56
      go_upto_region 7 with (fail)
      obtain ⟨wb, hwb⟩ : ∃ wb, wr.alloc (.cells #[.int .i64 xk, .string ⟨xy.toArray⟩, .int .i64 xt, .int .i64 xv] 56) = wb := ⟨_, rfl⟩
      obtain ⟨xb, hxb⟩ : ∃ xb, wr.heap.size = xb := ⟨_, rfl⟩
      rw [hwb, hxb] at HA
      try rw [hwb]
      try simp only [hxb]
      have HB : St (fun _ => False) w wb [Blk xb #[.int .i64 xk, .string ⟨xy.toArray⟩, .int .i64 xt, .int .i64 xv] 56, Blk sb #[.int .i64 smk, .slice pa ms1.length pc] 45, Row 68 8 (.slice pa ms1.length pc) ms1.length (encP.all ms1), Row 63 10 (.slice oa os.length oc) os.length (encO.all os), Pool HH, Blk qb #[.int .i64 q.kind, .int .i64 q.size, .int .i64 q.slide, .int .i64 q.late, .int .i64 q.agg, .int .i64 q.k] 23] := HA
      clear hwb hxb x0 x1 x2 x3 HM HA
      have y0 := HB.cell 0 0 rfl rfl
      have y1 := HB.cell 0 1 rfl rfl
      have y2 := HB.cell 0 2 rfl rfl
      have y3 := HB.cell 0 3 rfl rfl
      have s0 := HB.cell 1 0 rfl rfl
      have s1 := HB.cell 1 1 rfl rfl
      have d0 := HB.cell 5 0 rfl rfl
      have d1 := HB.cell 5 1 rfl rfl
      have d2 := HB.cell 5 2 rfl rfl
      have d3 := HB.cell 5 3 rfl rfl
      have d4 := HB.cell 5 4 rfl rfl
      have d5 := HB.cell 5 5 rfl rfl
      have hst := hsth.out _ wb (hroh.out wb _ HB 2 4 rfl rfl)
      obtain ⟨⟨mk2, ps2⟩, O2, e2⟩ := R
      simp only at hrdh hgdh hou hst
      go_upto_region 8 with (go_at_call 27; go_must (refine hst.mono ?_; rintro e w3 ⟨hs, ho, ms2, os2, H2, rfl, hm2, ho2, hmo2, hoo2, G1⟩; have hm2h := Lib.hid hm2; have ho2h := Lib.hid ho2; have hmo2h := Lib.hid hmo2; have hoo2h := Lib.hid hoo2; clear hm2 ho2 hmo2 hoo2; obtain ⟨p2, c2, rfl, -, -⟩ := slice_form' (G1.row 0 rfl); obtain ⟨o2, k2, rfl, -, -⟩ := slice_form' (G1.row 1 rfl); have HC0 : St (fun _ => False) w w3 [Row 68 8 (.slice p2 ms2.length c2) ms2.length (encP.all ms2), Row 63 10 (.slice o2 os2.length k2) os2.length (encO.all os2), Pool H2, Blk xb #[.int .i64 xk, .string ⟨xy.toArray⟩, .int .i64 xt, .int .i64 xv] 56, Blk sb #[.int .i64 smk, .slice pa ms1.length pc] 45, Row 68 8 (.slice pa ms1.length pc) ms1.length (encP.all ms1), Row 63 10 (.slice oa os.length oc) os.length (encO.all os), Pool HH, Blk qb #[.int .i64 q.kind, .int .i64 q.size, .int .i64 q.slide, .int .i64 q.late, .int .i64 q.agg, .int .i64 q.k] 23] := HB.call0 G1; have HC : St (fun _ => False) w _ (_ :: _) := HC0.allocAt rfl #[.int .i64 mk2, .slice p2 ms2.length c2] 45))
      obtain ⟨w4, hw4⟩ : ∃ z, w3.alloc (.cells #[.int .i64 mk2, .slice p2 ms2.length c2] 45) = z := ⟨_, rfl⟩
      obtain ⟨nb, hnb⟩ : ∃ z, w3.heap.size = z := ⟨_, rfl⟩
      rw [hw4, hnb] at HC
      try rw [hw4]
      try simp only [hnb]
      have HD : St (fun _ => False) w w4 [Blk nb #[.int .i64 mk2, .slice p2 ms2.length c2] 45, Row 68 8 (.slice p2 ms2.length c2) ms2.length (encP.all ms2), Row 63 10 (.slice o2 os2.length k2) os2.length (encO.all os2), Pool H2, Blk xb #[.int .i64 xk, .string ⟨xy.toArray⟩, .int .i64 xt, .int .i64 xv] 56, Blk sb #[.int .i64 smk, .slice pa ms1.length pc] 45, Row 68 8 (.slice pa ms1.length pc) ms1.length (encP.all ms1), Row 63 10 (.slice oa os.length oc) os.length (encO.all os), Pool HH, Blk qb #[.int .i64 q.kind, .int .i64 q.size, .int .i64 q.slide, .int .i64 q.late, .int .i64 q.agg, .int .i64 q.k] 23] := HC
      clear hw4 hnb HC0 HC HB G1 y0 y1 y2 y3 s0 s1 d0 d1 d2 d3 d4 d5 hst hsth hroh
      by_cases he : e2 = 0
      · subst he
        have hrd2 : res = batM q (l.drop (i + 1)) ⟨⟨mk2, ps2⟩, O ++ O2, n + 1, 0⟩ := by rw [hrdh.out, if_pos rfl]
        have hrd2h := Lib.hid hrd2
        obtain ⟨-, -, hgg, hgl⟩ := hgdh.out rfl
        have hggh := Lib.hid hgg
        have ho2l : os2.length ≤ 256 := by
          have := hou
          rw [← ho2h.out, List.length_map] at this
          exact this
        have n1 : IntKind.i64.wrap ((n : Int) + 1) = ((n + 1 : Nat) : Int) := by rw [IntKind.wrap_i64]; omega
        clear hrd2 hgg hrdh hgdh hou
        go_upto_region 9 with (fail)
        refine wp_script [(0, false), (1, false), (2, false), (4, false), (5, false), (3, true), (6, true), (7, false), (8, false)] (Fam fun w' => St (fun _ => False) w w' [Blk nb #[.int .i64 mk2, .slice p2 ms2.length c2] 45]) (fun w' => St (fun _ => False) w w' [Blk nb #[.int .i64 mk2, .slice p2 ms2.length c2] 45, Row 68 8 (.slice p2 ms2.length c2) ms2.length (encP.all ms2), Row 63 10 (.slice o2 os2.length k2) os2.length (encO.all os2), Pool H2, Blk xb #[.int .i64 xk, .string ⟨xy.toArray⟩, .int .i64 xt, .int .i64 xv] 56, Blk sb #[.int .i64 smk, .slice pa ms1.length pc] 45, Row 68 8 (.slice pa ms1.length pc) ms1.length (encP.all ms1), Row 63 10 (.slice oa os.length oc) os.length (encO.all os), Pool HH, Blk qb #[.int .i64 q.kind, .int .i64 q.size, .int .i64 q.slide, .int .i64 q.late, .int .i64 q.agg, .int .i64 q.k] 23]) (by kernel_rfl) (by rfl) (by kernel_rfl) (by kernel_rfl) HD.drew (Fam.st (fun _ h => h.pick [0])) ?_
        iterate 5 first
          | (apply script_pass
             · rfl
             · rfl
             intro K hK
             go_simp
             refine hK _ ?_
             clear hK K)
          | (apply script_step
             · rfl
             · rfl
             · intro I hI w1 h1'
               have h1 := hI.2 _ h1'
               have c0 := h1.cell 0 0 rfl rfl
               have c1 := h1.cell 0 1 rfl rfl
               first
                 | (go_simp
                    first
                      | rfl
                      | exact ⟨rfl, h1'⟩
                   )
             intro K hK
             go_simp
             refine hK _ ?_
             clear hK K)
        refine script_alone rfl rfl ?_
        intro V hV w1 h1
        obtain ⟨ro1, ro2, ro3, ro4, ro5⟩ := Enc.RO.cells (Enc.own encO (h1.row 2 rfl) rfl)
        cases ro3
        refine h1.came_append 7 rfl (.tmp 32) (.tmp 33) 46 rfl Tryz.underlying46 Tryz.info63 (by decide) rfl (encO.all os2) rfl (encO.all_len os2) (fun e => by rw [ro4 e]; rfl) (fun ad e j u hj => ro5 ad e j u hj) (encO.all_one1 os2) (by omega) ?_
        intro v' w2 HX
        obtain ⟨na, nc, rfl, -, -⟩ := slice_form' (HX.row 7 rfl)
        have HY : St (fun _ => False) w w2 [Blk nb #[.int .i64 mk2, .slice p2 ms2.length c2] 45, Row 68 8 (.slice p2 ms2.length c2) ms2.length (encP.all ms2), Row 63 10 (.slice o2 os2.length k2) os2.length (encO.all os2), Pool H2, Blk xb #[.int .i64 xk, .string ⟨xy.toArray⟩, .int .i64 xt, .int .i64 xv] 56, Blk sb #[.int .i64 smk, .slice pa ms1.length pc] 45, Row 68 8 (.slice pa ms1.length pc) ms1.length (encP.all ms1), Row 63 10 (.slice na (os.length + os2.length) nc) (os.length + os2.length) (encO.all os ++ encO.all os2), Pool HH, Blk qb #[.int .i64 q.kind, .int .i64 q.size, .int .i64 q.slide, .int .i64 q.late, .int .i64 q.agg, .int .i64 q.k] 23] := HX
        refine ⟨fun w' => St (fun _ => False) w w' [Blk nb #[.int .i64 mk2, .slice p2 ms2.length c2] 45, Row 68 8 (.slice p2 ms2.length c2) ms2.length (encP.all ms2), Row 63 10 (.slice o2 os2.length k2) os2.length (encO.all os2), Pool H2, Blk xb #[.int .i64 xk, .string ⟨xy.toArray⟩, .int .i64 xt, .int .i64 xv] 56, Blk sb #[.int .i64 smk, .slice pa ms1.length pc] 45, Row 68 8 (.slice pa ms1.length pc) ms1.length (encP.all ms1), Row 63 10 (.slice na (os.length + os2.length) nc) (os.length + os2.length) (encO.all os ++ encO.all os2), Pool HH, Blk qb #[.int .i64 q.kind, .int .i64 q.size, .int .i64 q.slide, .int .i64 q.late, .int .i64 q.agg, .int .i64 q.k] 23], hV _ _ _ (fun _ h => h) (Fam.st (fun _ h => h.pick [0])) ?_, HY⟩
        intro K hK
        go_simp
        refine hK _ ?_
        clear hK K hV V
        clear HY HX ro4 ro5 h1 w1 w2
        refine script_alone rfl rfl ?_
        intro V hV w1 h1
        have r0 := h1.free 5 0 rfl
        have r1 := h1.free 5 1 rfl
        have z0 := h1.cell 5 0 rfl rfl
        have z1 := h1.cell 5 1 rfl rfl
        have HY := (h1.set 5 rfl 0 (.int .i64 mk2)).set 5 rfl 1 (.slice p2 ms2.length c2)
        go_simp
        refine ⟨fun w' => St (fun _ => False) w w' [Blk nb #[.int .i64 mk2, .slice p2 ms2.length c2] 45, Row 68 8 (.slice p2 ms2.length c2) ms2.length (encP.all ms2), Row 63 10 (.slice o2 os2.length k2) os2.length (encO.all os2), Pool H2, Blk xb #[.int .i64 xk, .string ⟨xy.toArray⟩, .int .i64 xt, .int .i64 xv] 56, Blk sb #[.int .i64 mk2, .slice p2 ms2.length c2] 45, Row 68 8 (.slice pa ms1.length pc) ms1.length (encP.all ms1), Row 63 10 (.slice na (os.length + os2.length) nc) (os.length + os2.length) (encO.all os ++ encO.all os2), Pool HH, Blk qb #[.int .i64 q.kind, .int .i64 q.size, .int .i64 q.slide, .int .i64 q.late, .int .i64 q.agg, .int .i64 q.k] 23], hV _ _ _ (fun _ h => h) (Fam.st (fun _ h => h.pick [0])) ?_, HY⟩
        intro K hK
        go_simp
        refine hK _ ?_
        clear hK K hV V
        clear HY h1 w1 r0 r1 z0 z1
        iterate 2 first
          | (apply script_pass
             · rfl
             · rfl
             intro K hK
             go_simp
             refine hK _ ?_
             clear hK K)
          | (apply script_step
             · rfl
             · rfl
             · intro I hI w1 h1'
               have h1 := hI.2 _ h1'
               first
                 | (go_simp
                    first
                      | rfl
                      | exact ⟨rfl, h1'⟩
                   )
             intro K hK
             go_simp
             refine hK _ ?_
             clear hK K)
        refine script_nil ?_
        intro w9 H9
        have HJ0 : St (fun _ => False) w w9 [Pool (H2 ++ HH), Blk sb #[.int .i64 mk2, .slice p2 ms2.length c2] 45, Row 68 8 (.slice p2 ms2.length c2) ms2.length (encP.all ms2), Row 63 10 (.slice na (os.length + os2.length) nc) (os.length + os2.length) (encO.all os ++ encO.all os2), Blk qb #[.int .i64 q.kind, .int .i64 q.size, .int .i64 q.slide, .int .i64 q.late, .int .i64 q.agg, .int .i64 q.k] 23] := St.pool_join (H9.pick [3, 8, 5, 1, 7, 9])
        go_wp2
        go_roundw
        case rel =>
          refine ⟨i + 1, n + 1, ⟨mk2, ps2⟩, O ++ O2, mk2, ms2, os ++ os2, H2 ++ HH, p2, c2, na, nc, by omega, by rw [List.length_append], by first | rfl | go_num, by go_num, Lib.hid hrd2h.out.symm, Lib.hid ⟨rfl, hm2h.out, by rw [List.map_append, hos1h.out, ho2h.out], fun m hm => List.mem_append_left _ (hmo2h.out m hm), ?_, Nat.le_trans hgl (by decide), good_fits hggh.out⟩, by rw [List.length_append]; omega, by omega, ?_⟩
          · intro y hy
            rcases List.mem_append.1 hy with hy | hy
            · exact List.mem_append_right _ (hoo1h.out y hy)
            · exact List.mem_append_left _ (hoo2h.out y hy)
          · rw [List.length_append, Enc.all_app]
            exact HJ0.pick [1, 2, 3, 0, 4]
        case measure => simp [intOf]; omega
      · have hrd2 : res = batM q (l.drop (i + 1)) ⟨st, O, n, 0⟩ := by rw [hrdh.out, if_neg he]
        have hrd2h := Lib.hid hrd2
        have he2 : (e2 == 0) = false := by simpa using he
        clear hrd2 hrdh hgdh hou
        go_wp2
        go_roundw
        case rel => exact ⟨i + 1, n, st, O, smk, ms1, os, HH, pa, pc, oa, oc, by omega, rfl, rfl, by go_num, Lib.hid hrd2h.out.symm, hall, by omega, by omega, HD.pick [5, 6, 7, 8, 9]⟩
        case measure => simp [intOf]; omega
    · obtain rfl : i = l.length := by omega
      have hres2 : res = ⟨st, O, n, 0⟩ := by rw [← hrun.out, List.drop_length]; rfl
      have hfres := Lib.hid hres2
      obtain ⟨-, -, hos1, -, hoo1, -, -⟩ := hall.out
      have hos1h := Lib.hid hos1
      have hoo1h := Lib.hid hoo1
      clear hres2 hrun hall hos1 hoo1
      go_wp2
      go_ret2
      rw [hfres.out]
      exact ⟨.slice oa os.length oc, os, HH, rfl, hos1h.out, hoo1h.out, HM.pick [2, 3]⟩

end Go.Proofs.YtiglgfonhdfpmaaGreat

/- LanesWhole's walk. Conditions: the queries and the items can be read; so many, with names not too long. (Printed by a program of mine.) -/
set_option linter.unusedVariables false
set_option linter.unusedSimpArgs false
namespace Go.Proofs.YtiglgfonhdfpmaaGreat
open Go.RowKit

theorem Tryz.info23 : (Tryz.prog.info? 23).map (fun i => (i.zero, i.size, i.bytes)) = some (some (.agg #[.int .i64 0, .int .i64 0, .int .i64 0, .int .i64 0, .int .i64 0, .int .i64 0]), 6, 48) := by kernel_rfl
theorem new_rev (qs : List Qry) : newB qs.reverse = newB qs := by unfold newB; rw [List.length_reverse, List.all_reverse]

set_option maxHeartbeats 8000000 in
set_option maxRecDepth 100000 in
theorem whole_walk {qv iv : Value} {qs : List Qry} {l : List Itm} (w : World) (hq : encQ.RO w qv qs) (hql : qs.length ≤ 1048576) (hi : ItmsRO w iv l) (hil : l.length ≤ 1048576) (hs : wt5 l ≤ 4611686018427387904) :
    Calls Tryz.prog 8 #[qv, iv] w fun e w' => e = .returned (.bool true) ∧ Below w.heap.size w w' := by
  have kf := fun w' => first35 w'
  have kg := fun w' (hk : Kept (fun _ => False) w w') => great5 w' (hi.later hk) hs (by omega)
  have kn1 := fun w' (hk : Kept (fun _ => False) w w') => lns_new w' (hq.later hk) (by omega)
  have kn2 := fun w' v (h : encQ.RO w' v qs.reverse) => lns_new w' h (by rw [List.length_reverse]; omega)
  have hfits : ∀ x ∈ l, x.fits := by obtain ⟨_, _, _, _, h, _⟩ := hi; exact h
  obtain ⟨qa, qcap, rfl, -, hqc⟩ := id hq
  obtain ⟨ia, icap, rfl, -, -, hic⟩ := id hi
  have hqch := Lib.hid hqc
  have hich := Lib.hid hic
  have hfith := Lib.hid hfits
  have kn1h := Lib.hid kn1
  have kn2h := Lib.hid kn2
  clear hqc hic hfits hq hi kn1 kn2
  have hfin : ∀ e : Ending, ∀ w' : World, e = .returned (.bool true) → St (fun _ => False) w w' [] → e = .returned (.bool true) ∧ Below w.heap.size w w' := fun e w' h1 h2 => ⟨h1, h2.below (Nat.le_refl _) (fun _ h => h.elim)⟩
  have H0 : St (fun _ => False) w w [] := St.nil _ w
  go_enter Tryz.func8, Tryz.ntmps8
  go_upto_block 1 with (go_at_call 32; go_must (refine (St.callPast (kf _) H0).mono ?_; rintro e w1 ⟨rfl, H1⟩))
  have H2 : St (fun _ => False) w w1 [Row 23 6 (.slice none 0 0) 0 (encQ.all (qs.reverse.take 0))] := H1.row_nil 23 6
  clear H0 H1 kf
  go_loopw [5, 6, 26] (fun u5 _ u26 wr => ∃ (i : Nat) (va : Option Addr) (vc : Nat), i ≤ qs.length ∧ u26 = .int .i64 i ∧ u5 = .slice va i vc ∧ St (fun _ => False) w wr [Row 23 6 (.slice va i vc) i (encQ.all (qs.reverse.take i))]) (fun _ _ u26 _ => qs.length - (intOf u26).toNat)
  case atStart => exact ⟨0, none, 0, by omega, rfl, rfl, H2⟩
  case round =>
    clear H2
    obtain ⟨i, va, vc, hi, rfl, rfl, HM⟩ := hrel
    by_cases hlt : i < qs.length
    · obtain ⟨m, hm⟩ : ∃ m, qs.length = m + 1 := ⟨qs.length - 1, by omega⟩
      obtain ⟨j, hj⟩ : ∃ j, j = m - i := ⟨_, rfl⟩
      have z1 : IntKind.i64.wrap ((qs.length : Int) - 1) = (m : Int) := by rw [IntKind.wrap_i64]; omega
      have z2 : IntKind.i64.wrap ((m : Int) - (i : Int)) = (j : Int) := by rw [IntKind.wrap_i64]; omega
      have z3 : IntKind.i64.wrap (m : Int) = (m : Int) := by rw [IntKind.wrap_i64]; omega
      have z4 : IntKind.i64.wrap (j : Int) = (j : Int) := by rw [IntKind.wrap_i64]; omega
      have hj0 : (0 : Int) ≤ (j : Int) := by omega
      have hj1 : (j : Int) < (qs.length : Int) := by omega
      obtain ⟨b, o, rfl, hb, hc⟩ := hqch.out (by intro e; rw [e] at hlt; simp at hlt)
      obtain ⟨x, hx⟩ : ∃ x, qs[j]? = some x := ⟨_, List.getElem?_eq_getElem (by omega)⟩
      obtain ⟨q0, q1, q2, q3, q4, q5⟩ := qr_cells (hc j x hx) (HM.kept.block b hb id)
      have hsn : qs.reverse.take (i + 1) = qs.reverse.take i ++ [x] := take_snoc' (by rw [List.getElem?_reverse hlt, show qs.length - 1 - i = j by omega]; exact hx)
      have hsnh := Lib.hid hsn
      have hi2 : (i : Int) < (qs.length : Int) := by omega
      clear hx hc hsn hm hj
      obtain ⟨kd, sz, sl, lt, ag, kk⟩ := x
      simp only at q0 q1 q2 q3 q4 q5
      go_wp2_with (at_builtin; go_must (refine St.list_app (HM.skip _) 0 rfl rfl (.tmp 29) (.tmp 38) 72 rfl Tryz.underlying72 Tryz.info23 (by decide) rfl [.int .i64 kd, .int .i64 sz, .int .i64 sl, .int .i64 lt, .int .i64 ag, .int .i64 kk] rfl rfl (new_cells #[.int .i64 kd, .int .i64 sz, .int .i64 sl, .int .i64 lt, .int .i64 ag, .int .i64 kk] _) (by simp [Value.oneCell']) (by omega) (by omega) ?_; intro g5 cap5 w6 H6 hz6))
      go_roundw
      case rel =>
        refine ⟨i + 1, _, _, by omega, by go_num, rfl, ?_⟩
        rw [hsnh.out, encQ.all_app]
        exact H6
      case measure => simp [intOf]; omega
    · obtain rfl : i = qs.length := by omega
      rw [List.take_of_length_le (by rw [List.length_reverse]; exact Nat.le_refl _)] at HM
      have hbk : encQ.RO wr (.slice va qs.length vc) qs.reverse := encQ.own (HM.row 0 rfl) (by rw [List.length_reverse])
      have kn1 := kn1h.out wr HM.kept
      unfold NewOk at kn1
      by_cases hnb : newB qs = true
      case neg =>
        simp only [if_neg hnb] at kn1
        go_upto_region 10 with (go_at_call 33; go_must (refine (St.callPast kn1 HM).mono ?_; rintro e w2 ⟨rfl, H2⟩))
        have kn2 := kn2h.out w2 _ (encQ.own (H2.row 0 rfl) (by rw [List.length_reverse]))
        unfold NewOk at kn2
        simp only [new_rev, if_neg hnb] at kn2
        go_wp2_with (go_at_call 33; go_must (refine (St.callPast kn2 H2).mono ?_; rintro e w3 ⟨rfl, H3⟩))
        go_ret
        exact hfin _ _ rfl (H3.pick [])
      case pos =>
      simp only [if_pos hnb] at kn1
      have hl16 : 1 ≤ qs.length ∧ qs.length ≤ 16 := by unfold newB at hnb; simp only [Bool.and_eq_true, decide_eq_true_eq] at hnb; exact ⟨hnb.1.1, hnb.1.2⟩
      have hl16h := Lib.hid hl16
      go_upto_region 10 with (go_at_call 33; go_must (refine kn1.mono ?_; rintro e w2 ⟨xb, rfl, G1⟩; have H2 : St (fun _ => False) w w2 [LnsAt xb (qs.map Ln.new) [], Row 23 6 (.slice va qs.length vc) qs.length (encQ.all qs.reverse)] := HM.call0 G1))
      have kn2 := kn2h.out w2 _ (encQ.own (H2.row 1 rfl) (by rw [List.length_reverse]))
      unfold NewOk at kn2
      simp only [new_rev, if_pos hnb] at kn2
      clear kn1 kn1h kn2h hnb HM hbk hl16
      go_upto_region 11 with (go_at_call 33; go_must (refine kn2.mono ?_; rintro e w3 ⟨yb, rfl, G2⟩; have H3 : St (fun _ => False) w w3 [LnsAt yb (qs.reverse.map Ln.new) [], LnsAt xb (qs.map Ln.new) [], Row 23 6 (.slice va qs.length vc) qs.length (encQ.all qs.reverse)] := H2.call0 G2))
      clear kn2 G1 G2 H2
      have H4 : St (fun _ => False) w w3 [LnsAt yb (qs.reverse.map (allLn · [])) [], LnsAt xb (qs.map (allLn · [])) []] := H3.pick [0, 1]
      clear H3
      by_cases h5 : 5 < qs.length
      · have z : decide ((5 : Int) < (qs.length : Int)) = true := by simpa using (by omega : (5 : Int) < (qs.length : Int))
        go_wp2
        go_ret
        exact hfin _ _ rfl (H4.pick [])
      have z : decide ((5 : Int) < (qs.length : Int)) = false := by simpa using (by omega : ¬ (5 : Int) < (qs.length : Int))
      by_cases hgt : 800 < wt5 l
      · have z2 : decide ((800 : Int) < (wt5 l : Int)) = true := by simpa using (by omega : (800 : Int) < (wt5 l : Int))
        go_wp2_with (go_at_call 20; go_must (refine (St.callPast (kg _ H4.kept) H4).mono ?_; rintro e w4 ⟨rfl, H5⟩))
        go_ret
        exact hfin _ _ rfl (H5.pick [])
      have z2 : decide ((800 : Int) < (wt5 l : Int)) = false := by simpa using (by omega : ¬ (800 : Int) < (wt5 l : Int))
      go_upto_block 3 with (go_at_call 20; go_must (refine (St.callPast (kg _ H4.kept) H4).mono ?_; rintro e w4 ⟨rfl, H5⟩))
      clear H4 kg z z2 hgt h5
      have hh0 := Lib.hid hs
      clear hs
      go_loopw [12, 13, 14, 15, 16, 17, 18, 78] (fun _ _ _ _ _ _ _ u78 wr => ∃ (i : Nat) (its : List Itm), i ≤ l.length ∧ u78 = .int .i64 i ∧ Hid ((∀ q ∈ qs, Went q its) ∧ its.length ≤ i ∧ ∀ y ∈ its, y.fits) ∧ St (fun _ => False) w wr [LnsAt yb (qs.reverse.map (allLn · its)) its, LnsAt xb (qs.map (allLn · its)) its]) (fun _ _ _ _ _ _ _ u78 _ => l.length - (intOf u78).toNat)
      case atStart => exact ⟨0, [], by omega, rfl, Lib.hid ⟨fun q _ => went_nil q, Nat.le_refl _, fun y hy => (by cases hy)⟩, H5⟩
      case round =>
        clear H5
        obtain ⟨i, its, hi, rfl, hall, HM⟩ := hrel
        by_cases hlt : i < l.length
        · obtain ⟨b, o, rfl, hb, hc⟩ := hich.out (by intro e; rw [e] at hlt; simp at hlt)
          obtain ⟨x, hx⟩ : ∃ x, l[i]? = some x := ⟨_, List.getElem?_eq_getElem hlt⟩
          have hxf := hfith.out x (List.mem_of_getElem? hx)
          obtain ⟨q0, q1, q2, q3⟩ := itm_cells (hc i x hx) (HM.kept.block b hb id)
          have hi2 : (i : Int) < (l.length : Int) := by omega
          obtain ⟨hwt, hitl, hitf⟩ := hall.out
          have hne1 : qs.map (allLn · its) ≠ [] := fun e => by
            have h : (qs.map (allLn · its)).length = 0 := by rw [e]; rfl
            rw [List.length_map] at h
            have := hl16h.out.1
            omega
          have hne2 : qs.reverse.map (allLn · its) ≠ [] := fun e => by
            have h : (qs.reverse.map (allLn · its)).length = 0 := by rw [e]; rfl
            rw [List.length_map, List.length_reverse] at h
            have := hl16h.out.1
            omega
          have hle1 : (qs.map (allLn · its)).length ≤ 16 := by rw [List.length_map]; exact hl16h.out.2
          have hle2 : (qs.reverse.map (allLn · its)).length ≤ 16 := by rw [List.length_map, List.length_reverse]; exact hl16h.out.2
          have hrev : goLn x (qs.reverse.map (allLn · its)) = goLn x (qs.map (allLn · its)) := by rw [List.map_reverse, go_rev]
          have kx := fun (hg : goLn x (qs.map (allLn · its)) = true) w' S' => lns_step_ok (lb := xb) (S := S') x w' hxf hitf (by omega) hne1 hle1 (all_fit qs (by omega)) hg
          have ky := fun (hg : goLn x (qs.map (allLn · its)) = true) w' S' => lns_step_ok (lb := yb) (S := S') x w' hxf hitf (by omega) hne2 hle2 (all_fit qs.reverse (by omega)) (hrev.trans hg)
          have nx := fun (hg : goLn x (qs.map (allLn · its)) = false) w' S' => lns_step_no (lb := xb) (S := S') x w' hxf hitf (by omega) hne1 hle1 (all_fit qs (by omega)) hg
          have ny := fun (hg : goLn x (qs.map (allLn · its)) = false) w' S' => lns_step_no (lb := yb) (S := S') x w' hxf hitf (by omega) hne2 hle2 (all_fit qs.reverse (by omega)) (hrev.trans hg)
          have hw1 := fun (hg : goLn x (qs.map (allLn · its)) = true) => went_all hwt hg
          have hw2 := fun (hg : goLn x (qs.map (allLn · its)) = true) => went_all (qs := qs.reverse) (l := its) (x := x) (fun q hq => hwt q (List.mem_reverse.1 hq)) (hrev.trans hg)
          have hitf2 : ∀ y ∈ its ++ [x], y.fits := fun y hy => by
            rcases List.mem_append.1 hy with hy | hy
            · exact hitf y hy
            · obtain rfl := List.mem_singleton.1 hy; exact hxf
          have hitf2h := Lib.hid hitf2
          have hw1h := Lib.hid hw1
          have hw2h := Lib.hid hw2
          clear hne1 hne2 hle1 hle2 hrev hwt hitf hw1 hw2 hitf2 hxf hx hc
          by_cases hg : goLn x (qs.map (allLn · its)) = true
          · have kx := kx hg
            have ky := ky hg
            obtain ⟨n1, e1⟩ := hw1h.out hg
            obtain ⟨-, e2⟩ := hw2h.out hg
            rw [e1] at kx
            rw [e2] at ky
            have n1h := Lib.hid n1
            clear nx ny hw1h hw2h hg e1 e2 n1
            obtain ⟨xk, xy, xt, xv⟩ := x
            unfold itmV textV at kx ky
            unfold textV at q1
            simp only at q0 q1 q2 q3 kx ky
            generalize hIT : its ++ [(⟨xk, xy, xt, xv⟩ : Itm)] = IT at kx ky hitf2h n1h
            generalize (List.map (fun y : Ln => (stepM y.q y.s ⟨xk, xy, xt, xv⟩).outs) (qs.map (allLn · its))) = ox at kx
            generalize (List.map (fun y : Ln => (stepM y.q y.s ⟨xk, xy, xt, xv⟩).outs) (qs.reverse.map (allLn · its))) = oy at ky
            have hITl : IT.length ≤ i + 1 := by rw [← hIT, List.length_append]; have := hall.out.2.1; simp; omega
            have HA : St (fun _ => False) w _ (_ :: _) := HM.allocAt rfl #[.int .i64 xk, .string ⟨xy.toArray⟩, .int .i64 xt, .int .i64 xv] 56
            go_upto_region 18 with (fail)
            obtain ⟨wb, hwb⟩ : ∃ z, wr.alloc (.cells #[.int .i64 xk, .string ⟨xy.toArray⟩, .int .i64 xt, .int .i64 xv] 56) = z := ⟨_, rfl⟩
            obtain ⟨zb, hzb⟩ : ∃ z, wr.heap.size = z := ⟨_, rfl⟩
            rw [hwb, hzb] at HA
            try rw [hwb]
            try simp only [hzb]
            have HB : St (fun _ => False) w wb [LnsAt xb (qs.map (allLn · its)) its, Blk zb #[.int .i64 xk, .string ⟨xy.toArray⟩, .int .i64 xt, .int .i64 xv] 56, LnsAt yb (qs.reverse.map (allLn · its)) its] := HA.pick [2, 0, 1]
            clear hwb hzb q0 q1 q2 q3 HM HA hIT
            have c0 := HB.cell 1 0 rfl rfl
            have c1 := HB.cell 1 1 rfl rfl
            have c2 := HB.cell 1 2 rfl rfl
            have c3 := HB.cell 1 3 rfl rfl
            go_upto_region 19 with (go_at_call 35; go_must (obtain ⟨S1, K1, G1⟩ := St.call (l1 := [_]) HB; refine (kx _ _ K1).mono ?_; rintro e w3 ⟨g3, hs3, rfl, -, T1⟩; have HC0 := G1 _ _ T1; have HC : St (fun _ => False) w w3 [LnsAt yb (qs.reverse.map (allLn · its)) its, Blk zb #[.int .i64 xk, .string ⟨xy.toArray⟩, .int .i64 xt, .int .i64 xv] 56, LnsAt xb (qs.map (allLn · IT)) IT] := HC0.pick [3, 2, 0]))
            clear c0 c1 c2 c3 HB G1 T1 HC0 K1 kx
            have c0 := HC.cell 1 0 rfl rfl
            have c1 := HC.cell 1 1 rfl rfl
            have c2 := HC.cell 1 2 rfl rfl
            have c3 := HC.cell 1 3 rfl rfl
            go_upto_region 20 with (go_at_call 35; go_must (obtain ⟨S2, K2, G2⟩ := St.call (l1 := [_]) HC; refine (ky _ _ K2).mono ?_; rintro e w4 ⟨g4, hs4, rfl, -, T2⟩; have HD0 := G2 _ _ T2; have HD : St (fun _ => False) w w4 [LnsAt yb (qs.reverse.map (allLn · IT)) IT, LnsAt xb (qs.map (allLn · IT)) IT] := HD0.pick [0, 3]))
            clear c0 c1 c2 c3 HC G2 T2 HD0 K2 ky
            go_wp2
            go_roundw
            case rel => exact ⟨i + 1, IT, by omega, by go_num, Lib.hid ⟨n1h.out, hITl, hitf2h.out⟩, HD⟩
            case measure => simp [intOf]; omega
          · have hg2 : goLn x (qs.map (allLn · its)) = false := by simpa using hg
            have nx := nx hg2
            have ny := ny hg2
            clear kx ky hw1h hw2h hg hg2 hitf2h
            obtain ⟨xk, xy, xt, xv⟩ := x
            unfold itmV textV at nx ny
            unfold textV at q1
            simp only at q0 q1 q2 q3 nx ny
            have HA : St (fun _ => False) w _ (_ :: _) := HM.allocAt rfl #[.int .i64 xk, .string ⟨xy.toArray⟩, .int .i64 xt, .int .i64 xv] 56
            go_upto_region 18 with (fail)
            obtain ⟨wb, hwb⟩ : ∃ z, wr.alloc (.cells #[.int .i64 xk, .string ⟨xy.toArray⟩, .int .i64 xt, .int .i64 xv] 56) = z := ⟨_, rfl⟩
            obtain ⟨zb, hzb⟩ : ∃ z, wr.heap.size = z := ⟨_, rfl⟩
            rw [hwb, hzb] at HA
            try rw [hwb]
            try simp only [hzb]
            have HB : St (fun _ => False) w wb [LnsAt xb (qs.map (allLn · its)) its, Blk zb #[.int .i64 xk, .string ⟨xy.toArray⟩, .int .i64 xt, .int .i64 xv] 56, LnsAt yb (qs.reverse.map (allLn · its)) its] := HA.pick [2, 0, 1]
            clear hwb hzb q0 q1 q2 q3 HM HA
            have c0 := HB.cell 1 0 rfl rfl
            have c1 := HB.cell 1 1 rfl rfl
            have c2 := HB.cell 1 2 rfl rfl
            have c3 := HB.cell 1 3 rfl rfl
            go_upto_region 19 with (go_at_call 35; go_must (obtain ⟨S1, K1, G1⟩ := St.call (l1 := [_]) HB; refine (nx _ _ K1).mono ?_; rintro e w3 ⟨i1, er1, rfl, z1, T1⟩; have HC0 := G1 _ _ T1; have HC : St (fun _ => False) w w3 [LnsAt yb (qs.reverse.map (allLn · its)) its, Blk zb #[.int .i64 xk, .string ⟨xy.toArray⟩, .int .i64 xt, .int .i64 xv] 56, LnsAt xb (qs.map (allLn · its)) its] := HC0.pick [2, 1, 0]))
            clear c0 c1 c2 c3 HB G1 T1 HC0 K1 nx
            have c0 := HC.cell 1 0 rfl rfl
            have c1 := HC.cell 1 1 rfl rfl
            have c2 := HC.cell 1 2 rfl rfl
            have c3 := HC.cell 1 3 rfl rfl
            go_upto_region 20 with (go_at_call 35; go_must (obtain ⟨S2, K2, G2⟩ := St.call (l1 := [_]) HC; refine (ny _ _ K2).mono ?_; rintro e w4 ⟨i2, er2, rfl, z2, T2⟩; have HD0 := G2 _ _ T2; have HD : St (fun _ => False) w w4 [LnsAt yb (qs.reverse.map (allLn · its)) its, LnsAt xb (qs.map (allLn · its)) its] := HD0.pick [0, 2]))
            clear c0 c1 c2 c3 HC G2 T2 HD0 K2 ny
            go_wp2
            go_roundw
            case rel => exact ⟨i + 1, its, by omega, by go_num, Lib.hid ⟨hall.out.1, by have := hall.out.2.1; omega, hall.out.2.2⟩, HD⟩
            case measure => simp [intOf]; omega
        · obtain rfl : i = l.length := by omega
          obtain ⟨hwt, hitl, hitf⟩ := hall.out
          have hwth := Lib.hid hwt
          have hitfh := Lib.hid hitf
          have hits : its.length ≤ 1048576 := by omega
          have ko := Lib.hid (fun (q : Qry) w' (iv : Value) (h : ItmsRO w' iv its) => bat_outs q its w' h (by omega))
          have hsame := Lib.hid (fun w' v v' (a : ItmsRO w' v its) (b : ItmsRO w' v' its) => items_same w' a b (by omega))
          clear hlt hall hwt hitl hitf
          go_upto_block 5 with (fail)
          have hq16 := hl16h.out.2
          go_loopw [19, 20, 21, 104] (fun _ _ _ u104 wr => ∃ (i : Nat), i ≤ qs.length ∧ u104 = .int .i64 i ∧ St (fun _ => False) w wr [LnsAt yb (qs.reverse.map (allLn · its)) its, LnsAt xb (qs.map (allLn · its)) its]) (fun _ _ _ u104 _ => qs.length - (intOf u104).toNat)
          case atStart => exact ⟨0, by omega, rfl, HM⟩
          case round =>
            clear HM
            obtain ⟨i, hi, rfl, HM⟩ := hrel
            by_cases hlt : i < qs.length
            · obtain ⟨m, hm⟩ : ∃ m, qs.length = m + 1 := ⟨qs.length - 1, by omega⟩
              obtain ⟨j, hj⟩ : ∃ j, j = m - i := ⟨_, rfl⟩
              have z1 : IntKind.i64.wrap ((qs.length : Int) - 1) = (m : Int) := by rw [IntKind.wrap_i64]; omega
              have z2 : IntKind.i64.wrap ((m : Int) - (i : Int)) = (j : Int) := by rw [IntKind.wrap_i64]; omega
              have z3 : IntKind.i64.wrap (m : Int) = (m : Int) := by rw [IntKind.wrap_i64]; omega
              have z4 : IntKind.i64.wrap (j : Int) = (j : Int) := by rw [IntKind.wrap_i64]; omega
              obtain ⟨b, o, rfl, hb, hc⟩ := hqch.out (by intro e; rw [e] at hlt; simp at hlt)
              obtain ⟨x, hx⟩ : ∃ x, qs[i]? = some x := ⟨_, List.getElem?_eq_getElem hlt⟩
              have hw := hwth.out x (List.mem_of_getElem? hx)
              have hgd := bat_new x its
              have hqx : ∀ w', Kept (fun _ => False) w w' → _ := fun w' (hk : Kept (fun _ => False) w w') => qr_cells (hc i x hx) (hk.block b hb id)
              have hlx : (qs.map (allLn · its))[i]? = some (allLn x its) := by rw [List.getElem?_map, hx]; rfl
              have hly : (qs.reverse.map (allLn · its))[j]? = some (allLn x its) := by
                rw [List.getElem?_map, List.getElem?_reverse (by omega), show qs.length - 1 - j = i by omega, hx]
                rfl
              have hol : (batM x its ⟨stt0, [], 0, 0⟩).outs.length ≤ 1073741824 := by have := hgd.outs; omega
              have kox := fun w' (S0 : Nat → Prop) (w0 : World) (L : List SP) (h : St S0 w0 w' (LnsAt xb (qs.map (allLn · its)) its :: L)) => lns_outs h hlx (by rw [List.length_map]; omega) hol hgd.vals
              have koy := fun w' (S0 : Nat → Prop) (w0 : World) (L : List SP) (h : St S0 w0 w' (LnsAt yb (qs.reverse.map (allLn · its)) its :: L)) => lns_outs h hly (by rw [List.length_map, List.length_reverse]; omega) hol hgd.vals
              have kso := fun w' v v' (a : OtsRO w' v (batM x its ⟨stt0, [], 0, 0⟩).outs) (b : OtsRO w' v' (batM x its ⟨stt0, [], 0, 0⟩).outs) => oper_outs w' a b hol (fun p hp => by have := hgd.vals p hp; omega)
              have ko := ko.out x
              have hi2 : (i : Int) < (qs.length : Int) := by omega
              unfold BatOk at ko
              unfold Went at hw
              rw [show (allLn x its).outs = (batM x its ⟨stt0, [], 0, 0⟩).outs from rfl] at kox koy
              obtain ⟨r, hr⟩ : ∃ z, batM x its ⟨stt0, [], 0, 0⟩ = z := ⟨_, rfl⟩
              simp only [hr] at ko hw kox koy kso
              obtain ⟨rs, ro, rn, re⟩ := r
              simp only at ko hw kox koy kso
              subst hw
              have hxh := Lib.hid hqx
              have koxh := Lib.hid kox
              have koyh := Lib.hid koy
              have ksoh := Lib.hid kso
              have koh := Lib.hid ko
              clear hx hc hgd hqx hlx hly hol kox koy kso ko hr hm hj
              obtain ⟨kd, sz, sl, lt, ag, kk⟩ := x
              simp only at hxh
              go_upto_region 26 with (fail)
              refine wp_script [(0, false), (1, false), (2, false), (3, false), (4, false), (5, true), (6, true), (7, false), (8, false), (9, false), (10, false), (11, false)] (Fam fun w' => St (fun _ => False) w w' [LnsAt yb (qs.reverse.map (allLn · its)) its, LnsAt xb (qs.map (allLn · its)) its]) (fun w' => St (fun _ => False) w w' [LnsAt yb (qs.reverse.map (allLn · its)) its, LnsAt xb (qs.map (allLn · its)) its]) (by kernel_rfl) (by rfl) (by kernel_rfl) (by kernel_rfl) HM.drew (Fam.st (fun _ h => h.pick [0, 1])) ?_
              iterate 5 first
                | (apply script_pass
                   · rfl
                   · rfl
                   intro K hK
                   go_simp
                   refine hK _ ?_
                   clear hK K)
                | (apply script_step
                   · rfl
                   · rfl
                   · intro I hI w1 h1'
                     have h1 := hI.2 _ h1'
                     obtain ⟨q0, q1, q2, q3, q4, q5⟩ := hxh.out w1 h1.kept
                     first
                       | (go_simp
                          first
                            | rfl
                            | exact ⟨rfl, h1'⟩
                         )
                   intro K hK
                   go_simp
                   refine hK _ ?_
                   clear hK K)
              refine script_alone rfl rfl ?_
              intro V hV w1 h1
              go_simp
              refine (lns_items (h1.front 1 rfl) hitfh.out (by omega)).mono ?_
              rintro e w2 ⟨jv, rfl, G1⟩
              obtain ⟨ja, jc, rfl, -, -⟩ := slice_form' (G1.row 0 rfl)
              have HX : St (fun _ => False) w w2 [Row 56 4 (.slice ja its.length jc) its.length (itms its), LnsAt yb (qs.reverse.map (allLn · its)) its, LnsAt xb (qs.map (allLn · its)) its] := h1.call0 G1
              refine ⟨_, rfl, fun w' => St (fun _ => False) w w' [Row 56 4 (.slice ja its.length jc) its.length (itms its), LnsAt yb (qs.reverse.map (allLn · its)) its, LnsAt xb (qs.map (allLn · its)) its], hV _ _ _ (fun _ h => h) (Fam.st (fun _ h => h.pick [1, 2])) ?_, HX⟩
              intro K hK
              go_simp
              refine hK _ ?_
              clear hK K hV V
              clear HX h1 G1 w1 w2
              refine script_alone rfl rfl ?_
              intro V hV w1 h1
              go_simp
              unfold qyV qyC at koh
              refine (koh.out w1 _ (itms_own (h1.row 0 rfl) hitfh.out)).mono ?_
              rintro e w2 ⟨ov, os, H3, rfl, hos, hoo, G1⟩
              obtain ⟨oa, oc, rfl, -, -⟩ := slice_form' (G1.row 0 rfl)
              have hosh := Lib.hid (And.intro hos hoo)
              clear hos hoo
              have HX : St (fun _ => False) w w2 [Row 63 10 (.slice oa os.length oc) os.length (encO.all os), Pool H3, Row 56 4 (.slice ja its.length jc) its.length (itms its), LnsAt yb (qs.reverse.map (allLn · its)) its, LnsAt xb (qs.map (allLn · its)) its] := h1.call0 G1
              refine ⟨_, rfl, fun w' => St (fun _ => False) w w' [Row 63 10 (.slice oa os.length oc) os.length (encO.all os), Pool H3, Row 56 4 (.slice ja its.length jc) its.length (itms its), LnsAt yb (qs.reverse.map (allLn · its)) its, LnsAt xb (qs.map (allLn · its)) its], hV _ _ _ (fun _ h => h) (Fam.st (fun _ h => h.pick [3, 4])) ?_, HX⟩
              intro K hK
              go_simp
              refine hK _ ?_
              clear hK K hV V
              clear HX h1 G1 w1 w2
              iterate 5 first
                | (apply script_pass
                   · rfl
                   · rfl
                   intro K hK
                   go_simp
                   refine hK _ ?_
                   clear hK K)
                | (apply script_step
                   · rfl
                   · rfl
                   · intro I hI w1 h1'
                     have h1 := hI.2 _ h1'
                     first
                       | (go_simp
                          first
                            | rfl
                            | exact ⟨rfl, h1'⟩
                         )
                   intro K hK
                   go_simp
                   refine hK _ ?_
                   clear hK K)
              refine script_nil ?_
              intro w9 H9
              go_wp2_with (first
                | (go_at_call 39; go_must (refine (lns_items (H9.front 4 rfl) hitfh.out (by omega)).mono ?_; rintro e w10 ⟨kv, rfl, G1⟩; obtain ⟨ka, kc, rfl, -, -⟩ := slice_form' (G1.row 0 rfl); have H10 : St (fun _ => False) w w10 [Row 63 10 (.slice oa os.length oc) os.length (encO.all os), Pool H3, Row 56 4 (.slice ja its.length jc) its.length (itms its), LnsAt yb (qs.reverse.map (allLn · its)) its, LnsAt xb (qs.map (allLn · its)) its] := (H9.call0 G1).pick [1, 2, 3, 4, 5]))
                | (go_at_call 40; ((with_reducible show Calls _ _ #[.pointer (some ⟨xb, 0, none⟩), _] _ _); go_must (refine (koxh.out _ _ _ _ (H10.front 4 rfl)).mono ?_; rintro e w11 ⟨v11, os11, rfl, ho11, G2⟩; have H11 : St (fun _ => False) w w11 (Row 63 10 v11 os11.length (encO.all os11) :: Pool (os11.map Om.own) :: [Row 63 10 (.slice oa os.length oc) os.length (encO.all os), Pool H3, Row 56 4 (.slice ja its.length jc) its.length (itms its), LnsAt yb (qs.reverse.map (allLn · its)) its, LnsAt xb (qs.map (allLn · its)) its]) := H10.call0 G2; have r11 : OtsRO w11 v11 ro := (by rw [← ho11]; exact H11.otsRO 0 1 rfl rfl (fun m hm => List.mem_map_of_mem hm)); have s11 : OtsRO w11 (.slice oa os.length oc) ro := (by rw [← hosh.out.1]; exact H11.otsRO 2 3 rfl rfl hosh.out.2); clear ho11)))
                | (go_at_call 40; ((with_reducible show Calls _ _ #[.pointer (some ⟨yb, 0, none⟩), _] _ _); go_must (refine (koyh.out _ _ _ _ (H12.front 5 rfl)).mono ?_; rintro e w13 ⟨v13, os13, rfl, ho13, G3⟩; have H13 : St (fun _ => False) w w13 (Row 63 10 v13 os13.length (encO.all os13) :: Pool (os13.map Om.own) :: Row 63 10 v11 os11.length (encO.all os11) :: Pool (os11.map Om.own) :: [Row 63 10 (.slice oa os.length oc) os.length (encO.all os), Pool H3, Row 56 4 (.slice ja its.length jc) its.length (itms its), LnsAt yb (qs.reverse.map (allLn · its)) its, LnsAt xb (qs.map (allLn · its)) its]) := H12.call0 G3; have r13 : OtsRO w13 v13 ro := (by rw [← ho13]; exact H13.otsRO 0 1 rfl rfl (fun m hm => List.mem_map_of_mem hm)); have s13 : OtsRO w13 (.slice oa os.length oc) ro := (by rw [← hosh.out.1]; exact H13.otsRO 4 5 rfl rfl hosh.out.2); clear ho13)))
                | (go_at_call 26; with_reducible (refine (St.callPast (ksoh.out _ _ _ s11 r11) H11).mono ?_); rintro e w12 ⟨rfl, H12⟩)
                | (go_at_call 26; with_reducible (refine (St.callPast (ksoh.out _ _ _ s13 r13) H13).mono ?_); rintro e w14 ⟨rfl, H14⟩))
              go_roundw
              case rel => exact ⟨i + 1, by omega, by go_num, H14.pick [7, 8]⟩
              case measure => simp [intOf]; omega
            · obtain rfl : i = qs.length := by omega
              go_wp2_with (first
                | (go_at_call 39; ((with_reducible show Calls _ _ #[.pointer (some ⟨xb, 0, none⟩)] _ _); go_must (refine (lns_items (HM.front 1 rfl) hitfh.out (by omega)).mono ?_; rintro e w10 ⟨kv, rfl, G1⟩; have H10 : St (fun _ => False) w w10 [Row 56 4 kv its.length (itms its), LnsAt yb (qs.reverse.map (allLn · its)) its, LnsAt xb (qs.map (allLn · its)) its] := HM.call0 G1)))
                | (go_at_call 39; ((with_reducible show Calls _ _ #[.pointer (some ⟨yb, 0, none⟩)] _ _); go_must (refine (lns_items (H10.front 1 rfl) hitfh.out (by omega)).mono ?_; rintro e w11 ⟨kv2, rfl, G2⟩; have H11 : St (fun _ => False) w w11 [Row 56 4 kv2 its.length (itms its), Row 56 4 kv its.length (itms its), LnsAt yb (qs.reverse.map (allLn · its)) its, LnsAt xb (qs.map (allLn · its)) its] := H10.call0 G2)))
                | (go_at_call 44; go_must (refine (St.callPast (hsame.out _ _ _ (itms_own (H11.row 1 rfl) hitfh.out) (itms_own (H11.row 0 rfl) hitfh.out)) H11).mono ?_; rintro e w12 ⟨rfl, H12⟩)))
              go_ret
              exact hfin _ _ rfl (H12.pick [])

end Go.Proofs.YtiglgfonhdfpmaaGreat

/- A query that comes in, read by its type. Plain laws. -/
set_option linter.unusedVariables false
set_option linter.unusedSimpArgs false
namespace Go.Proofs.YtiglgfonhdfpmaaGreat
open Go.RowKit

theorem qry_read {w : World} {cs : List Value} (h : R Tryz.prog w 23 cs) : ∃ q : Qry, cs = (qyC q).toList := by
  have hl : cs.length = 6 := (R.struct Tryz.underlying23 h).1.trans (by kernel_rfl)
  obtain ⟨c0, c1, c2, c3, c4, c5, rfl⟩ : ∃ a b c d e f, cs = [a, b, c, d, e, f] := by
    match cs, hl with
    | [a, b, c, d, e, f], _ => exact ⟨a, b, c, d, e, f, rfl⟩
  have r0 : R Tryz.prog w 3 [c0] := R.field Tryz.underlying23 h 0 rfl (o := 0) (n := 1) rfl rfl (by kernel_rfl)
  have r1 : R Tryz.prog w 3 [c1] := R.field Tryz.underlying23 h 1 rfl (o := 1) (n := 1) rfl rfl (by kernel_rfl)
  have r2 : R Tryz.prog w 3 [c2] := R.field Tryz.underlying23 h 2 rfl (o := 2) (n := 1) rfl rfl (by kernel_rfl)
  have r3 : R Tryz.prog w 3 [c3] := R.field Tryz.underlying23 h 3 rfl (o := 3) (n := 1) rfl rfl (by kernel_rfl)
  have r4 : R Tryz.prog w 3 [c4] := R.field Tryz.underlying23 h 4 rfl (o := 4) (n := 1) rfl rfl (by kernel_rfl)
  have r5 : R Tryz.prog w 3 [c5] := R.field Tryz.underlying23 h 5 rfl (o := 5) (n := 1) rfl rfl (by kernel_rfl)
  obtain ⟨n0, e0, _⟩ := R.int Tryz.underlying3 r0
  obtain ⟨n1, e1, _⟩ := R.int Tryz.underlying3 r1
  obtain ⟨n2, e2, _⟩ := R.int Tryz.underlying3 r2
  obtain ⟨n3, e3, _⟩ := R.int Tryz.underlying3 r3
  obtain ⟨n4, e4, _⟩ := R.int Tryz.underlying3 r4
  obtain ⟨n5, e5, _⟩ := R.int Tryz.underlying3 r5
  simp only [List.cons.injEq, and_true] at e0 e1 e2 e3 e4 e5
  subst e0 e1 e2 e3 e4 e5
  exact ⟨⟨n0, n1, n2, n3, n4, n5⟩, rfl⟩
end Go.Proofs.YtiglgfonhdfpmaaGreat
