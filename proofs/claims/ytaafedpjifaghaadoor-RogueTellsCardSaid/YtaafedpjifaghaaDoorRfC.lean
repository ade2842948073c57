/- The walk of the document's Parse of a window (layer 8). Condition: the text's length. -/
import Derived.Test.YtaafedpjifaghaaDoorRfA
import Derived.Test.YtaafedpjifaghaaDoorRfB
set_option linter.unusedVariables false
set_option linter.unusedSimpArgs false
namespace Go.Proofs.YtaafedpjifaghaaDoor
open Go.RowKit

theorem results_cellTmp {P : Program} {fn : Func} {t c : Tmp} {ty : TypeId} (h : fn.results = #[.cell t ty, .tmp c]) {tmps : Array Value} {w : World} {b : Nat} {cs : List Value} {d : TypeDesc} (ht : tmps.getD t undef = .pointer (some ⟨b, 0, none⟩)) (hr : w.rangeAt b 0 cs)
    (hu : P.underlying ty = some d) (hd : d.isRow = true) (hi : (P.info? ty).map (·.size) = some cs.length) : (results fn tmps).run P w = .ok (.tuple #[.agg cs.toArray, tmps.getD c undef]) w := by
  have h2 := run_loadVar_mid (P := P) w b 0 ty cs d hr hu hd hi
  have h3 : tmps[t]?.getD undef = .pointer (some ⟨b, 0, none⟩) := by simpa using ht
  simp [results, h, h3, asAddr, h2]
theorem blk_rng {w : World} {g : Nat} {t : TypeId} {f : Nat × Nat} {cs : List Value} (h : w.heap[g]? = some (.cells cs.toArray t f)) : w.rangeAt g 0 cs := fun j u hj => by rw [Nat.zero_add, cell_blk h]; simpa using hj
theorem splR_le (a : List UInt8) : ∀ (f : Nat) (w s : List UInt8), ∀ x ∈ splR a f w s, x.length ≤ w.length + s.length
  | 0, w, s, x, h => by
    obtain rfl : x = w := by simpa [splR] using h
    omega
  | f + 1, w, [], x, h => by
    obtain rfl : x = w := by simpa [splR] using h
    simp
  | f + 1, w, c :: r, x, h => by
    unfold splR at h
    split at h
    · rcases List.mem_cons.1 h with rfl | h
      · omega
      · have := splR_le a f [] _ x h
        rw [List.length_drop] at this
        simp only [List.length_nil, List.length_cons] at *
        omega
    · have := splR_le a f _ r x h
      simp only [List.length_append, List.length_cons, List.length_nil] at *
      omega
theorem splA_le {a s x : List UInt8} (h : x ∈ splA a s) : x.length ≤ s.length := by
  have := splR_le a _ _ _ x h
  simpa using this
theorem splA_getD {a s : List UInt8} (k : Nat) : ((splA a s).getD k []).length ≤ s.length := by
  rw [List.getD_eq_getElem?_getD]
  cases h : (splA a s)[k]? with
  | none => simp
  | some x => exact splA_le (List.mem_of_getElem? h)
theorem splR_ne (a : List UInt8) : ∀ (f : Nat) (w s : List UInt8), splR a f w s ≠ []
  | 0, w, s => by simp [splR]
  | f + 1, w, [] => by simp [splR]
  | f + 1, w, c :: r => by
    unfold splR
    split
    · simp
    · exact splR_ne a f _ r
theorem splA_ne (a s : List UInt8) : 0 < (splA a s).length := List.length_pos_iff.2 (splR_ne a _ _ _)
theorem texts_get {l : List (List UInt8)} {k : Nat} (h : k < l.length) : (texts l)[k]? = some (.string ⟨(l.getD k []).toArray⟩) := by
  unfold texts
  rw [List.getElem?_map, List.getElem?_eq_getElem h, List.getD_eq_getElem?_getD, List.getElem?_eq_getElem h]
  rfl
theorem digS_lt : ∀ (l : List UInt8) (n m : Int) (k : Nat), 0 ≤ n → n < 10 ^ k → digS l n = some m → 0 ≤ m ∧ m < 10 ^ (k + l.length)
  | [], n, m, k, h0, h1, h => by
    obtain rfl : n = m := by simpa [digS] using h
    exact ⟨h0, h1⟩
  | c :: r, n, m, k, h0, h1, h => by
    unfold digS at h
    split at h
    · cases h
    · rename_i hc
      have := digS_lt r _ m (k + 1) (by omega) (by rw [Int.pow_succ]; omega) h
      simp only [List.length_cons]
      rw [show k + (r.length + 1) = k + 1 + r.length by omega]
      exact this
theorem num05U_lt (sg : Int) (t : List UInt8) (hs : sg = 1 ∨ sg = -1) : -1000000000000000000 ≤ (num05U sg t).1 ∧ (num05U sg t).1 ≤ 1000000000000000000 := by
  unfold num05U
  split
  · simp
  · rename_i h
    cases hd : digS t 0 with
    | none => simp
    | some n =>
      have h1 := digS_lt t 0 n 0 (by omega) (by simp) hd
      have h2 := pow18 (i := 0 + t.length) (by omega)
      simp only
      rcases hs with rfl | rfl <;> omega
theorem num05_lt (s : List UInt8) : -1000000000000000000 ≤ (num05 s).1 ∧ (num05 s).1 ≤ 1000000000000000000 := by
  unfold num05
  split
  · split
    · simp
    · exact num05U_lt _ _ (.inr rfl)
  · exact num05U_lt _ _ (.inl rfl)

def wdOf (s : List UInt8) : Wd := ⟨(splA [32] s).getD 0 [], (num05 ((splA [46, 46] ((splA [32] s).getD 1 [])).getD 0 [])).1, (num05 ((splA [46, 46] ((splA [32] s).getD 1 [])).getD 1 [])).1⟩
def parse08 (s : List UInt8) : Option Wd :=
  if (splA [32] s).length ≠ 2 then none else if (splA [46, 46] ((splA [32] s).getD 1 [])).length ≠ 2 then none
  else if (num05 ((splA [46, 46] ((splA [32] s).getD 1 [])).getD 0 [])).2 = true ∧ (num05 ((splA [46, 46] ((splA [32] s).getD 1 [])).getD 1 [])).2 = true ∧ (wdOf s).right = true then some (wdOf s) else none
def wdCells (x : Wd) : List Value := [.string ⟨x.key.toArray⟩, .int .i64 x.frm, .int .i64 x.to]
def wd00 : Wd := ⟨[], 0, 0⟩

set_option maxHeartbeats 4000000 in
set_option maxRecDepth 100000 in
theorem doc_wparse {s : List UInt8} (hl : s.length ≤ 1000000000) (w : World) :
    Calls Tryd.prog 74 #[.string ⟨s.toArray⟩] w fun e w' => e = .returned (.tuple #[.agg (wdCells ((parse08 s).getD wd00)).toArray, .bool (parse08 s).isSome]) ∧ Below w.heap.size w w' := by
  obtain ⟨p, hp⟩ : ∃ p, splA [32] s = p := ⟨_, rfl⟩
  obtain ⟨q, hq⟩ : ∃ q, splA [46, 46] (p.getD 1 []) = q := ⟨_, rfl⟩
  have hd : parse08 s = if p.length ≠ 2 then none else if q.length ≠ 2 then none else if (num05 (q.getD 0 [])).2 = true ∧ (num05 (q.getD 1 [])).2 = true ∧ (Wd.mk (p.getD 0 []) (num05 (q.getD 0 [])).1 (num05 (q.getD 1 [])).1).right = true then some ⟨p.getD 0 [], (num05 (q.getD 0 [])).1, (num05 (q.getD 1 [])).1⟩ else none := by
    unfold parse08 wdOf
    rw [hp, hq]
  have ks := fun w' => ref_split (s := s) (a := [32]) (by simp) hl (by simp) w'
  have lp0 := splA_getD (a := [32]) (s := s) 0
  have lp1 := splA_getD (a := [32]) (s := s) 1
  have np := splA_ne [32] s
  rw [hp] at ks lp0 lp1 np
  have kt := fun w' => ref_split (s := p.getD 1 []) (a := [46, 46]) (by simp) (by omega) (by simp) w'
  have lq0 := splA_getD (a := [46, 46]) (s := p.getD 1 []) 0
  have lq1 := splA_getD (a := [46, 46]) (s := p.getD 1 []) 1
  have nq := splA_ne [46, 46] (p.getD 1 [])
  rw [hq] at kt lq0 lq1 nq
  have ka := fun w' => doc_num (s := q.getD 0 []) (by omega) w'
  have kb := fun w' => doc_num (s := q.getD 1 []) (by omega) w'
  have ba := num05_lt (q.getD 0 [])
  have bb := num05_lt (q.getD 1 [])
  obtain ⟨⟨a, oa⟩, ha⟩ : ∃ x, num05 (q.getD 0 []) = x := ⟨_, rfl⟩
  obtain ⟨⟨b, ob⟩, hb⟩ : ∃ x, num05 (q.getD 1 []) = x := ⟨_, rfl⟩
  rw [ha] at ka ba hd
  rw [hb] at kb bb hd
  simp only at ka kb ba bb hd
  have kr := fun w' => doc_wright ⟨p.getD 0 [], a, b⟩ ⟨by simp only; omega, by simp only; omega, by simp only; omega⟩ w'
  simp only at kr
  obtain ⟨rt, hrt⟩ : ∃ rt, (Wd.mk (p.getD 0 []) a b).right = rt := ⟨_, rfl⟩
  rw [hrt] at kr hd
  have g0 : p.length = 2 → (texts p)[0]? = some (.string ⟨(p.getD 0 []).toArray⟩) ∧ (texts p)[1]? = some (.string ⟨(p.getD 1 []).toArray⟩) := fun h => ⟨texts_get (by omega), texts_get (by omega)⟩
  have g1 : q.length = 2 → (texts q)[0]? = some (.string ⟨(q.getD 0 []).toArray⟩) ∧ (texts q)[1]? = some (.string ⟨(q.getD 1 []).toArray⟩) := fun h => ⟨texts_get (by omega), texts_get (by omega)⟩
  obtain ⟨p0, hp0⟩ : ∃ x, p.getD 0 [] = x := ⟨_, rfl⟩
  obtain ⟨p1, hp1⟩ : ∃ x, p.getD 1 [] = x := ⟨_, rfl⟩
  obtain ⟨q0, hq0⟩ : ∃ x, q.getD 0 [] = x := ⟨_, rfl⟩
  obtain ⟨q1, hq1⟩ : ∃ x, q.getD 1 [] = x := ⟨_, rfl⟩
  rw [hp0] at g0 kr hd
  rw [hp1] at g0 kt
  rw [hq0] at g1 ka
  rw [hq1] at g1 kb
  obtain ⟨T, hT⟩ : ∃ T, texts p = T := ⟨_, rfl⟩
  obtain ⟨U, hU⟩ : ∃ U, texts q = U := ⟨_, rfl⟩
  obtain ⟨n, hn⟩ : ∃ n, p.length = n := ⟨_, rfl⟩
  obtain ⟨m, hm⟩ : ∃ m, q.length = m := ⟨_, rfl⟩
  rw [hT, hn] at ks
  rw [hT, hn] at g0
  rw [hU, hm] at kt g1
  rw [hn] at np hd
  rw [hm] at nq hd
  clear hT hU hn hm hp0 hp1 hq0 hq1 hrt ha hb hp hq lp0 lp1 lq0 lq1 ba bb
  unfold textV at ks kt
  obtain ⟨rb, hrb⟩ : ∃ g, w.heap.size = g := ⟨_, rfl⟩
  have H0 : St (fun _ => False) w (w.alloc (.cells #[.string ⟨#[]⟩, .int .i64 0, .int .i64 0] 110)) [Blk rb #[.string ⟨#[]⟩, .int .i64 0, .int .i64 0] 110] := (St.nil _ w).allocAt hrb _ _
  have hno : ∀ (w' : World) (L : List SP), St (fun _ => False) w w' (Blk rb #[.string ⟨#[]⟩, .int .i64 0, .int .i64 0] 110 :: L) → w'.rangeAt rb 0 (wdCells wd00) := fun w' L h => blk_rng (h.blk 0 rfl)
  have hnoh := Lib.hid hno
  clear hno
  go_enter Tryd.func74, Tryd.ntmps74
  go_upto_region 1 with (fail)
  obtain ⟨w1, hw1⟩ : ∃ w1, w.alloc (.cells #[.string ⟨#[]⟩, .int .i64 0, .int .i64 0] 110) = w1 := ⟨_, rfl⟩
  rw [hw1] at H0
  rw [hw1]
  try rw [hrb]
  clear hw1 hrb
  go_upto_region 2 with (go_at_call 42; go_must (refine (ks _).mono ?_; rintro e w2 ⟨v1, rfl, H1⟩; have H2 : St (fun _ => False) w w2 [Row 9 1 v1 n T, Blk rb #[.string ⟨#[]⟩, .int .i64 0, .int .i64 0] 110] := H0.call0 H1; obtain ⟨gp, cp, rfl⟩ := row_form (H2.row 0 rfl) rfl np))
  clear H0 H1 ks
  have s0 : w2.cell? ⟨rb, 0, none⟩ = some (.string ⟨#[]⟩) := H2.cell 1 0 rfl rfl
  by_cases h2 : n ≠ 2
  · have hdh := Lib.hid (show parse08 s = none by rw [hd, if_pos h2])
    have z1 : ((n : Int) != 2) = true := by simp; omega
    clear hd h2
    have r0 := H2.free 1 0 rfl
    have x0 : w2.cell? ⟨rb, 0, none⟩ = some (.string ⟨#[]⟩) := H2.cell 1 0 rfl rfl
    have r1 := H2.free 1 1 rfl
    have x1 : w2.cell? ⟨rb, 1, none⟩ = some (.int .i64 0) := H2.cell 1 1 rfl rfl
    have r2 := H2.free 1 2 rfl
    have x2 : w2.cell? ⟨rb, 2, none⟩ = some (.int .i64 0) := H2.cell 1 2 rfl rfl
    have HR := ((H2.set 1 rfl 0 (.string ⟨#[]⟩)).set 1 rfl 1 (.int .i64 0)).set 1 rfl 2 (.int .i64 0)
    go_wp2
    try simp only [Exit.inBlock, Exit.then]
    refine bodyPost_ret (results_cellTmp rfl rfl (blk_rng (cs := wdCells wd00) (HR.blk 1 rfl)) Tryd.underlying110 rfl (by kernel_rfl)) rfl ?_
    rw [hdh.out]
    exact ⟨rfl, HR.below (Nat.le_refl _) (fun _ h => h.elim)⟩
  have h2 : n = 2 := by omega
  rw [if_neg (by simp [h2])] at hd
  obtain ⟨c0, c1⟩ := g0 h2
  have z1 : ((n : Int) != 2) = false := by simp; omega
  have d0 := H2.rowCell 0 0 rfl c0
  have d1 := H2.rowCell 0 1 rfl c1
  have n1 : (1 : Int) < (n : Int) := by omega
  have n0 : (0 : Int) < (n : Int) := by omega
  have hnh := Lib.hid h2
  clear h2 g0
  go_upto_region 5 with (go_at_call 42; go_must (refine (kt _).mono ?_; rintro e w3 ⟨v2, rfl, H3⟩; have H4 : St (fun _ => False) w w3 [Row 9 1 v2 m U, Row 9 1 (.slice (some ⟨gp, 0, none⟩) n cp) n T, Blk rb #[.string ⟨#[]⟩, .int .i64 0, .int .i64 0] 110] := H2.call0 H3; obtain ⟨gq, cq, rfl⟩ := row_form (H4.row 0 rfl) rfl nq))
  clear H2 H3 kt d0 d1 s0
  by_cases h3 : m ≠ 2
  · have hdh := Lib.hid (show parse08 s = none by rw [hd, if_pos h3])
    have z2 : ((m : Int) != 2) = true := by simp; omega
    clear hd h3
    have r0 := H4.free 2 0 rfl
    have x0 : w3.cell? ⟨rb, 0, none⟩ = some (.string ⟨#[]⟩) := H4.cell 2 0 rfl rfl
    have r1 := H4.free 2 1 rfl
    have x1 : w3.cell? ⟨rb, 1, none⟩ = some (.int .i64 0) := H4.cell 2 1 rfl rfl
    have r2 := H4.free 2 2 rfl
    have x2 : w3.cell? ⟨rb, 2, none⟩ = some (.int .i64 0) := H4.cell 2 2 rfl rfl
    have HR := ((H4.set 2 rfl 0 (.string ⟨#[]⟩)).set 2 rfl 1 (.int .i64 0)).set 2 rfl 2 (.int .i64 0)
    go_wp2
    try simp only [Exit.inBlock, Exit.then]
    refine bodyPost_ret (results_cellTmp rfl rfl (blk_rng (cs := wdCells wd00) (HR.blk 2 rfl)) Tryd.underlying110 rfl (by kernel_rfl)) rfl ?_
    rw [hdh.out]
    exact ⟨rfl, HR.below (Nat.le_refl _) (fun _ h => h.elim)⟩
  have h3 : m = 2 := by omega
  rw [if_neg (by simp [h3])] at hd
  obtain ⟨c2, c3⟩ := g1 h3
  have z2 : ((m : Int) != 2) = false := by simp; omega
  have d0 := H4.rowCell 1 0 rfl c0
  have d1 := H4.rowCell 1 1 rfl c1
  have e0 := H4.rowCell 0 0 rfl c2
  have e1 := H4.rowCell 0 1 rfl c3
  have m1 : (1 : Int) < (m : Int) := by omega
  have m0 : (0 : Int) < (m : Int) := by omega
  clear h3 g1
  go_upto_region 8 with (go_at_call 86; go_must (refine (ka _).mono ?_; rintro e w4 ⟨rfl, rfl⟩))
  go_upto_region 9 with (go_at_call 86; go_must (refine (kb _).mono ?_; rintro e w4 ⟨rfl, rfl⟩))
  obtain ⟨wb, hwb⟩ : ∃ g, w4.heap.size = g := ⟨_, rfl⟩
  have H5 : St (fun _ => False) w (w4.alloc (.cells #[.string ⟨p0.toArray⟩, .int .i64 a, .int .i64 b] 110)) [Blk wb #[.string ⟨p0.toArray⟩, .int .i64 a, .int .i64 b] 110, Blk rb #[.string ⟨#[]⟩, .int .i64 0, .int .i64 0] 110] := St.pick (l := [Blk wb #[.string ⟨p0.toArray⟩, .int .i64 a, .int .i64 b] 110, Row 9 1 (.slice (some ⟨gq, 0, none⟩) m cq) m U, Row 9 1 (.slice (some ⟨gp, 0, none⟩) n cp) n T, Blk rb #[.string ⟨#[]⟩, .int .i64 0, .int .i64 0] 110]) (H4.allocAt hwb _ _) [0, 3]
  go_upto_region 10 with (fail)
  obtain ⟨w5, hw5⟩ : ∃ w5, w4.alloc (.cells #[.string ⟨p0.toArray⟩, .int .i64 a, .int .i64 b] 110) = w5 := ⟨_, rfl⟩
  rw [hw5] at H5
  rw [hw5]
  try rw [hwb]
  clear hw5 hwb H4 d0 d1 e0 e1 ka kb
  have f0 : w5.cell? ⟨wb, 0, none⟩ = some (.string ⟨p0.toArray⟩) := H5.cell 0 0 rfl rfl
  have f1 : w5.cell? ⟨wb, 1, none⟩ = some (.int .i64 a) := H5.cell 0 1 rfl rfl
  have f2 : w5.cell? ⟨wb, 2, none⟩ = some (.int .i64 b) := H5.cell 0 2 rfl rfl
  go_cut [55] from 45 to 55 (fun c wx => c = .bool (!decide (oa = true ∧ ob = true ∧ rt = true)) ∧ St (fun _ => False) w wx [Blk wb #[.string ⟨p0.toArray⟩, .int .i64 a, .int .i64 b] 110, Blk rb #[.string ⟨#[]⟩, .int .i64 0, .int .i64 0] 110])
  case first =>
    cases oa with
    | false =>
      go_wp2
      go_meet
      exact ⟨by simp, H5⟩
    | true =>
      cases ob with
      | false =>
        go_wp2
        go_meet
        exact ⟨by simp, H5⟩
      | true =>
        go_wp2_with (go_at_call 88; go_must (refine (St.callPast (kr _) H5).mono ?_; rintro e w6 ⟨rfl, H6⟩))
        go_meet
        exact ⟨by cases rt <;> simp, H6⟩
  case rest =>
  obtain ⟨rfl, H6⟩ := hcut
  clear H5 f0 f1 f2
  by_cases h4 : oa = true ∧ ob = true ∧ rt = true
  · have z3 : (!decide (oa = true ∧ ob = true ∧ rt = true)) = false := by simp [h4]
    rw [if_pos h4] at hd
    have hdh := Lib.hid (show parse08 s = some ⟨p0, a, b⟩ from hd)
    rw [z3]
    clear hd z3 h4
    have f0 : wc.cell? ⟨wb, 0, none⟩ = some (.string ⟨p0.toArray⟩) := H6.cell 0 0 rfl rfl
    have f1 : wc.cell? ⟨wb, 1, none⟩ = some (.int .i64 a) := H6.cell 0 1 rfl rfl
    have f2 : wc.cell? ⟨wb, 2, none⟩ = some (.int .i64 b) := H6.cell 0 2 rfl rfl
    have r0 := H6.free 1 0 rfl
    have r1 := H6.free 1 1 rfl
    have r2 := H6.free 1 2 rfl
    have x0 : wc.cell? ⟨rb, 0, none⟩ = some (.string ⟨#[]⟩) := H6.cell 1 0 rfl rfl
    have x1 : wc.cell? ⟨rb, 1, none⟩ = some (.int .i64 0) := H6.cell 1 1 rfl rfl
    have x2 : wc.cell? ⟨rb, 2, none⟩ = some (.int .i64 0) := H6.cell 1 2 rfl rfl
    have HR := ((H6.set 1 rfl 0 (.string ⟨p0.toArray⟩)).set 1 rfl 1 (.int .i64 a)).set 1 rfl 2 (.int .i64 b)
    go_wp2
    try simp only [Exit.inBlock, Exit.then]
    refine bodyPost_ret (results_cellTmp rfl rfl (blk_rng (cs := wdCells ⟨p0, a, b⟩) (HR.blk 1 rfl)) Tryd.underlying110 rfl (by kernel_rfl)) rfl ?_
    rw [hdh.out]
    exact ⟨rfl, HR.below (Nat.le_refl _) (fun _ h => h.elim)⟩
  · have z3 : (!decide (oa = true ∧ ob = true ∧ rt = true)) = true := by simp [h4]
    rw [if_neg h4] at hd
    have hdh := Lib.hid (show parse08 s = none from hd)
    rw [z3]
    clear hd z3 h4
    have r0 := H6.free 1 0 rfl
    have x0 : wc.cell? ⟨rb, 0, none⟩ = some (.string ⟨#[]⟩) := H6.cell 1 0 rfl rfl
    have r1 := H6.free 1 1 rfl
    have x1 : wc.cell? ⟨rb, 1, none⟩ = some (.int .i64 0) := H6.cell 1 1 rfl rfl
    have r2 := H6.free 1 2 rfl
    have x2 : wc.cell? ⟨rb, 2, none⟩ = some (.int .i64 0) := H6.cell 1 2 rfl rfl
    have HR := ((H6.set 1 rfl 0 (.string ⟨#[]⟩)).set 1 rfl 1 (.int .i64 0)).set 1 rfl 2 (.int .i64 0)
    go_wp2
    try simp only [Exit.inBlock, Exit.then]
    refine bodyPost_ret (results_cellTmp rfl rfl (blk_rng (cs := wdCells wd00) (HR.blk 1 rfl)) Tryd.underlying110 rfl (by kernel_rfl)) rfl ?_
    rw [hdh.out]
    exact ⟨rfl, HR.below (Nat.le_refl _) (fun _ h => h.elim)⟩

end Go.Proofs.YtaafedpjifaghaaDoor
