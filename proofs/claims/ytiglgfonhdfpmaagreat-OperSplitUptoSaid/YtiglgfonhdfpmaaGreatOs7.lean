import Derived.Test.YtiglgfonhdfpmaaGreatOs1
import Derived.Test.YtiglgfonhdfpmaaGreatOs2
import Derived.Test.YtiglgfonhdfpmaaGreatOs3
import Derived.Test.YtiglgfonhdfpmaaGreatOs4
import Derived.Test.YtiglgfonhdfpmaaGreatOs5
import Derived.Test.YtiglgfonhdfpmaaGreatOs6
import Derived.Deep.CutBlock
import Derived.Lib.ItoaNum
import Derived.Lib.AtoiAll
import Derived.Lib.Split
import Derived.Lib.SplitLaws
import Derived.Lib.IndexLaws
import Derived.Lib.CountLaws
import Derived.Shelf.SlGeneric
import Derived.Shelf.SlLaysF
import Derived.Shelf.GgSortFunc.Insertion
import Derived.Shelf.SlSortCmp.Whole1
/- The operator's Right: which states are right. Condition: the state fits the machine. -/
set_option linter.unusedVariables false
set_option linter.unusedSimpArgs false
namespace Go.Proofs.YtiglgfonhdfpmaaGreat
open Go.RowKit

theorem sortedP_iff : ∀ {l : List Pn}, sortedP l = true ↔ ∀ (i : Nat) a b, l[i]? = some a → l[i + 1]? = some b → a.w.place b.w < 0
  | [] => by simp [sortedP]
  | [x] => by simp [sortedP]
  | x :: y :: r => by
    have ih := sortedP_iff (l := y :: r)
    simp only [sortedP, Bool.and_eq_true, decide_eq_true_eq, ih]
    constructor
    · rintro ⟨h1, h2⟩ i a b ha hb
      cases i with
      | zero =>
        simp only [List.getElem?_cons_zero, Option.some.injEq, Nat.zero_add, List.getElem?_cons_succ] at ha hb
        subst ha hb
        exact h1
      | succ i => exact h2 i a b (by simpa using ha) (by simpa using hb)
    · intro h
      exact ⟨h 0 x y rfl rfl, fun i a b ha hb => h (i + 1) a b (by simpa using ha) (by simpa using hb)⟩
theorem settledW_iff : ∀ {l : List Wd}, settledW l = true ↔ Stl l
  | [] => by
    simp only [settledW, true_iff]
    intro k x hx
    simp at hx
  | [x] => by
    simp only [settledW]
    constructor
    · intro h k y hy
      cases k with
      | zero =>
        obtain rfl : x = y := by simpa using hy
        exact ⟨h, fun j z hj => absurd hj (by omega)⟩
      | succ k => simp at hy
    · intro h
      exact (h 0 x rfl).1
  | x :: y :: r => by
    have ih := settledW_iff (l := y :: r)
    simp only [settledW, Bool.and_eq_true, decide_eq_true_eq, ih, Bool.not_eq_true']
    constructor
    · rintro ⟨⟨⟨h1, h2⟩, h3⟩, h4⟩ k z hz
      cases k with
      | zero =>
        obtain rfl : x = z := by simpa using hz
        exact ⟨h1, fun j u hj => absurd hj (by omega)⟩
      | succ k =>
        have g := h4 k z (by simpa using hz)
        refine ⟨g.1, fun j u hj hu => ?_⟩
        obtain rfl : j = k := by omega
        cases j with
        | zero =>
          obtain rfl : x = u := by simpa using hu
          obtain rfl : y = z := by simpa using hz
          exact ⟨h2, h3⟩
        | succ j => exact g.2 j u rfl (by simpa using hu)
    · intro h
      have g := (h 1 y rfl).2 0 x rfl rfl
      refine ⟨⟨⟨(h 0 x rfl).1, g.1⟩, g.2⟩, fun k z hz => ?_⟩
      have g2 := h (k + 1) z (by simpa using hz)
      exact ⟨g2.1, fun j u hj hu => g2.2 (j + 1) u (by omega) (by simpa using hu)⟩
theorem settledW_stl (l : List Wd) : stl l = settledW l := by
  rw [Bool.eq_iff_iff, stl_true, settledW_iff]
theorem sright_eq (q : Qry) (s : Stt) : s.right q = (q.right && decide (-1 ≤ s.mark) && decide (s.mark ≤ 1099511627776) && decide (s.panes.length ≤ 256) && s.panes.all (·.ok q s.mark) && sortedP s.panes && (decide (q.kind ≠ 3) || settledW (s.panes.map (·.w)))) := rfl
/-- The first panes are as they may be. -/
def okTo (q : Qry) (mark : Int) (l : List Pm) (i : Nat) : Prop := ∀ (k : Nat) m, k < i → l[k]? = some m → m.p.ok q mark = true ∧ ∀ (j : Nat) a, j + 1 = k → l[j]? = some a → a.p.w.place m.p.w < 0
theorem okTo_all {q : Qry} {mark : Int} {l : List Pm} (h : okTo q mark l l.length) : (l.map (·.p)).all (·.ok q mark) = true ∧ sortedP (l.map (·.p)) = true := by
  constructor
  · refine List.all_eq_true.2 fun p hp => ?_
    obtain ⟨m, hm, rfl⟩ := List.mem_map.1 hp
    obtain ⟨k, hk⟩ := List.getElem?_of_mem hm
    exact (h k m (List.getElem?_eq_some_iff.1 hk).1 hk).1
  · refine sortedP_iff.2 fun i a b ha hb => ?_
    rw [List.getElem?_map] at ha hb
    obtain ⟨x, hx, rfl⟩ := Option.map_eq_some_iff.1 ha
    obtain ⟨y, hy, rfl⟩ := Option.map_eq_some_iff.1 hb
    exact (h (i + 1) y (List.getElem?_eq_some_iff.1 hy).1 hy).2 i x rfl hx
theorem okTo_bad {q : Qry} {mark : Int} {l : List Pm} {i : Nat} {m : Pm} (hm : l[i]? = some m) (h : m.p.ok q mark = false) : (l.map (·.p)).all (·.ok q mark) = false := by
  rw [List.all_eq_false]
  exact ⟨m.p, List.mem_map.2 ⟨m, List.mem_of_getElem? hm, rfl⟩, by rw [h]; simp⟩
theorem okTo_place {l : List Pm} {i : Nat} {a m : Pm} (ha : l[i]? = some a) (hm : l[i + 1]? = some m) (h : 0 ≤ a.p.w.place m.p.w) : sortedP (l.map (·.p)) = false := by
  rw [Bool.eq_false_iff]
  intro hc
  have := sortedP_iff.1 hc i a.p m.p (by rw [List.getElem?_map, ha]; rfl) (by rw [List.getElem?_map, hm]; rfl)
  omega

set_option maxHeartbeats 4000000 in
set_option maxRecDepth 100000 in
theorem oper_right_early (q : Qry) (mark : Int) {v : Value} (l : List Pn) (w : World) (hv : PnsRO w v l) (hl : l.length ≤ 1073741824) (hb : (q.right && decide (-1 ≤ mark) && decide (mark ≤ 1099511627776) && decide (l.length ≤ 256)) = false) :
    Calls Tryz.prog 29 #[qyV q, .agg #[.int .i64 mark, v]] w fun e w' => e = .returned (.bool false) ∧ Below w.heap.size w w' := by
  obtain ⟨ms, rfl, ⟨ao, cap, rfl, hcap, -⟩, -⟩ := hv
  rw [List.length_map] at hl hb
  have kq := fun w' => query_right q w'
  obtain ⟨nq, hnq⟩ : ∃ r, q.right = r := ⟨_, rfl⟩
  rw [hnq] at hb
  simp only [hnq] at kq
  clear hnq
  have hc : nq = false ∨ (nq = true ∧ mark < -1) ∨ (nq = true ∧ ¬ mark < -1 ∧ 1099511627776 < mark) ∨ (nq = true ∧ ¬ mark < -1 ∧ ¬ 1099511627776 < mark ∧ 256 < ms.length) := by
    cases nq
    · exact .inl rfl
    · by_cases h1 : mark < -1
      · exact .inr (.inl ⟨rfl, h1⟩)
      · by_cases h2 : 1099511627776 < mark
        · exact .inr (.inr (.inl ⟨rfl, h1, h2⟩))
        · by_cases h3 : 256 < ms.length
          · exact .inr (.inr (.inr ⟨rfl, h1, h2, h3⟩))
          · simp at hb
            omega
  clear hb
  obtain ⟨kd, sz, sl, lt, ag, kk⟩ := q
  unfold qyV qyC at kq
  simp only at kq
  unfold qyV qyC
  simp only
  have H0 : St (fun _ => False) w _ [_] := (St.nil _ w).allocAt rfl #[.int .i64 kd, .int .i64 sz, .int .i64 sl, .int .i64 lt, .int .i64 ag, .int .i64 kk] 23
  have H : St (fun _ => False) w _ [_, _] := H0.allocAt (B := w.heap.size + 1) (Array.size_push _) #[.int .i64 mark, .slice ao ms.length cap] 45
  have c0 := H.cell 0 0 rfl rfl
  have c1 := H.cell 0 1 rfl rfl
  have d0 := H.cell 1 0 rfl rfl
  have d1 := H.cell 1 1 rfl rfl
  have d2 := H.cell 1 2 rfl rfl
  have d3 := H.cell 1 3 rfl rfl
  have d4 := H.cell 1 4 rfl rfl
  have d5 := H.cell 1 5 rfl rfl
  go_enter Tryz.func29, Tryz.ntmps29
  rcases hc with rfl | ⟨rfl, h1⟩ | ⟨rfl, h1, h2⟩ | ⟨rfl, h1, h2, h3⟩
  case' inr.inr.inr => have h3' : (256 : Int) < (ms.length : Int) := by omega
  all_goals
    go_wp2_with (go_at_call 60; go_must (refine (St.callPast (kq _) H).mono ?_; rintro e w2 ⟨rfl, H2⟩; clear c0 c1 d0 d1 d2 d3 d4 d5; have c0 := H2.cell 0 0 rfl rfl; have c1 := H2.cell 0 1 rfl rfl))
    go_ret
    exact ⟨rfl, H2.below (Nat.le_refl _) (fun _ h => h.elim)⟩

set_option maxHeartbeats 8000000 in
set_option maxRecDepth 100000 in
theorem oper_right_late (q : Qry) (mark : Int) {v : Value} (ms : List Pm) (w : World) (hv : encP.RO w v ms) (hro : ∀ m ∈ ms, IntsRO w m.hd m.p.g.top) (hf : ∀ m ∈ ms, m.p.fits) (hq : q.right = true) (h1 : -1 ≤ mark) (h2 : mark ≤ 1099511627776) (h3 : ms.length ≤ 256) :
    Calls Tryz.prog 29 #[qyV q, .agg #[.int .i64 mark, v]] w fun e w' => e = .returned (.bool ((ms.map (·.p)).all (·.ok q mark) && sortedP (ms.map (·.p)) && (decide (q.kind ≠ 3) || settledW ((ms.map (·.p)).map (·.w))))) ∧ Below w.heap.size w w' := by
  have kq := fun w' => query_right q w'
  rw [hq] at kq
  have hvh := Lib.hid hv
  obtain ⟨ao, cap, rfl, hcap, hic⟩ := hv
  have hich := Lib.hid hic
  have hroh := Lib.hid hro
  have hfh := Lib.hid hf
  clear hic hro hf hq
  obtain ⟨res, hres⟩ : ∃ r, ((ms.map (·.p)).all (·.ok q mark) && sortedP (ms.map (·.p)) && (decide (q.kind ≠ 3) || settledW ((ms.map (·.p)).map (·.w)))) = r := ⟨_, rfl⟩
  rw [hres]
  have hresh := Lib.hid hres
  clear hres
  have kp := Lib.hid (fun w' m (hm : m.p.fits) (hr : IntsRO w' m.hd m.p.g.top) => oper_pane q m mark w' hm hr)
  obtain ⟨ok, hok⟩ : ∃ f : Pm → Bool, (fun m : Pm => m.p.ok q mark) = f := ⟨_, rfl⟩
  have hokh := Lib.hid (fun m : Pm => congrFun hok m)
  clear hok
  have hlaw := Lib.hid (fun h => okTo_all (q := q) (mark := mark) (l := ms) h)
  obtain ⟨Q, hQ⟩ : ∃ Q, Q = q := ⟨_, rfl⟩
  have hQh := Lib.hid hQ
  clear hQ
  obtain ⟨kd, sz, sl, lt, ag, kk⟩ := q
  unfold qyV qyC at kq
  simp only at kq
  unfold qyV qyC
  simp only
  have H0 : St (fun _ => False) w _ [_] := (St.nil _ w).allocAt rfl #[.int .i64 kd, .int .i64 sz, .int .i64 sl, .int .i64 lt, .int .i64 ag, .int .i64 kk] 23
  have H : St (fun _ => False) w _ [_, _] := H0.allocAt (B := w.heap.size + 1) (Array.size_push _) #[.int .i64 mark, .slice ao ms.length cap] 45
  obtain ⟨b, hb⟩ : ∃ b, w.heap.size = b := ⟨_, rfl⟩
  obtain ⟨b2, hb2⟩ : ∃ b2, b + 1 = b2 := ⟨_, rfl⟩
  obtain ⟨w1, hw1⟩ : ∃ w1, (w.alloc (.cells #[.int .i64 kd, .int .i64 sz, .int .i64 sl, .int .i64 lt, .int .i64 ag, .int .i64 kk] 23)).alloc (.cells #[.int .i64 mark, .slice ao ms.length cap] 45) = w1 := ⟨_, rfl⟩
  go_enter Tryz.func29, Tryz.ntmps29
  go_upto_region 1 with (fail)
  rw [hw1, hb, hb2] at H
  try rw [hw1]
  try simp only [hb, hb2]
  have hbh := Lib.hid hb
  clear hw1 hb hb2 H0
  have c0 := H.cell 0 0 rfl rfl
  have c1 := H.cell 0 1 rfl rfl
  have d0 := H.cell 1 0 rfl rfl
  have d1 := H.cell 1 1 rfl rfl
  have d2 := H.cell 1 2 rfl rfl
  have d3 := H.cell 1 3 rfl rfl
  have d4 := H.cell 1 4 rfl rfl
  have d5 := H.cell 1 5 rfl rfl
  have z1 : ¬ mark < -1 := by omega
  have z2 : ¬ 1099511627776 < mark := by omega
  have z3 : ¬ (256 : Int) < (ms.length : Int) := by omega
  go_upto_block 1 with (go_at_call 60; go_must (refine (St.callPast (kq _) H).mono ?_; rintro e w2 ⟨rfl, H2⟩; clear c0 c1 d0 d1 d2 d3 d4 d5; have c0 := H2.cell 0 0 rfl rfl; have c1 := H2.cell 0 1 rfl rfl))
  clear H c0 c1 kq
  go_loopw [5, 6, 29] (fun _ _ j wr => ∃ (i : Nat), i ≤ ms.length ∧ j = .int .i64 i ∧ Hid (okTo ⟨kd, sz, sl, lt, ag, kk⟩ mark ms i) ∧ St (fun _ => False) w wr [Blk b2 #[.int .i64 mark, .slice ao ms.length cap] 45, Blk b #[.int .i64 kd, .int .i64 sz, .int .i64 sl, .int .i64 lt, .int .i64 ag, .int .i64 kk] 23]) (fun _ _ j _ => ms.length - (intOf j).toNat)
  case atStart => exact ⟨0, by omega, rfl, Lib.hid (fun k m hk => absurd hk (by omega)), H2⟩
  case round =>
    clear H2
    obtain ⟨i, hi, rfl, hg, HM⟩ := hrel
    by_cases hlt : i < ms.length
    · obtain ⟨bp, o, rfl, hb, hc⟩ := hich.out (by intro e; rw [e] at hlt; simp at hlt)
      obtain ⟨m, hm⟩ : ∃ m, ms[i]? = some m := ⟨_, List.getElem?_eq_getElem hlt⟩
      have hmm := List.mem_of_getElem? hm
      obtain ⟨q0, q1, q2, q3, q4, q5, q6, q7⟩ := pn_cells (hc i m hm) (HM.kept.block bp hb id)
      have hch := Lib.hid hc
      have hmh := Lib.hid hm
      have km := fun w' (hk : Kept (fun _ => False) w w') => kp.out w' m (hfh.out m hmm) ((hroh.out m hmm).later hk)
      obtain ⟨nk, hnk⟩ : ∃ r, m.p.ok ⟨kd, sz, sl, lt, ag, kk⟩ mark = r := ⟨_, rfl⟩
      rw [hnk] at km
      have hnkh := Lib.hid hnk
      clear hm hc hnk hmm
      have kpl := Lib.hid (fun (a : Pm) w' => wd_place a.p.w m.p.w w')
      obtain ⟨M, hM⟩ : ∃ M, M = m := ⟨_, rfl⟩
      have hMh := Lib.hid hM
      clear hM
      obtain ⟨⟨⟨xk, xf, xt⟩, ⟨gn, ga, gt, gx, gy⟩, xr⟩, xa, xc⟩ := m
      unfold textV at q0
      unfold Pm.hd at q5
      unfold qyV qyC pnV pnC Pm.hd textV at km
      simp only at q0 q1 q2 q3 q4 q5 q6 q7 km
      obtain ⟨X, hX⟩ : ∃ X, ib gx = X := ⟨_, rfl⟩
      obtain ⟨Y, hY⟩ : ∃ Y, ib gy = Y := ⟨_, rfl⟩
      obtain ⟨TL, hTL⟩ : ∃ n, gt.length = n := ⟨_, rfl⟩
      simp only [hX, hY, hTL] at km q5 q6
      clear hX hY hTL
      have c0 := HM.cell 0 0 rfl rfl
      have c1 := HM.cell 0 1 rfl rfl
      have HA : St (fun _ => False) w _ [_, _, _] := HM.allocAt rfl #[.string ⟨xk.toArray⟩, .int .i64 xf, .int .i64 xt, .int .i64 gn, .int .i64 ga, .slice xa TL xc, .complex .f64 X Y, .int .i64 xr] 68
      go_upto_region 6 with (fail)
      obtain ⟨wb, hwb⟩ : ∃ wb, wr.alloc (.cells #[.string ⟨xk.toArray⟩, .int .i64 xf, .int .i64 xt, .int .i64 gn, .int .i64 ga, .slice xa TL xc, .complex .f64 X Y, .int .i64 xr] 68) = wb := ⟨_, rfl⟩
      obtain ⟨yb, hyb⟩ : ∃ yb, wr.heap.size = yb := ⟨_, rfl⟩
      rw [hwb, hyb] at HA
      try rw [hwb]
      try simp only [hyb]
      have HA2 : St (fun _ => False) w wb [Blk yb #[.string ⟨xk.toArray⟩, .int .i64 xf, .int .i64 xt, .int .i64 gn, .int .i64 ga, .slice xa TL xc, .complex .f64 X Y, .int .i64 xr] 68, Blk b2 #[.int .i64 mark, .slice (some ⟨bp, o, none⟩) ms.length cap] 45, Blk b #[.int .i64 kd, .int .i64 sz, .int .i64 sl, .int .i64 lt, .int .i64 ag, .int .i64 kk] 23] := HA
      clear hwb hyb q0 q1 q2 q3 q4 q5 q6 q7 c0 c1 HM HA
      cases nk with
      | false =>
        refine wp_calm (fun w' => St (fun _ => False) w w' [Blk yb #[.string ⟨xk.toArray⟩, .int .i64 xf, .int .i64 xt, .int .i64 gn, .int .i64 ga, .slice xa TL xc, .complex .f64 X Y, .int .i64 xr] 68, Blk b2 #[.int .i64 mark, .slice (some ⟨bp, o, none⟩) ms.length cap] 45, Blk b #[.int .i64 kd, .int .i64 sz, .int .i64 sl, .int .i64 lt, .int .i64 ag, .int .i64 kk] 23]) (by kernel_rfl) (by kernel_rfl) (HA2.drew) ?_
        iterate 23 first
          | (apply calm_pass
             · rfl
             intro K hK
             go_simp
             refine hK _ ?_
             clear hK K)
          | (apply calm_step
             · rfl
             · intro w1 h1
               have c0 := h1.cell 0 0 rfl rfl
               have c1 := h1.cell 0 1 rfl rfl
               have c2 := h1.cell 0 2 rfl rfl
               have c3 := h1.cell 0 3 rfl rfl
               have c4 := h1.cell 0 4 rfl rfl
               have c5 := h1.cell 0 5 rfl rfl
               have c6 := h1.cell 0 6 rfl rfl
               have c7 := h1.cell 0 7 rfl rfl
               have e0 := h1.cell 1 0 rfl rfl
               have e1 := h1.cell 1 1 rfl rfl
               have d0 := h1.cell 2 0 rfl rfl
               have d1 := h1.cell 2 1 rfl rfl
               have d2 := h1.cell 2 2 rfl rfl
               have d3 := h1.cell 2 3 rfl rfl
               have d4 := h1.cell 2 4 rfl rfl
               have d5 := h1.cell 2 5 rfl rfl
               first
                 | (go_simp
                    first
                      | rfl
                      | exact ⟨rfl, h1⟩
                      | (go_at_call 76; with_reducible exact St.callPast (km w1 h1.kept) h1)
                   )
             intro K hK
             go_simp
             refine hK _ ?_
             clear hK K)
        refine calm_nil ?_
        intro w9 H9
        go_wp2
        go_ret
        have hr : res = false := by rw [← hresh.out, okTo_bad hmh.out hnkh.out]; simp
        exact ⟨ret_bool (by rw [hr]), H9.below (Nat.le_refl _) (fun _ h => h.elim)⟩
      | true =>
        rcases Nat.eq_zero_or_pos i with hi0 | hi0
        · subst hi0
          simp only [Int.natCast_zero]
          refine wp_calm (fun w' => St (fun _ => False) w w' [Blk yb #[.string ⟨xk.toArray⟩, .int .i64 xf, .int .i64 xt, .int .i64 gn, .int .i64 ga, .slice xa TL xc, .complex .f64 X Y, .int .i64 xr] 68, Blk b2 #[.int .i64 mark, .slice (some ⟨bp, o, none⟩) ms.length cap] 45, Blk b #[.int .i64 kd, .int .i64 sz, .int .i64 sl, .int .i64 lt, .int .i64 ag, .int .i64 kk] 23]) (by kernel_rfl) (by kernel_rfl) (HA2.drew) ?_
          iterate 23 first
            | (apply calm_pass
               · rfl
               intro K hK
               go_simp
               refine hK _ ?_
               clear hK K)
            | (apply calm_step
               · rfl
               · intro w1 h1
                 have c0 := h1.cell 0 0 rfl rfl
                 have c1 := h1.cell 0 1 rfl rfl
                 have c2 := h1.cell 0 2 rfl rfl
                 have c3 := h1.cell 0 3 rfl rfl
                 have c4 := h1.cell 0 4 rfl rfl
                 have c5 := h1.cell 0 5 rfl rfl
                 have c6 := h1.cell 0 6 rfl rfl
                 have c7 := h1.cell 0 7 rfl rfl
                 have e0 := h1.cell 1 0 rfl rfl
                 have e1 := h1.cell 1 1 rfl rfl
                 have d0 := h1.cell 2 0 rfl rfl
                 have d1 := h1.cell 2 1 rfl rfl
                 have d2 := h1.cell 2 2 rfl rfl
                 have d3 := h1.cell 2 3 rfl rfl
                 have d4 := h1.cell 2 4 rfl rfl
                 have d5 := h1.cell 2 5 rfl rfl
                 first
                   | (go_simp
                      first
                        | rfl
                        | exact ⟨rfl, h1⟩
                        | (go_at_call 76; with_reducible exact St.callPast (km w1 h1.kept) h1)
                     )
               intro K hK
               go_simp
               refine hK _ ?_
               clear hK K)
          refine calm_nil ?_
          intro w9 H9
          go_wp2
          go_roundw
          case rel =>
            refine ⟨1, by omega, by first | rfl | go_num, Lib.hid ?_, H9.pick [1, 2]⟩
            intro k m hk hm
            obtain rfl : k = 0 := by omega
            rw [hmh.out] at hm
            obtain rfl := Option.some.inj hm
            exact ⟨hnkh.out, fun j a hj => absurd hj (by omega)⟩
          case measure => simp [intOf]; omega
        · obtain ⟨k, hk⟩ : ∃ k, i = k + 1 := ⟨i - 1, by omega⟩
          have z4 : (0 : Int) < (i : Int) := by omega
          have n1 : IntKind.i64.wrap ((i : Int) - 1) = (k : Int) := by rw [IntKind.wrap_i64]; omega
          have n1' : (i : Int) - 1 = (k : Int) := by omega
          have n2 : IntKind.i64.wrap (k : Int) = (k : Int) := by rw [IntKind.wrap_i64]; omega
          have hkl : (k : Int) < (ms.length : Int) := by omega
          have hkl' : k < ms.length := by omega
          obtain ⟨a, ha⟩ : ∃ a, ms[k]? = some a := ⟨_, List.getElem?_eq_getElem hkl'⟩
          have ga1 := hch.out k a ha
          have kpa := kpl.out a
          obtain ⟨P, hP⟩ : ∃ P, a.p.w.place ⟨xk, xf, xt⟩ = P := ⟨_, rfl⟩
          simp only at kpa
          simp only [hP] at kpa
          have hPh := Lib.hid hP
          have hkh := Lib.hid hk
          have hah := Lib.hid ha
          clear hP hk ha
          obtain ⟨⟨⟨yk, yf, yt⟩, ⟨hn, hga, ht, hx, hy⟩, yr⟩, ya, yc⟩ := a
          unfold wdV wdC textV at kpa
          simp only at kpa
          by_cases hP0 : 0 ≤ P
          · have hP0' : ¬ P < 0 := by omega
            refine wp_calm (fun w' => St (fun _ => False) w w' [Blk yb #[.string ⟨xk.toArray⟩, .int .i64 xf, .int .i64 xt, .int .i64 gn, .int .i64 ga, .slice xa TL xc, .complex .f64 X Y, .int .i64 xr] 68, Blk b2 #[.int .i64 mark, .slice (some ⟨bp, o, none⟩) ms.length cap] 45, Blk b #[.int .i64 kd, .int .i64 sz, .int .i64 sl, .int .i64 lt, .int .i64 ag, .int .i64 kk] 23]) (by kernel_rfl) (by kernel_rfl) (HA2.drew) ?_
            iterate 23 first
              | (apply calm_pass
                 · rfl
                 intro K hK
                 go_simp
                 refine hK _ ?_
                 clear hK K)
              | (apply calm_step
                 · rfl
                 · intro w1 h1
                   have c0 := h1.cell 0 0 rfl rfl
                   have c1 := h1.cell 0 1 rfl rfl
                   have c2 := h1.cell 0 2 rfl rfl
                   have c3 := h1.cell 0 3 rfl rfl
                   have c4 := h1.cell 0 4 rfl rfl
                   have c5 := h1.cell 0 5 rfl rfl
                   have c6 := h1.cell 0 6 rfl rfl
                   have c7 := h1.cell 0 7 rfl rfl
                   have e0 := h1.cell 1 0 rfl rfl
                   have e1 := h1.cell 1 1 rfl rfl
                   have d0 := h1.cell 2 0 rfl rfl
                   have d1 := h1.cell 2 1 rfl rfl
                   have d2 := h1.cell 2 2 rfl rfl
                   have d3 := h1.cell 2 3 rfl rfl
                   have d4 := h1.cell 2 4 rfl rfl
                   have d5 := h1.cell 2 5 rfl rfl
                   obtain ⟨p0, p1, p2, -⟩ := pn_cells ga1 (h1.kept.block bp hb id)
                   unfold textV at p0
                   simp only at p0 p1 p2
                   first
                     | (go_simp
                        first
                          | rfl
                          | exact ⟨rfl, h1⟩
                          | (go_at_call 77; with_reducible exact St.callPast (kpa w1) h1)
                          | (go_at_call 76; with_reducible exact St.callPast (km w1 h1.kept) h1)
                       )
                 intro K hK
                 go_simp
                 refine hK _ ?_
                 clear hK K)
            refine calm_nil ?_
            intro w9 H9
            go_wp2
            go_ret
            have hr : res = false := by
              rw [← hresh.out, okTo_place hah.out (by rw [← hkh.out]; exact hmh.out) (by rw [hPh.out]; exact hP0)]
              simp
            exact ⟨ret_bool (by rw [hr]), H9.below (Nat.le_refl _) (fun _ h => h.elim)⟩
          · have hP0' : P < 0 := by omega
            refine wp_calm (fun w' => St (fun _ => False) w w' [Blk yb #[.string ⟨xk.toArray⟩, .int .i64 xf, .int .i64 xt, .int .i64 gn, .int .i64 ga, .slice xa TL xc, .complex .f64 X Y, .int .i64 xr] 68, Blk b2 #[.int .i64 mark, .slice (some ⟨bp, o, none⟩) ms.length cap] 45, Blk b #[.int .i64 kd, .int .i64 sz, .int .i64 sl, .int .i64 lt, .int .i64 ag, .int .i64 kk] 23]) (by kernel_rfl) (by kernel_rfl) (HA2.drew) ?_
            iterate 23 first
              | (apply calm_pass
                 · rfl
                 intro K hK
                 go_simp
                 refine hK _ ?_
                 clear hK K)
              | (apply calm_step
                 · rfl
                 · intro w1 h1
                   have c0 := h1.cell 0 0 rfl rfl
                   have c1 := h1.cell 0 1 rfl rfl
                   have c2 := h1.cell 0 2 rfl rfl
                   have c3 := h1.cell 0 3 rfl rfl
                   have c4 := h1.cell 0 4 rfl rfl
                   have c5 := h1.cell 0 5 rfl rfl
                   have c6 := h1.cell 0 6 rfl rfl
                   have c7 := h1.cell 0 7 rfl rfl
                   have e0 := h1.cell 1 0 rfl rfl
                   have e1 := h1.cell 1 1 rfl rfl
                   have d0 := h1.cell 2 0 rfl rfl
                   have d1 := h1.cell 2 1 rfl rfl
                   have d2 := h1.cell 2 2 rfl rfl
                   have d3 := h1.cell 2 3 rfl rfl
                   have d4 := h1.cell 2 4 rfl rfl
                   have d5 := h1.cell 2 5 rfl rfl
                   obtain ⟨p0, p1, p2, -⟩ := pn_cells ga1 (h1.kept.block bp hb id)
                   unfold textV at p0
                   simp only at p0 p1 p2
                   first
                     | (go_simp
                        first
                          | rfl
                          | exact ⟨rfl, h1⟩
                          | (go_at_call 77; with_reducible exact St.callPast (kpa w1) h1)
                          | (go_at_call 76; with_reducible exact St.callPast (km w1 h1.kept) h1)
                       )
                 intro K hK
                 go_simp
                 refine hK _ ?_
                 clear hK K)
            refine calm_nil ?_
            intro w9 H9
            go_wp2
            go_roundw
            case rel =>
              refine ⟨i + 1, by omega, by go_num, Lib.hid ?_, H9.pick [1, 2]⟩
              intro r m hr hm
              rcases Nat.lt_or_ge r i with h | h
              · exact hg.out r m h hm
              · obtain rfl : r = i := by omega
                rw [hmh.out] at hm
                obtain rfl := Option.some.inj hm
                exact ⟨hnkh.out, fun j a hj ha => by
                  have := hkh.out
                  obtain rfl : j = k := by omega
                  rw [hah.out] at ha
                  obtain rfl := Option.some.inj ha
                  simp only
                  rw [hPh.out]
                  exact hP0'⟩
            case measure => simp [intOf]; omega
    · obtain rfl : i = ms.length := by omega
      have hl := hlaw.out hg.out
      have hres2 : res = (decide (kd ≠ 3) || settledW ((ms.map (·.p)).map (·.w))) := by rw [← hresh.out, hl.1, hl.2]; simp
      have hres2h := Lib.hid hres2
      clear hl hres2
      have d0 := HM.cell 1 0 rfl rfl
      have c1 := HM.cell 0 1 rfl rfl
      by_cases hk3 : kd = 3
      · subst hk3
        have kw := fun w' (hk : Kept (fun _ => False) w w') => oper_windows (hvh.out.later hk) (by omega)
        have hwf : ∀ y ∈ ms.map (·.p.w), y.fits := fun y hy => by
          obtain ⟨m, hm, rfl⟩ := List.mem_map.1 hy
          exact (hfh.out m hm).1
        have hwfh := Lib.hid hwf
        have ks := fun w' v (hv : WdsRO w' v (ms.map (·.p.w))) => sess_settled w' hv (by rw [List.length_map]; omega)
        have es : stl (ms.map (·.p.w)) = res := by
          rw [hres2h.out, settledW_stl, List.map_map]
          simp [Function.comp_def]
        rw [es] at ks
        clear es hwf
        go_wp2_with (first
          | (go_at_call 79; go_must (refine (kw _ HM.kept).mono ?_; rintro e w5 ⟨v5, rfl, H5⟩; have H6 := HM.call0 H5))
          | (go_at_call 78; go_must (refine (ks _ _ (wds_own (H5.row 0 rfl) hwfh.out)).mono ?_; rintro e w6 ⟨rfl, hb6⟩)))
        go_ret
        exact ⟨rfl, (H6.past hb6).below (Nat.le_refl _) (fun _ h => h.elim)⟩
      · have hk3' : (kd == 3) = false := by simpa using hk3
        go_wp2
        go_ret
        have hr : res = true := by rw [hres2h.out]; simp [hk3]
        exact ⟨ret_bool (by rw [hr]), HM.below (Nat.le_refl _) (fun _ h => h.elim)⟩
theorem oper_right (q : Qry) (s : Stt) {v : Value} (w : World) (hv : PnsRO w v s.panes) (hl : s.panes.length ≤ 1073741824) (hf : ∀ p ∈ s.panes, p.fits) :
    Calls Tryz.prog 29 #[qyV q, .agg #[.int .i64 s.mark, v]] w fun e w' => e = .returned (.bool (s.right q)) ∧ Below w.heap.size w w' := by
  obtain ⟨mark, l⟩ := s
  simp only at hv hl hf
  rw [sright_eq]
  simp only
  by_cases hb : (q.right && decide (-1 ≤ mark) && decide (mark ≤ 1099511627776) && decide (l.length ≤ 256)) = true
  · rw [hb, Bool.true_and]
    simp only [Bool.and_eq_true, decide_eq_true_eq] at hb
    obtain ⟨⟨⟨h0, h1⟩, h2⟩, h3⟩ := hb
    obtain ⟨ms, rfl, hv, hro⟩ := hv
    rw [List.length_map] at h3
    exact oper_right_late q mark ms w hv hro (fun m hm => hf m.p (List.mem_map.2 ⟨m, hm, rfl⟩)) h0 h1 h2 h3
  · rw [Bool.not_eq_true] at hb
    rw [hb]
    simp only [Bool.false_and]
    exact oper_right_early q mark l w hv hl hb

end Go.Proofs.YtiglgfonhdfpmaaGreat

/- slices.BinarySearchFunc at panes, and the stepper's find. Condition: so many panes. -/
set_option linter.unusedVariables false
set_option linter.unusedSimpArgs false
namespace Go.Proofs.YtiglgfonhdfpmaaGreat
open Go.RowKit

set_option maxHeartbeats 2000000 in
set_option maxRecDepth 100000 in
theorem find_one (m : Pm) (x : Wd) (w : World) : Calls Tryz.prog 253 #[pnV m, wdV x] w fun e w' => e = .returned (.int .i64 (m.p.w.place x)) ∧ Below w.heap.size w w' := by
  have kp := fun w' => wd_place m.p.w x w'
  obtain ⟨P, hP⟩ : ∃ P, m.p.w.place x = P := ⟨_, rfl⟩
  rw [hP] at kp ⊢
  clear hP
  obtain ⟨⟨⟨xk, xf, xt⟩, ⟨gn, ga, gt, gx, gy⟩, xr⟩, xa, xc⟩ := m
  obtain ⟨yk, yf, yt⟩ := x
  unfold wdV wdC textV at kp
  unfold pnV pnC Pm.hd wdV wdC textV
  simp only at kp ⊢
  obtain ⟨X, hX⟩ : ∃ X, ib gx = X := ⟨_, rfl⟩
  obtain ⟨Y, hY⟩ : ∃ Y, ib gy = Y := ⟨_, rfl⟩
  obtain ⟨TL, hTL⟩ : ∃ n, gt.length = n := ⟨_, rfl⟩
  simp only [hX, hY, hTL]
  clear hX hY hTL
  have H0 : St (fun _ => False) w _ [_] := (St.nil _ w).allocAt rfl #[.string ⟨xk.toArray⟩, .int .i64 xf, .int .i64 xt, .int .i64 gn, .int .i64 ga, .slice xa TL xc, .complex .f64 X Y, .int .i64 xr] 68
  have H : St (fun _ => False) w _ [_, _] := H0.allocAt (B := w.heap.size + 1) (Array.size_push _) #[.string ⟨yk.toArray⟩, .int .i64 yf, .int .i64 yt] 61
  have c0 := H.cell 0 0 rfl rfl
  have c1 := H.cell 0 1 rfl rfl
  have c2 := H.cell 0 2 rfl rfl
  have d0 := H.cell 1 0 rfl rfl
  have d1 := H.cell 1 1 rfl rfl
  have d2 := H.cell 1 2 rfl rfl
  go_enter Tryz.func253, Tryz.ntmps253
  go_wp2_with (go_at_call 77; go_must (refine (St.callPast (kp _) H).mono ?_; rintro e w2 ⟨rfl, H2⟩))
  go_ret
  exact ⟨rfl, H2.below (Nat.le_refl _) (fun _ h => h.elim)⟩

/-- The place of a window among panes, and whether its pane is there. -/
def FoundP (k : Nat) (l : List Pm) (x : Wd) (e : Ending) : Prop := ∃ bv : Bool, e = .returned (.tuple #[.int .i64 k, .bool bv]) ∧ (bv = true ↔ ∃ m, l[k]? = some m ∧ m.p.w = x)
def find1V : Value := .func (.func 253) #[] #[]
set_option maxHeartbeats 4000000 in
set_option maxRecDepth 100000 in
theorem pns_search {v : Value} {l : List Pm} {x : Wd} {w : World} {k : Nat} (hv : encP.RO w v l) (hl : l.length ≤ 1073741824) (hk : k ≤ l.length)
    (hlo : ∀ (j : Nat) y, j < k → l[j]? = some y → y.p.w.place x < 0) (hhi : ∀ (j : Nat) y, k ≤ j → l[j]? = some y → 0 ≤ y.p.w.place x) :
    Calls Tryz.prog 252 #[v, wdV x, find1V] w fun e w' => FoundP k l x e ∧ Below w.heap.size w w' := by
  obtain ⟨ao, cap, rfl, hcap, hic⟩ := hv
  have kfind := Lib.hid (fun (z : Pm) w' => find_one z x w')
  have hzero := Lib.hid (fun (z : Pm) => (place_zero (a := z.p.w) (b := x)))
  obtain ⟨xx, hxx⟩ : ∃ xx, xx = x := ⟨_, rfl⟩
  have hxxh := Lib.hid hxx
  rw [← hxx]
  obtain ⟨xk, xf, xt⟩ := x
  have H0 : St (fun _ => False) w _ [_] := (St.nil (fun _ => False) w).allocAt rfl #[.string ⟨xk.toArray⟩, .int .i64 xf, .int .i64 xt] 61
  have hloh := Lib.hid hlo
  have hhih := Lib.hid hhi
  have hich := Lib.hid hic
  clear hlo hhi hic
  unfold find1V
  rw [hxx]
  clear hxx
  unfold wdV wdC textV
  simp only
  go_enter Tryz.func252, Tryz.ntmps252
  go_upto_region 1 with (fail)
  obtain ⟨wb, hwb⟩ : ∃ wb, w.alloc (.cells #[.string ⟨xk.toArray⟩, .int .i64 xf, .int .i64 xt] 61) = wb := ⟨_, rfl⟩
  obtain ⟨xb, hxb⟩ : ∃ xb, w.heap.size = xb := ⟨_, rfl⟩
  rw [hwb, hxb] at H0
  try rw [hwb]
  try simp only [hxb]
  have H1 : St (fun _ => False) w wb [Blk xb #[.string ⟨xk.toArray⟩, .int .i64 xf, .int .i64 xt] 61] := H0
  have hxbh := Lib.hid hxb
  clear hwb hxb H0
  go_upto_block 1 with (fail)
  go_loopw [9, 10, 11] (fun s u _ wr => ∃ (i j : Nat), s = .int .i64 i ∧ u = .int .i64 j ∧ i ≤ k ∧ k ≤ j ∧ j ≤ l.length ∧ St (fun _ => False) w wr [Blk xb #[.string ⟨xk.toArray⟩, .int .i64 xf, .int .i64 xt] 61]) (fun s u _ _ => (intOf u).toNat - (intOf s).toNat)
  case atStart => exact ⟨0, l.length, rfl, rfl, by omega, hk, by omega, H1⟩
  case round =>
    clear H1
    obtain ⟨i, j, rfl, rfl, hik, hkj, hjl, HM⟩ := hrel
    by_cases hlt : i < j
    · obtain ⟨b, o, rfl, hb, hc⟩ := hich.out (by intro e; rw [e] at hjl; simp at hjl; omega)
      have hhlt : i ≤ (i + j) / 2 ∧ (i + j) / 2 < j := by omega
      have wh : ((i : Int) + (j : Int)) / 2 = (((i + j) / 2 : Nat) : Int) := by omega
      obtain ⟨h, hh⟩ : ∃ h, (i + j) / 2 = h := ⟨_, rfl⟩
      rw [hh] at hhlt wh
      obtain ⟨z, hz⟩ : ∃ z, l[h]? = some z := ⟨_, List.getElem?_eq_getElem (by omega)⟩
      have g1 := hc h z hz
      have kp := kfind.out z
      have hhn : (h : Int) < (l.length : Int) := by omega
      have hhn' : h < l.length := by omega
      have hzh := Lib.hid hz
      obtain ⟨P, hP⟩ : ∃ P, z.p.w.place ⟨xk, xf, xt⟩ = P := ⟨_, rfl⟩
      simp only [hP] at kp
      have hPh := Lib.hid hP
      clear hh hz hc hP
      obtain ⟨⟨⟨zk, zf, zt⟩, ⟨gn, ga, gt, gx, gy⟩, zr⟩, za, zc⟩ := z
      unfold pnV pnC Pm.hd wdV wdC textV at kp
      simp only at kp
      obtain ⟨X, hX⟩ : ∃ X, ib gx = X := ⟨_, rfl⟩
      obtain ⟨Y, hY⟩ : ∃ Y, ib gy = Y := ⟨_, rfl⟩
      obtain ⟨TL, hTL⟩ : ∃ n, gt.length = n := ⟨_, rfl⟩
      simp only [hX, hY, hTL] at kp
      go_upto_region 5 with (fail)
      refine wp_calm (fun w' => St (fun _ => False) w w' [Blk xb #[.string ⟨xk.toArray⟩, .int .i64 xf, .int .i64 xt] 61]) (by kernel_rfl) (by kernel_rfl) (HM.drew) ?_
      iterate 8 first
        | (apply calm_pass
           · rfl
           intro K hK
           go_simp
           refine hK _ ?_
           clear hK K)
        | (apply calm_step
           · rfl
           · intro w1 h1
             have d0 := h1.cell 0 0 rfl rfl
             have d1 := h1.cell 0 1 rfl rfl
             have d2 := h1.cell 0 2 rfl rfl
             obtain ⟨p0, p1, p2, p3, p4, p5, p6, p7⟩ := pn_cells g1 (h1.kept.block b hb id)
             unfold textV at p0
             unfold Pm.hd at p5
             simp only [hX, hY, hTL] at p0 p1 p2 p3 p4 p5 p6 p7
             first
               | (go_simp
                  first
                    | rfl
                    | exact ⟨rfl, h1⟩
                    | (go_at_call 253; with_reducible exact St.callPast (kp w1) h1)
                 )
           intro K hK
           go_simp
           refine hK _ ?_
           clear hK K)
      refine calm_nil ?_
      intro w2 H2
      clear kp HM hX hY hTL
      by_cases hlt2 : P < 0
      · go_wp2
        go_roundw
        case rel =>
          refine ⟨h + 1, j, by go_num, rfl, ?_, by omega, hjl, H2⟩
          refine Classical.byContradiction fun hcc => ?_
          have := hhih.out h _ (by omega) hzh.out
          rw [hPh.out] at this
          omega
        case measure => simp [intOf]; omega
      · go_wp2
        go_roundw
        case rel =>
          refine ⟨i, h, rfl, by go_num, by omega, ?_, by omega, H2⟩
          refine Classical.byContradiction fun hcc => ?_
          have := hloh.out h _ (by omega) hzh.out
          rw [hPh.out] at this
          omega
        case measure => simp [intOf]; omega
    · obtain rfl : i = k := by omega
      obtain rfl : i = j := by omega
      by_cases hil : i < l.length
      · obtain ⟨b, o, rfl, hb, hc⟩ := hich.out (by intro e; rw [e] at hil; simp at hil)
        obtain ⟨z, hz⟩ : ∃ z, l[i]? = some z := ⟨_, List.getElem?_eq_getElem hil⟩
        have g1 := hc i z hz
        have kp := kfind.out z
        have hil' : (i : Int) < (l.length : Int) := by omega
        have hzh := Lib.hid hz
        have hz0 := hzero.out z
        obtain ⟨P, hP⟩ : ∃ P, z.p.w.place ⟨xk, xf, xt⟩ = P := ⟨_, rfl⟩
        simp only [hP] at kp
        rw [hP] at hz0
        have hz0h := Lib.hid hz0
        clear hz hc hP hz0
        obtain ⟨⟨⟨zk, zf, zt⟩, ⟨gn, ga, gt, gx, gy⟩, zr⟩, za, zc⟩ := z
        unfold pnV pnC Pm.hd wdV wdC textV at kp
        simp only at kp
        obtain ⟨X, hX⟩ : ∃ X, ib gx = X := ⟨_, rfl⟩
        obtain ⟨Y, hY⟩ : ∃ Y, ib gy = Y := ⟨_, rfl⟩
        obtain ⟨TL, hTL⟩ : ∃ n, gt.length = n := ⟨_, rfl⟩
        simp only [hX, hY, hTL] at kp
        obtain ⟨bz, hbz⟩ : ∃ bz, (P == 0) = bz := ⟨_, rfl⟩
        go_upto_region 8 with (fail)
        refine wp_calm (fun w' => St (fun _ => False) w w' [Blk xb #[.string ⟨xk.toArray⟩, .int .i64 xf, .int .i64 xt] 61]) (by kernel_rfl) (by kernel_rfl) (HM.drew) ?_
        iterate 16 first
          | (apply calm_pass
             · rfl
             intro K hK
             go_simp
             refine hK _ ?_
             clear hK K)
          | (apply calm_step
             · rfl
             · intro w1 h1
               have d0 := h1.cell 0 0 rfl rfl
               have d1 := h1.cell 0 1 rfl rfl
               have d2 := h1.cell 0 2 rfl rfl
               obtain ⟨p0, p1, p2, p3, p4, p5, p6, p7⟩ := pn_cells g1 (h1.kept.block b hb id)
               unfold textV at p0
               unfold Pm.hd at p5
               simp only [hX, hY, hTL] at p0 p1 p2 p3 p4 p5 p6 p7
               first
                 | (go_simp
                    first
                      | rfl
                      | exact ⟨rfl, h1⟩
                      | (go_at_call 253; with_reducible exact St.callPast (kp w1) h1)
                   )
             intro K hK
             go_simp
             refine hK _ ?_
             clear hK K)
        refine calm_nil ?_
        intro w2 H2
        go_wp2
        go_ret2
        refine ⟨⟨bz, rfl, ?_⟩, H2.below (Nat.le_refl _) (fun _ h => h.elim)⟩
        rw [← hbz, hzh.out]
        constructor
        · intro h
          exact ⟨_, rfl, hz0h.out.1 (by simpa using h)⟩
        · rintro ⟨m, h, h2⟩
          obtain rfl := Option.some.inj h
          simpa using hz0h.out.2 h2
      · have z1 : decide ((i : Int) < (l.length : Int)) = false := by simp; omega
        have z2 : decide (i < l.length) = false := by simp; omega
        go_upto_region 8 with (fail)
        refine wp_calm (fun w' => St (fun _ => False) w w' [Blk xb #[.string ⟨xk.toArray⟩, .int .i64 xf, .int .i64 xt] 61]) (by kernel_rfl) (by kernel_rfl) (HM.drew) ?_
        iterate 16 first
          | (apply calm_pass
             · rfl
             intro K hK
             go_simp
             refine hK _ ?_
             clear hK K)
          | (apply calm_step
             · rfl
             · intro w1 h1
               first
                 | (go_simp
                    first
                      | rfl
                      | exact ⟨rfl, h1⟩
                   )
             intro K hK
             go_simp
             refine hK _ ?_
             clear hK K)
        refine calm_nil ?_
        intro w2 H2
        go_wp2
        go_ret2
        refine ⟨⟨false, rfl, ?_⟩, H2.below (Nat.le_refl _) (fun _ h => h.elim)⟩
        rw [List.getElem?_eq_none (by omega)]
        simp
end Go.Proofs.YtiglgfonhdfpmaaGreat

/- slices.SortFunc as the kit's shelf lays it at this program (written by the kit's lay-plain.mjs; sortp.sh; seat YtiglgfonhdfpmaaGreat). -/
set_option linter.unusedVariables false
set_option linter.unusedSimpArgs false
namespace Go.Proofs.YtiglgfonhdfpmaaGreat
open Go.Shelf
def sh_sortI_ren : Go.Shelf.Ren := ⟨fun | 6 => 287 | 15 => 192 | 14 => 307 | 28 => 244 | 29 => 245 | 20 => 318 | 21 => 319 | 22 => 320 | 23 => 321 | 24 => 322 | 25 => 323 | 26 => 324 | 27 => 325 | 46 => 326 | 47 => 277 | 48 => 278 | 49 => 327 | 50 => 328 | 57 => 329 | n => n, fun | 22 => 33 | 24 => 3 | 25 => 148 | 3 => 3 | 39 => 236 | 0 => 0 | 53 => 301 | 55 => 235 | 4 => 4 | 46 => 295 | 45 => 294 | 50 => 161 | 5 => 5 | 9 => 9 | 66 => 327 | 70 => 245 | 76 => 348 | 77 => 93 | n => n, fun | n => n⟩
theorem sh_sortI : Go.Proofs.SlLaysF.n6 Tryz.prog sh_sortI_ren := {
  mixed := by kernel_rfl
  f6 := ⟨Tryz.f287.name, by decide, Tryz.func287.trans (congrArg some (by kernel_rfl))⟩
  f14 := ⟨Tryz.f307.name, by decide, Tryz.func307.trans (congrArg some (by kernel_rfl))⟩
  f15 := Tryz.func192.trans (congrArg some (by kernel_rfl))
  f20 := ⟨Tryz.f318.name, by decide, Tryz.func318.trans (congrArg some (by kernel_rfl))⟩
  f21 := ⟨Tryz.f319.name, by decide, Tryz.func319.trans (congrArg some (by kernel_rfl))⟩
  f22 := ⟨Tryz.f320.name, by decide, Tryz.func320.trans (congrArg some (by kernel_rfl))⟩
  f23 := ⟨Tryz.f321.name, by decide, Tryz.func321.trans (congrArg some (by kernel_rfl))⟩
  f24 := ⟨Tryz.f322.name, by decide, Tryz.func322.trans (congrArg some (by kernel_rfl))⟩
  f25 := ⟨Tryz.f323.name, by decide, Tryz.func323.trans (congrArg some (by kernel_rfl))⟩
  f26 := ⟨Tryz.f324.name, by decide, Tryz.func324.trans (congrArg some (by kernel_rfl))⟩
  f27 := ⟨Tryz.f325.name, by decide, Tryz.func325.trans (congrArg some (by kernel_rfl))⟩
  f28 := Tryz.func244.trans (congrArg some (by kernel_rfl))
  f29 := Tryz.func245.trans (congrArg some (by kernel_rfl))
  f46 := ⟨Tryz.f326.name, by decide, Tryz.func326.trans (congrArg some (by kernel_rfl))⟩
  f47 := Tryz.func277.trans (congrArg some (by kernel_rfl))
  f48 := Tryz.func278.trans (congrArg some (by kernel_rfl))
  f49 := ⟨Tryz.f327.name, by decide, Tryz.func327.trans (congrArg some (by kernel_rfl))⟩
  f50 := ⟨Tryz.f328.name, by decide, Tryz.func328.trans (congrArg some (by kernel_rfl))⟩
  f57 := ⟨Tryz.f329.name, by decide, Tryz.func329.trans (congrArg some (by kernel_rfl))⟩
  t0 := Tryz.underlying0
  a0 := Tryz.isAgg0
  z0 := Tryz.sizeOf0
  v0 := Tryz.zeroValue0
  t3 := Tryz.underlying3
  a3 := Tryz.isAgg3
  z3 := Tryz.sizeOf3
  v3 := Tryz.zeroValue3
  t4 := Tryz.underlying4
  a4 := Tryz.isAgg4
  z4 := Tryz.sizeOf4
  v4 := Tryz.zeroValue4
  t5 := Tryz.underlying5
  a5 := Tryz.isAgg5
  z5 := Tryz.sizeOf5
  v5 := Tryz.zeroValue5
  t9 := Tryz.underlying9
  a9 := Tryz.isAgg9
  z9 := Tryz.sizeOf9
  v9 := Tryz.zeroValue9
  t22 := Tryz.underlying33
  a22 := Tryz.isAgg33
  z22 := Tryz.sizeOf33
  v22 := Tryz.zeroValue33
  a24 := Tryz.isAgg3
  z24 := Tryz.sizeOf3
  t25 := Tryz.underlying148
  a25 := Tryz.isAgg148
  z25 := Tryz.sizeOf148
  v25 := Tryz.zeroValue148
  t39 := Tryz.underlying236
  a39 := Tryz.isAgg236
  z39 := Tryz.sizeOf236
  v39 := Tryz.zeroValue236
  t45 := Tryz.underlying294
  a45 := Tryz.isAgg294
  z45 := Tryz.sizeOf294
  v45 := Tryz.zeroValue294
  t46 := Tryz.underlying295
  a46 := Tryz.isAgg295
  z46 := Tryz.sizeOf295
  v46 := Tryz.zeroValue295
  t50 := Tryz.underlying161
  a50 := Tryz.isAgg161
  z50 := Tryz.sizeOf161
  v50 := Tryz.zeroValue161
  t53 := Tryz.underlying301
  a53 := Tryz.isAgg301
  z53 := Tryz.sizeOf301
  v53 := Tryz.zeroValue301
  t55 := Tryz.underlying235
  a55 := Tryz.isAgg235
  z55 := Tryz.sizeOf235
  v55 := Tryz.zeroValue235
  t66 := Tryz.underlying327
  a66 := Tryz.isAgg327
  z66 := Tryz.sizeOf327
  v66 := Tryz.zeroValue327
  t70 := Tryz.underlying245
  a70 := Tryz.isAgg245
  z70 := Tryz.sizeOf245
  v70 := Tryz.zeroValue245
  t76 := Tryz.underlying348
  a76 := Tryz.isAgg348
  z76 := Tryz.sizeOf348
  v76 := Tryz.zeroValue348
  t77 := Tryz.underlying93
  a77 := Tryz.isAgg93
  z77 := Tryz.sizeOf93
  v77 := Tryz.zeroValue93 }
def sh_sortP_ren : Go.Shelf.Ren := ⟨fun | 6 => 130 | 15 => 192 | 14 => 191 | 28 => 244 | 29 => 245 | 20 => 236 | 21 => 237 | 22 => 238 | 23 => 239 | 24 => 240 | 25 => 241 | 26 => 242 | 27 => 243 | 46 => 276 | 47 => 277 | 48 => 278 | 49 => 279 | 50 => 280 | 57 => 303 | n => n, fun | 22 => 197 | 24 => 198 | 25 => 201 | 3 => 3 | 39 => 236 | 0 => 0 | 53 => 301 | 55 => 235 | 4 => 4 | 46 => 295 | 45 => 294 | 50 => 161 | 5 => 5 | 9 => 9 | 66 => 327 | 70 => 245 | 76 => 348 | 77 => 93 | n => n, fun | n => n⟩
theorem sh_sortP : Go.Proofs.SlLaysF.n6 Tryz.prog sh_sortP_ren := {
  mixed := by kernel_rfl
  f6 := ⟨Tryz.f130.name, by decide, Tryz.func130.trans (congrArg some (by kernel_rfl))⟩
  f14 := ⟨Tryz.f191.name, by decide, Tryz.func191.trans (congrArg some (by kernel_rfl))⟩
  f15 := Tryz.func192.trans (congrArg some (by kernel_rfl))
  f20 := ⟨Tryz.f236.name, by decide, Tryz.func236.trans (congrArg some (by kernel_rfl))⟩
  f21 := ⟨Tryz.f237.name, by decide, Tryz.func237.trans (congrArg some (by kernel_rfl))⟩
  f22 := ⟨Tryz.f238.name, by decide, Tryz.func238.trans (congrArg some (by kernel_rfl))⟩
  f23 := ⟨Tryz.f239.name, by decide, Tryz.func239.trans (congrArg some (by kernel_rfl))⟩
  f24 := ⟨Tryz.f240.name, by decide, Tryz.func240.trans (congrArg some (by kernel_rfl))⟩
  f25 := ⟨Tryz.f241.name, by decide, Tryz.func241.trans (congrArg some (by kernel_rfl))⟩
  f26 := ⟨Tryz.f242.name, by decide, Tryz.func242.trans (congrArg some (by kernel_rfl))⟩
  f27 := ⟨Tryz.f243.name, by decide, Tryz.func243.trans (congrArg some (by kernel_rfl))⟩
  f28 := Tryz.func244.trans (congrArg some (by kernel_rfl))
  f29 := Tryz.func245.trans (congrArg some (by kernel_rfl))
  f46 := ⟨Tryz.f276.name, by decide, Tryz.func276.trans (congrArg some (by kernel_rfl))⟩
  f47 := Tryz.func277.trans (congrArg some (by kernel_rfl))
  f48 := Tryz.func278.trans (congrArg some (by kernel_rfl))
  f49 := ⟨Tryz.f279.name, by decide, Tryz.func279.trans (congrArg some (by kernel_rfl))⟩
  f50 := ⟨Tryz.f280.name, by decide, Tryz.func280.trans (congrArg some (by kernel_rfl))⟩
  f57 := ⟨Tryz.f303.name, by decide, Tryz.func303.trans (congrArg some (by kernel_rfl))⟩
  t0 := Tryz.underlying0
  a0 := Tryz.isAgg0
  z0 := Tryz.sizeOf0
  v0 := Tryz.zeroValue0
  t3 := Tryz.underlying3
  a3 := Tryz.isAgg3
  z3 := Tryz.sizeOf3
  v3 := Tryz.zeroValue3
  t4 := Tryz.underlying4
  a4 := Tryz.isAgg4
  z4 := Tryz.sizeOf4
  v4 := Tryz.zeroValue4
  t5 := Tryz.underlying5
  a5 := Tryz.isAgg5
  z5 := Tryz.sizeOf5
  v5 := Tryz.zeroValue5
  t9 := Tryz.underlying9
  a9 := Tryz.isAgg9
  z9 := Tryz.sizeOf9
  v9 := Tryz.zeroValue9
  t22 := Tryz.underlying197
  a22 := Tryz.isAgg197
  z22 := Tryz.sizeOf197
  v22 := Tryz.zeroValue197
  a24 := Tryz.isAgg198
  z24 := Tryz.sizeOf198
  t25 := Tryz.underlying201
  a25 := Tryz.isAgg201
  z25 := Tryz.sizeOf201
  v25 := Tryz.zeroValue201
  t39 := Tryz.underlying236
  a39 := Tryz.isAgg236
  z39 := Tryz.sizeOf236
  v39 := Tryz.zeroValue236
  t45 := Tryz.underlying294
  a45 := Tryz.isAgg294
  z45 := Tryz.sizeOf294
  v45 := Tryz.zeroValue294
  t46 := Tryz.underlying295
  a46 := Tryz.isAgg295
  z46 := Tryz.sizeOf295
  v46 := Tryz.zeroValue295
  t50 := Tryz.underlying161
  a50 := Tryz.isAgg161
  z50 := Tryz.sizeOf161
  v50 := Tryz.zeroValue161
  t53 := Tryz.underlying301
  a53 := Tryz.isAgg301
  z53 := Tryz.sizeOf301
  v53 := Tryz.zeroValue301
  t55 := Tryz.underlying235
  a55 := Tryz.isAgg235
  z55 := Tryz.sizeOf235
  v55 := Tryz.zeroValue235
  t66 := Tryz.underlying327
  a66 := Tryz.isAgg327
  z66 := Tryz.sizeOf327
  v66 := Tryz.zeroValue327
  t70 := Tryz.underlying245
  a70 := Tryz.isAgg245
  z70 := Tryz.sizeOf245
  v70 := Tryz.zeroValue245
  t76 := Tryz.underlying348
  a76 := Tryz.isAgg348
  z76 := Tryz.sizeOf348
  v76 := Tryz.zeroValue348
  t77 := Tryz.underlying93
  a77 := Tryz.isAgg93
  z77 := Tryz.sizeOf93
  v77 := Tryz.zeroValue93 }
end Go.Proofs.YtiglgfonhdfpmaaGreat

/- What the shelf's sort leaves of an own row. Laws over any program. -/
set_option linter.unusedVariables false
set_option linter.unusedSimpArgs false
namespace Go.Proofs.YtiglgfonhdfpmaaGreat
open Go.RowKit Go.Sort

theorem putCells_list {α : Type} [Inhabited α] (enc : α → Value) (d : Array α) (cs : List Value) (hs : d.size ≤ cs.length) : putCells enc 0 d cs.toArray = ((d.toList.map enc) ++ cs.drop d.size).toArray := by
  apply Array.ext_getElem?
  intro k
  unfold putCells
  simp only [Array.getElem?_mapIdx, List.getElem?_toArray, Nat.zero_le, true_and, Nat.zero_add, Nat.sub_zero]
  by_cases hk : k < d.size
  · rw [List.getElem?_append_left (by simpa using hk), List.getElem?_map, List.getElem?_eq_getElem (l := d.toList) (by simpa using hk), List.getElem?_eq_getElem (l := cs) (by omega)]
    simp only [Option.map_some, hk, if_true]
    rw [getElem!_pos d k hk, Array.getElem_toList]
  · rw [List.getElem?_append_right (by simp; omega), List.length_map, Array.length_toList, List.getElem?_drop, show d.size + (k - d.size) = k by omega]
    cases cs[k]? with
    | none => rfl
    | some x => simp [hk]
theorem sort_world {α : Type} [Inhabited α] (enc : α → Value) {w : World} {g : Nat} {cs : List Value} {t : TypeId} (h : w.heap[g]? = some (.cells cs.toArray t (0, 0))) (m : Nat) (d : Array α) (os : Array Obj) (hs : d.size ≤ cs.length) :
    (sortWorld enc w g 0 m d os).heap[g]? = some (.cells ((d.toList.map enc) ++ cs.drop d.size).toArray t (0, 0)) ∧ Kept (· = g) w (sortWorld enc w g 0 m d os) := by
  have hlt := blk_lt h
  have hp : (sortWorld enc w g 0 m d os).heap = w.heap.modify g (onCells (putCells enc 0 d)) ++ os := rfl
  refine ⟨?_, ⟨rfl, rfl, rfl, ?_, fun k hk hne => ?_⟩⟩
  · rw [hp, Array.getElem?_append_left (by simpa using hlt), Array.getElem?_modify, if_pos rfl, h, Option.map_some]
    show some (Obj.cells (putCells enc 0 d cs.toArray) t (0, 0)) = _
    rw [putCells_list enc d cs hs]
  · rw [hp]; simp
  · rw [hp, Array.getElem?_append_left (by simpa using hk), Array.getElem?_modify, if_neg (by omega)]
theorem St.sorted {α : Type} [Inhabited α] {S : Nat → Prop} {w0 w : World} {l : List SP} (enc : α → Value) (h : St S w0 w l) (i : Nat) {e : TypeId} {g n cap : Nat} {d d' : Array α} (hi : l[i]? = some (Row e 1 (.slice (some ⟨g, 0, none⟩) n cap) n (d.toList.map enc))) (hn : n ≠ 0) (hd : d'.size = n) (m : Nat) (os : Array Obj) :
    St S w0 (sortWorld enc w g 0 m d' os) (l.set i (Row e 1 (.slice (some ⟨g, 0, none⟩) n cap) n (d'.toList.map enc))) := by
  obtain ⟨g', cap', R, hv, hnc, hcm, hxl, hcs, HB⟩ := h.row_blk i hi hn
  simp only [Value.slice.injEq, Option.some.injEq, Addr.mk.injEq, and_true, true_and] at hv
  obtain ⟨rfl, rfl⟩ := hv
  have hl : i < l.length := by
    rcases Nat.lt_or_ge i l.length with h | h
    · exact h
    · rw [List.getElem?_eq_none h] at hi; cases hi
  have hi2 : (l.set i (Blk g (d.toList.map enc ++ R).toArray e))[i]? = some (Blk g (d.toList.map enc ++ R).toArray e) := List.getElem?_set_self hl
  obtain ⟨S1, h1, h2⟩ := HB.turn i hi2
  have hds : d'.size ≤ (d.toList.map enc ++ R).length := by rw [hd, List.length_append]; omega
  obtain ⟨k1, k2⟩ := sort_world enc h1.1 m d' os hds
  have H2 := h2 (w' := sortWorld enc w g 0 m d' os) (A' := Blk g ((d'.toList.map enc) ++ (d.toList.map enc ++ R).drop d'.size).toArray e) (S1' := S1) (k2.mono (fun k _ e => (h1.2 k).2 e)) ⟨k1, h1.2⟩ (fun _ a => .inl a)
  rw [List.set_set] at H2
  have hln : ((d'.toList.map enc) ++ (d.toList.map enc ++ R).drop d'.size).length = cap * 1 := by
    rw [List.length_append, List.length_drop, List.length_map, Array.length_toList]
    omega
  have H3 := H2.blk_row i (e := e) (size := 1) (cap := cap) (n := n) (cs := (d'.toList.map enc) ++ (d.toList.map enc ++ R).drop d'.size) (xs := d'.toList.map enc) (List.getElem?_set_self hl) hnc hcm hln (by rw [List.take_append_of_le_length (by simp; omega), List.take_of_length_le (by simp; omega)])
  rwa [List.set_set] at H3

end Go.Proofs.YtiglgfonhdfpmaaGreat

/- slices.SortFunc at ints, falling: agg.Merge$1. -/
set_option linter.unusedVariables false
set_option linter.unusedSimpArgs false
namespace Go.Proofs.YtiglgfonhdfpmaaGreat
open Go.RowKit Go.Sort

set_option maxRecDepth 100000 in
theorem merge_cmp (x y : Int) (w : World) : Calls Tryz.prog 288 #[.int .i64 x, .int .i64 y] w fun e w' => e = .returned (.int .i64 (Lib.compareInt y x)) ∧ w' = w := by
  have kc := fun w' => cmp_Compare_int y x w'
  go_enter Tryz.func288, Tryz.ntmps288
  go_wp2_with (go_at_call 145; go_must (refine (kc _).mono ?_; rintro e w2 ⟨rfl, rfl⟩))
  go_ret
  exact ⟨rfl, rfl⟩
def fallC (x y : Int) : Int := Lib.compareInt y x
theorem lt_fallC (x y : Int) : ltOf fallC x y = decide (y < x) := by
  unfold ltOf fallC Lib.compareInt
  split
  · simp; omega
  · split
    · simp; omega
    · simp; omega
theorem swo_fallC : SWO (ltOf fallC) := by
  refine ⟨fun x => ?_, fun x y z h1 h2 => ?_, fun x y z h1 h2 => ?_⟩
  · rw [lt_fallC]; simp
  · rw [lt_fallC, decide_eq_true_eq] at *; omega
  · rw [lt_fallC, decide_eq_false_iff_not] at *; omega
def encI (x : Int) : Value := .int .i64 x
theorem fall_of_sorted {d : Array Int} (h : SortedIn (ltOf fallC) 0 d.size d) : Fall d.toList := by
  unfold Fall
  rw [List.pairwise_iff_getElem]
  intro i j hi hj hij
  have h1 := h i j (Nat.zero_le _) hij (by simpa using hj)
  rw [lt_fallC, decide_eq_false_iff_not, getElem!_pos d i (by simpa using hi), getElem!_pos d j (by simpa using hj)] at h1
  simp only [Array.getElem_toList]
  omega
theorem ints_sort {S : Nat → Prop} {w0 w : World} {L : List SP} (H : St S w0 w L) (i : Nat) {g n cap : Nat} {l : List Int} (hi : L[i]? = some (Row 3 1 (.slice (some ⟨g, 0, none⟩) n cap) n (intCells l))) (hn : n ≠ 0) (hl : n ≤ 1073741824) :
    Calls Tryz.prog 287 #[.slice (some ⟨g, 0, none⟩) n cap, .func (.func 288) #[] #[]] w fun e w' => e = .returned (.tuple #[]) ∧ St S w0 w' (L.set i (Row 3 1 (.slice (some ⟨g, 0, none⟩) n cap) n (intCells (sortD l)))) := by
  obtain ⟨d, rfl⟩ : ∃ d : Array Int, l = d.toList := ⟨l.toArray, by simp⟩
  have hln : d.size = n := by
    obtain ⟨_, _, _, hv, _, _, hx, _⟩ := H.row_blk i hi hn
    simp [intCells] at hx
    omega
  subst hln
  have hli : i < L.length := by
    rcases Nat.lt_or_ge i L.length with h | h
    · exact h
    · rw [List.getElem?_eq_none h] at hi; cases hi
  obtain ⟨g', cap', R, hv, hnc, hcm, hxl, hcs, HB⟩ := H.row_blk i hi hn
  simp only [Value.slice.injEq, Option.some.injEq, Addr.mk.injEq, and_true, true_and] at hv
  obtain ⟨rfl, rfl⟩ := hv
  have hblk := HB.blk i (List.getElem?_set_self hli)
  refine (Any.slices_SortFunc sh_sortI encI (fun _ => rfl) fallC swo_fallC 288 #[] g 0 cap d w (enters_of Tryz.func288 (by kernel_rfl) rfl) (CmpReads.lays fun m os dk hdk x y => (merge_cmp x y _).mono fun e w' ⟨h1, h2⟩ => ⟨h1, 0, h2⟩) (fun j hj => ⟨?_, ?_⟩) (blk_lt hblk) (by omega)).mono ?_
  · rw [Nat.zero_add, getElem!_pos d j hj]
    refine cell_blk' hblk ?_
    simp [intCells, encI, List.getElem?_append, hj]
  · exact free_blk hblk _
  · rintro e w' ⟨rfl, d', m, os, ⟨h1, -, h3⟩, h4, rfl⟩
    refine ⟨rfl, ?_⟩
    rw [← h1] at h4
    have hp : d'.toList.Perm d.toList := by
      rw [← h1, Array.extract_size] at h3
      rw [h1, Array.extract_size] at h3
      exact h3
    rw [sortD_is (fall_of_sorted h4) hp]
    exact H.sorted encI i hi hn h1 m os

end Go.Proofs.YtiglgfonhdfpmaaGreat

/- The walk of the aggregates' Merge. Condition: what is known is right. -/
set_option linter.unusedVariables false
set_option linter.unusedSimpArgs false
namespace Go.Proofs.YtiglgfonhdfpmaaGreat
open Go.RowKit

theorem results_agt {P : Program} {fn : Func} {t c : Tmp} {ty : TypeId} (h : fn.results = #[.cell t ty, .tmp c]) {tmps : Array Value} {w : World} {b : Nat} {cs : List Value} {d : TypeDesc} (ht : tmps.getD t undef = .pointer (some ⟨b, 0, none⟩)) (hr : w.rangeAt b 0 cs)
    (hu : P.underlying ty = some d) (hd : d.isRow = true) (hi : (P.info? ty).map (·.size) = some cs.length) : (results fn tmps).run P w = .ok (.tuple #[.agg cs.toArray, tmps.getD c undef]) w := by
  have h2 := run_loadVar_mid (P := P) w b 0 ty cs d hr hu hd hi
  have h3 : tmps[t]?.getD undef = .pointer (some ⟨b, 0, none⟩) := by simpa using ht
  simp [results, h, h3, asAddr, h2]
/-- Two joined, and the code. -/
def mergeC (q : Qry) (a b : Ag) : Ag × Int := match mergeM q a b with
  | some g => (g, 0)
  | none => (Ag.zero, 20)
set_option maxHeartbeats 4000000 in
set_option maxRecDepth 100000 in
theorem agg_merge (q : Qry) (g1 g2 : Ag) {hv hu : Value} (w : World) (hr1 : IntsRO w hv g1.top) (hr2 : IntsRO w hu g2.top) (hg1 : g1.right q = true) (hg2 : g2.right q = true) :
    Calls Tryz.prog 249 #[qyV q, agV g1 hv, agV g2 hu] w fun e w' => ∃ h, e = .returned (.tuple #[agV (mergeC q g1 g2).1 h, .int .i64 (mergeC q g1 g2).2]) ∧ St (fun _ => False) w w' [Row 3 1 h (mergeC q g1 g2).1.top.length (intCells (mergeC q g1 g2).1.top)] := by
  obtain ⟨⟨a1, a7⟩, ⟨n0, nm⟩, ha, htl, px, py, hx, hy⟩ := right_nums hg1
  obtain ⟨-, ⟨m0, mm⟩, ha', htl', px', py', hx', hy'⟩ := right_nums hg2
  have kr1 := fun w' (h : IntsRO w' hv g1.top) => agg_right q g1 w' h (by omega) (by omega) (by omega)
  have kr2 := fun w' (h : IntsRO w' hu g2.top) => agg_right q g2 w' h (by omega) (by omega) (by omega)
  rw [hg1] at kr1
  rw [hg2] at kr2
  have kc1 := fun w' (h : IntsRO w' hv g1.top) => agg_copied g1 w' h (by omega)
  have kc2 := fun w' (h : IntsRO w' hu g2.top) => agg_copied g2 w' h (by omega)
  have kv := fun w' => gauss_add (x := g1.x) (y := g1.y) (u := g2.x) (v := g2.y) (by omega) (by omega) (by omega) (by omega) w'
  have kj := fun w' => agg_joined q (a := g1.a) (b := g2.a) ha ha' w'
  have hr10 := hr1
  have hr20 := hr2
  obtain ⟨ad1, cp1, rfl, -⟩ := hr1
  obtain ⟨ad2, cp2, rfl, -⟩ := hr2
  obtain ⟨M, hM⟩ : ∃ M, mergeC q g1 g2 = M := ⟨_, rfl⟩
  have hf0 : g1.n = 0 → M = (g2, 0) := fun h => by rw [← hM]; unfold mergeC mergeM; rw [if_pos h]
  have hf1 : g1.n ≠ 0 → g2.n = 0 → M = (g1, 0) := fun h h2 => by rw [← hM]; unfold mergeC mergeM; rw [if_neg h, if_pos h2]
  have hf2 : g1.n ≠ 0 → g2.n ≠ 0 → M = if (sumM q g1 g2).right q = true then (sumM q g1 g2, 0) else (Ag.zero, 20) := fun h h2 => by
    rw [← hM]; unfold mergeC mergeM; rw [if_neg h, if_neg h2]
    split <;> rename_i h3 <;> split at h3 <;> simp_all
  rw [hM]
  clear hM
  have hsix : q.agg = 6 → g1.n ≠ 0 → 0 < g1.top.length ∧ 1 ≤ q.k ∧ q.k ≤ 8 := fun h6 hn => by
    obtain ⟨e1, e2, e3, e4, e5, -⟩ := Ag.right_iff.1 hg1
    have hk : q.kB = true := by
      unfold Qry.right at e1
      simp only [Bool.and_eq_true] at e1
      exact e1.2
    unfold Qry.kB at hk
    rw [if_pos h6] at hk
    simp only [Bool.and_eq_true, decide_eq_true_eq] at hk
    rcases topB_iff.1 e5 with ⟨-, hl, -⟩ | ⟨h, -⟩
    · exact ⟨by omega, hk⟩
    · exact absurd h6 h
  have hsix := Lib.hid hsix
  have hf0 := Lib.hid hf0
  have hf1 := Lib.hid hf1
  have hf2 := Lib.hid hf2
  obtain ⟨kd, sz, sl, lt, ag, kk⟩ := q
  obtain ⟨n, a, tp, x, y⟩ := g1
  obtain ⟨m, c, tq, u, v⟩ := g2
  simp only at *
  unfold qyV agV qyC agC at *
  simp only at *
  obtain ⟨X, hX⟩ : ∃ X, ib x = X := ⟨_, rfl⟩
  obtain ⟨Y, hY⟩ : ∃ Y, ib y = Y := ⟨_, rfl⟩
  obtain ⟨U, hU⟩ : ∃ U, ib u = U := ⟨_, rfl⟩
  obtain ⟨W, hW⟩ : ∃ W, ib v = W := ⟨_, rfl⟩
  simp only [hX, hY, hU, hW] at kr1 kr2 kc1 kc2 kv ⊢
  have hX := Lib.hid hX
  have hY := Lib.hid hY
  have hU := Lib.hid hU
  have hW := Lib.hid hW
  obtain ⟨b, hb⟩ : ∃ g, w.heap.size = g := ⟨_, rfl⟩
  obtain ⟨b2, hb2⟩ : ∃ b2, b + 1 = b2 := ⟨_, rfl⟩
  obtain ⟨b3, hb3⟩ : ∃ b3, b2 + 1 = b3 := ⟨_, rfl⟩
  obtain ⟨b4, hb4⟩ : ∃ b4, b3 + 1 = b4 := ⟨_, rfl⟩
  have sz1 : ∀ (w : World) (o : Obj), (w.alloc o).heap.size = w.heap.size + 1 := fun w o => Array.size_push _
  have H0 : St (fun _ => False) w _ [_] := (St.nil _ w).allocAt hb #[.int .i64 kd, .int .i64 sz, .int .i64 sl, .int .i64 lt, .int .i64 ag, .int .i64 kk] 23
  have H1 := H0.allocAt (B := b2) (by rw [← hb2, ← hb]; exact Array.size_push _) #[.int .i64 n, .int .i64 a, .slice ad1 tp.length cp1, .complex .f64 X Y] 66
  have s2 : ((w.alloc (.cells #[.int .i64 kd, .int .i64 sz, .int .i64 sl, .int .i64 lt, .int .i64 ag, .int .i64 kk] 23)).alloc (.cells #[.int .i64 n, .int .i64 a, .slice ad1 tp.length cp1, .complex .f64 X Y] 66)).heap.size = b3 := by rw [sz1, sz1, hb, hb2, hb3]
  have H2 := H1.allocAt (B := b3) s2 #[.int .i64 m, .int .i64 c, .slice ad2 tq.length cp2, .complex .f64 U W] 66
  have s3 : (((w.alloc (.cells #[.int .i64 kd, .int .i64 sz, .int .i64 sl, .int .i64 lt, .int .i64 ag, .int .i64 kk] 23)).alloc (.cells #[.int .i64 n, .int .i64 a, .slice ad1 tp.length cp1, .complex .f64 X Y] 66)).alloc (.cells #[.int .i64 m, .int .i64 c, .slice ad2 tq.length cp2, .complex .f64 U W] 66)).heap.size = b4 := by rw [sz1, s2, hb4]
  have H := H2.allocAt (B := b4) s3 #[.int .i64 0, .int .i64 0, .slice none 0 0, .complex .f64 0 0] 66
  obtain ⟨w1, hw1⟩ : ∃ w1, (((w.alloc (.cells #[.int .i64 kd, .int .i64 sz, .int .i64 sl, .int .i64 lt, .int .i64 ag, .int .i64 kk] 23)).alloc (.cells #[.int .i64 n, .int .i64 a, .slice ad1 tp.length cp1, .complex .f64 X Y] 66)).alloc (.cells #[.int .i64 m, .int .i64 c, .slice ad2 tq.length cp2, .complex .f64 U W] 66)).alloc (.cells #[.int .i64 0, .int .i64 0, .slice none 0 0, .complex .f64 0 0] 66) = w1 := ⟨_, rfl⟩
  rw [hw1] at H
  go_enter Tryz.func249, Tryz.ntmps249
  go_upto_region 1 with (fail)
  try simp only [hb, hb2, hb3, hb4]
  try rw [hw1]
  clear hw1 hb hb2 hb3 hb4 H0 H1 H2 s2 s3 sz1
  have c0 := H.cell 3 0 rfl rfl
  have c1 := H.cell 3 1 rfl rfl
  have c2 := H.cell 3 2 rfl rfl
  have c3 := H.cell 3 3 rfl rfl
  have c4 := H.cell 3 4 rfl rfl
  have c5 := H.cell 3 5 rfl rfl
  have d0 := H.cell 2 0 rfl rfl
  have d1 := H.cell 2 1 rfl rfl
  have d2 := H.cell 2 2 rfl rfl
  have d3 := H.cell 2 3 rfl rfl
  have i0 := H.cell 1 0 rfl rfl
  have i1 := H.cell 1 1 rfl rfl
  have i2 := H.cell 1 2 rfl rfl
  have i3 := H.cell 1 3 rfl rfl
  go_upto_region 3 with (go_at_call 80; go_must (first
    | (with_reducible refine (St.callPast (kr1 _ (hr10.later H.kept)) H).mono ?_; clear c0 c1 c2 c3 c4 c5 d0 d1 d2 d3 i0 i1 i2 i3 H; rintro e w2 ⟨rfl, H⟩; have c0 := H.cell 3 0 rfl rfl; have c1 := H.cell 3 1 rfl rfl; have c2 := H.cell 3 2 rfl rfl; have c3 := H.cell 3 3 rfl rfl; have c4 := H.cell 3 4 rfl rfl; have c5 := H.cell 3 5 rfl rfl; have d0 := H.cell 2 0 rfl rfl; have d1 := H.cell 2 1 rfl rfl; have d2 := H.cell 2 2 rfl rfl; have d3 := H.cell 2 3 rfl rfl; have i0 := H.cell 1 0 rfl rfl; have i1 := H.cell 1 1 rfl rfl; have i2 := H.cell 1 2 rfl rfl; have i3 := H.cell 1 3 rfl rfl)
    | (with_reducible refine (St.callPast (kr2 _ (hr20.later H.kept)) H).mono ?_; clear c0 c1 c2 c3 c4 c5 d0 d1 d2 d3 i0 i1 i2 i3 H; rintro e w2 ⟨rfl, H⟩; have c0 := H.cell 3 0 rfl rfl; have c1 := H.cell 3 1 rfl rfl; have c2 := H.cell 3 2 rfl rfl; have c3 := H.cell 3 3 rfl rfl; have c4 := H.cell 3 4 rfl rfl; have c5 := H.cell 3 5 rfl rfl; have d0 := H.cell 2 0 rfl rfl; have d1 := H.cell 2 1 rfl rfl; have d2 := H.cell 2 2 rfl rfl; have d3 := H.cell 2 3 rfl rfl; have i0 := H.cell 1 0 rfl rfl; have i1 := H.cell 1 1 rfl rfl; have i2 := H.cell 1 2 rfl rfl; have i3 := H.cell 1 3 rfl rfl)))
  clear kr2
  by_cases hn : n = 0
  · have y0 : (n == 0) = true := by simpa using hn
    have hf := Lib.hid (hf0.out hn)
    have kc := kc2 _ (hr20.later H.kept)
    clear hf0 hf1 hf2 hn kc1 kc2 kr1
    go_upto_region 4 with (fail)
    go_wp2_with (go_at_call 283; go_must (refine kc.mono ?_; rintro e w3 ⟨h3, rfl, G1⟩; clear c0 c1 c2 c3 c4 c5 d0 d1 d2 d3 i0 i1 i2 i3; have H3 := H.call0 G1; obtain ⟨a3, c3, rfl, -, -⟩ := slice_form' (H3.row 0 rfl); have r0 := H3.free 1 0 rfl; have r1 := H3.free 1 1 rfl; have r2 := H3.free 1 2 rfl; have r3 := H3.free 1 3 rfl; have x0 := H3.cell 1 0 rfl rfl; have x1 := H3.cell 1 1 rfl rfl; have x2 := H3.cell 1 2 rfl rfl; have x3 := H3.cell 1 3 rfl rfl; have HR := (((H3.set 1 rfl 0 (.int .i64 m)).set 1 rfl 1 (.int .i64 c)).set 1 rfl 2 (.slice a3 tq.length c3)).set 1 rfl 3 (.complex .f64 U W)))
    try simp only [Exit.inBlock, Exit.then]
    refine bodyPost_ret (results_agt rfl rfl (blk_ag (cs := [.int .i64 m, .int .i64 c, .slice a3 tq.length c3, .complex .f64 U W]) (HR.blk 1 rfl)) Tryz.underlying66 rfl (by kernel_rfl)) rfl ?_
    rw [hf.out]
    refine ⟨.slice a3 tq.length c3, ?_, HR.pick [0]⟩
    simp only [hU.out, hW.out]
    rfl
  have y0 : (n == 0) = false := by simpa using hn
  go_upto_region 5 with (fail)
  by_cases hm : m = 0
  · have y1 : (m == 0) = true := by simpa using hm
    have hf := Lib.hid (hf1.out hn hm)
    have kc := kc1 _ (hr10.later H.kept)
    clear hf0 hf1 hf2 hn hm kc1 kc2 kr1
    go_upto_region 6 with (fail)
    go_wp2_with (go_at_call 283; go_must (refine kc.mono ?_; rintro e w3 ⟨h3, rfl, G1⟩; clear c0 c1 c2 c3 c4 c5 d0 d1 d2 d3 i0 i1 i2 i3; have H3 := H.call0 G1; obtain ⟨a3, c3, rfl, -, -⟩ := slice_form' (H3.row 0 rfl); have r0 := H3.free 1 0 rfl; have r1 := H3.free 1 1 rfl; have r2 := H3.free 1 2 rfl; have r3 := H3.free 1 3 rfl; have x0 := H3.cell 1 0 rfl rfl; have x1 := H3.cell 1 1 rfl rfl; have x2 := H3.cell 1 2 rfl rfl; have x3 := H3.cell 1 3 rfl rfl; have HR := (((H3.set 1 rfl 0 (.int .i64 n)).set 1 rfl 1 (.int .i64 a)).set 1 rfl 2 (.slice a3 tp.length c3)).set 1 rfl 3 (.complex .f64 X Y)))
    try simp only [Exit.inBlock, Exit.then]
    refine bodyPost_ret (results_agt rfl rfl (blk_ag (cs := [.int .i64 n, .int .i64 a, .slice a3 tp.length c3, .complex .f64 X Y]) (HR.blk 1 rfl)) Tryz.underlying66 rfl (by kernel_rfl)) rfl ?_
    rw [hf.out]
    refine ⟨.slice a3 tp.length c3, ?_, HR.pick [0]⟩
    simp only [hX.out, hY.out]
    rfl
  have y1 : (m == 0) = false := by simpa using hm
  have hf := Lib.hid (hf2.out hn hm)
  have hsix := Lib.hid (fun h6 => hsix.out h6 hn)
  clear hf0 hf1 hf2 hn hm kc1 kc2
  clear kr1
  obtain ⟨J, hJ⟩ : ∃ J, joinedM ⟨kd, sz, sl, lt, ag, kk⟩ a c = J := ⟨_, rfl⟩
  simp only [hJ] at kj
  have hJ := Lib.hid hJ
  obtain ⟨⟨vx, vy, cd⟩, hr⟩ : ∃ r, addM x y u v = r := ⟨_, rfl⟩
  simp only [hr] at kv
  have hr := Lib.hid hr
  obtain ⟨VX, hVX⟩ : ∃ X, ib vx = X := ⟨_, rfl⟩
  obtain ⟨VY, hVY⟩ : ∃ X, ib vy = X := ⟨_, rfl⟩
  simp only [hVX, hVY] at kv
  have hVX := Lib.hid hVX
  have hVY := Lib.hid hVY
  go_upto_region 8 with (go_at_call 284; go_must (refine (kv _).mono ?_; rintro e w3 ⟨rfl, e3⟩; rw [e3]; clear e3))
  clear c0 c1 c2 c3 c4 c5 d0 d1 d2 d3 i0 i1 i2 i3 kv
  have hs : IntKind.i64.wrap (n + m) = n + m := by rw [IntKind.wrap_i64]; omega
  refine wp_script [(0, false), (1, false), (2, false), (3, false), (4, false), (5, false), (6, false), (7, false), (8, false), (9, false), (10, false), (11, false), (12, false), (13, true), (14, true)] (Fam fun w' => St (fun _ => False) w w' [Blk b4 #[.int .i64 0, .int .i64 0, .slice none 0 0, .complex .f64 0 0] 66, Blk b3 #[.int .i64 m, .int .i64 c, .slice ad2 tq.length cp2, .complex .f64 U W] 66, Blk b2 #[.int .i64 n, .int .i64 a, .slice ad1 tp.length cp1, .complex .f64 X Y] 66, Blk b #[.int .i64 kd, .int .i64 sz, .int .i64 sl, .int .i64 lt, .int .i64 ag, .int .i64 kk] 23]) (fun w' => St (fun _ => False) w w' [Blk b4 #[.int .i64 0, .int .i64 0, .slice none 0 0, .complex .f64 0 0] 66, Blk b3 #[.int .i64 m, .int .i64 c, .slice ad2 tq.length cp2, .complex .f64 U W] 66, Blk b2 #[.int .i64 n, .int .i64 a, .slice ad1 tp.length cp1, .complex .f64 X Y] 66, Blk b #[.int .i64 kd, .int .i64 sz, .int .i64 sl, .int .i64 lt, .int .i64 ag, .int .i64 kk] 23]) (by kernel_rfl) (by rfl) (by kernel_rfl) (by kernel_rfl) H.drew (Fam.st (fun _ h => h)) ?_
  iterate 13 first
    | (apply script_pass
       · rfl
       · rfl
       intro K hK
       go_simp
       refine hK _ ?_
       clear hK K)
    | (apply script_step
       · rfl
       · rfl
       · intro I hI w1 h1'
         have h1 := hI.2 _ h1'
         have c0 := h1.cell 3 0 rfl rfl
         have c1 := h1.cell 3 1 rfl rfl
         have c2 := h1.cell 3 2 rfl rfl
         have c3 := h1.cell 3 3 rfl rfl
         have c4 := h1.cell 3 4 rfl rfl
         have c5 := h1.cell 3 5 rfl rfl
         have d0 := h1.cell 2 0 rfl rfl
         have d1 := h1.cell 2 1 rfl rfl
         have i0 := h1.cell 1 0 rfl rfl
         have i1 := h1.cell 1 1 rfl rfl
         first
           | (go_simp
              first
                | rfl
                | exact ⟨rfl, h1'⟩
                | (go_at_call 285; with_reducible exact Fam.call hI h1' (kj w1))
             )
       intro K hK
       go_simp
       refine hK _ ?_
       clear hK K)
  refine script_alone rfl rfl ?_
  intro V hV w1 h1
  go_simp
  obtain ⟨b5, hgn⟩ : ∃ g, w1.heap.size = g := ⟨_, rfl⟩
  have H3 := h1.allocAt hgn #[.int .i64 0, .int .i64 0, .slice none 0 0, .complex .f64 0 0] 66
  simp only [hgn]
  refine ⟨fun w' => St (fun _ => False) w w' [Blk b5 #[.int .i64 0, .int .i64 0, .slice none 0 0, .complex .f64 0 0] 66, Blk b4 #[.int .i64 0, .int .i64 0, .slice none 0 0, .complex .f64 0 0] 66, Blk b3 #[.int .i64 m, .int .i64 c, .slice ad2 tq.length cp2, .complex .f64 U W] 66, Blk b2 #[.int .i64 n, .int .i64 a, .slice ad1 tp.length cp1, .complex .f64 X Y] 66, Blk b #[.int .i64 kd, .int .i64 sz, .int .i64 sl, .int .i64 lt, .int .i64 ag, .int .i64 kk] 23], hV _ _ _ (fun _ h => h) (Fam.st (fun _ h => h.pick [1, 2, 3, 4])) ?_, H3⟩
  intro K hK
  go_simp
  refine hK _ ?_
  clear hK K hV V
  clear H3 h1 hgn w1
  refine script_alone rfl rfl ?_
  intro V hV w1 h1
  have r0 := h1.free 0 0 rfl
  have r1 := h1.free 0 1 rfl
  have r2 := h1.free 0 2 rfl
  have r3 := h1.free 0 3 rfl
  have x0 := h1.cell 0 0 rfl rfl
  have x1 := h1.cell 0 1 rfl rfl
  have x2 := h1.cell 0 2 rfl rfl
  have x3 := h1.cell 0 3 rfl rfl
  have H4 := (((h1.set 0 rfl 0 (.int .i64 (n + m))).set 0 rfl 1 (.int .i64 J)).set 0 rfl 2 (.slice none 0 0)).set 0 rfl 3 (.complex .f64 VX VY)
  go_simp
  refine ⟨fun w' => St (fun _ => False) w w' [Blk b5 #[.int .i64 (n + m), .int .i64 J, .slice none 0 0, .complex .f64 VX VY] 66, Blk b4 #[.int .i64 0, .int .i64 0, .slice none 0 0, .complex .f64 0 0] 66, Blk b3 #[.int .i64 m, .int .i64 c, .slice ad2 tq.length cp2, .complex .f64 U W] 66, Blk b2 #[.int .i64 n, .int .i64 a, .slice ad1 tp.length cp1, .complex .f64 X Y] 66, Blk b #[.int .i64 kd, .int .i64 sz, .int .i64 sl, .int .i64 lt, .int .i64 ag, .int .i64 kk] 23], hV _ _ _ (fun _ h => h) (Fam.st (fun _ h => h.pick [1, 2, 3, 4])) ?_, H4⟩
  intro K hK
  go_simp
  refine hK _ ?_
  clear hK K hV V
  clear H4 h1 w1 r0 r1 r2 r3 x0 x1 x2 x3
  refine script_nil ?_
  intro w9 H9
  clear H kj hs
  have c4 := H9.cell 4 4 rfl rfl
  have c5 := H9.cell 4 5 rfl rfl
  go_upto_if 58 with (fail)
  go_cut [] from 58 to 79 (fun wx => ∃ T at1 ct, T = topM ⟨kd, sz, sl, lt, ag, kk⟩ tp tq ∧ IntsRO wx (.slice at1 T.length ct) T ∧ St (fun _ => False) w wx [Blk b5 #[.int .i64 (n + m), .int .i64 J, .slice at1 T.length ct, .complex .f64 VX VY] 66, Blk b4 #[.int .i64 0, .int .i64 0, .slice none 0 0, .complex .f64 0 0] 66, Blk b3 #[.int .i64 m, .int .i64 c, .slice ad2 tq.length cp2, .complex .f64 U W] 66, Blk b2 #[.int .i64 n, .int .i64 a, .slice ad1 tp.length cp1, .complex .f64 X Y] 66, Blk b #[.int .i64 kd, .int .i64 sz, .int .i64 sl, .int .i64 lt, .int .i64 ag, .int .i64 kk] 23, Row 3 1 (.slice at1 T.length ct) T.length (intCells T)])
  case first =>
    clear hf hr hVX hVY hX hY hU hW hJ
    by_cases h6 : ag = 6
    · have y6 : (ag == 6) = true := by simpa using h6
      obtain ⟨l1, k1, k8⟩ := hsix.out h6
      have hT := Lib.hid (show topM ⟨kd, sz, sl, lt, ag, kk⟩ tp tq = (sortD (tp ++ tq)).take kk.toNat by unfold topM; rw [if_pos h6])
      clear h6 hsix
      obtain ⟨L, hL⟩ : ∃ L, tp.length + tq.length = L := ⟨_, rfl⟩
      have hLl : (sortD (tp ++ tq)).length = L := by rw [sortD_len, List.length_append, hL]
      obtain ⟨t, ht⟩ : ∃ t : Nat, min L kk.toNat = t := ⟨_, rfl⟩
      have hmin : min (L : Int) kk = (t : Int) := by omega
      have hmin2 : (if (L : Int) < kk then (L : Int) else kk) = (t : Int) := by split <;> omega
      have hT2 := Lib.hid (show topM ⟨kd, sz, sl, lt, ag, kk⟩ tp tq = (sortD (tp ++ tq)).take t by
        rw [hT.out, ← ht, ← hLl]
        rw [Nat.min_comm]
        exact List.take_eq_take_min)
      clear hT
      have d2 := H9.cell 3 2 rfl rfl
      have i2 := H9.cell 2 2 rfl rfl
      obtain ⟨b6, hb6⟩ : ∃ g, w9.heap.size = g := ⟨_, rfl⟩
      have H10 := H9.allocAt hb6 #[.slice ad1 tp.length cp1, .slice ad2 tq.length cp2] 33
      have kcc := ints_concat (g := b6) _ (H10.blk_lt 0 rfl) (H10.cell 0 0 rfl rfl) (H10.cell 0 1 rfl rfl) (hr10.later H10.kept) (hr20.later H10.kept) (by omega)
      rw [hL] at kcc
      go_upto_region 11 with (go_at_call 286; go_must (refine kcc.mono ?_; rintro e w10 ⟨v10, rfl, G1⟩; clear d2 i2 c4 c5; have H11 := H10.call0 G1; obtain ⟨b7, c7, R7, rfl, hc7, -⟩ := H11.row_blk 0 rfl (by omega); have r2 := H11.free 2 2 rfl; have x2 := H11.cell 2 2 rfl rfl))
      have H12 := H11.set 2 rfl 2 (.slice (some ⟨b7, 0, none⟩) L c7)
      obtain ⟨w11, hw11⟩ : ∃ w11, w10.setCell ⟨b5, 2, none⟩ (.slice (some ⟨b7, 0, none⟩) L c7) = w11 := ⟨_, rfl⟩
      rw [hw11] at H12
      try rw [hw11]
      clear hw11 H11 H10 r2 x2 kcc hb6
      have H12 : St (fun _ => False) w w11 [Row 3 1 (.slice (some ⟨b7, 0, none⟩) L c7) L (intCells (tp ++ tq)), Blk b6 #[.slice ad1 tp.length cp1, .slice ad2 tq.length cp2] 33, Blk b5 #[.int .i64 (n + m), .int .i64 J, .slice (some ⟨b7, 0, none⟩) L c7, .complex .f64 VX VY] 66, Blk b4 #[.int .i64 0, .int .i64 0, .slice none 0 0, .complex .f64 0 0] 66, Blk b3 #[.int .i64 m, .int .i64 c, .slice ad2 tq.length cp2, .complex .f64 U W] 66, Blk b2 #[.int .i64 n, .int .i64 a, .slice ad1 tp.length cp1, .complex .f64 X Y] 66, Blk b #[.int .i64 kd, .int .i64 sz, .int .i64 sl, .int .i64 lt, .int .i64 ag, .int .i64 kk] 23] := H12
      have kso := ints_sort H12 0 rfl (by omega) (by omega)
      have x2 := H12.cell 2 2 rfl rfl
      go_upto_region 12 with (go_at_call 287; go_must (refine kso.mono ?_; rintro e w12 ⟨rfl, H13⟩; clear x2 kso))
      have H13 : St (fun _ => False) w w12 [Row 3 1 (.slice (some ⟨b7, 0, none⟩) L c7) L (intCells (sortD (tp ++ tq))), Blk b6 #[.slice ad1 tp.length cp1, .slice ad2 tq.length cp2] 33, Blk b5 #[.int .i64 (n + m), .int .i64 J, .slice (some ⟨b7, 0, none⟩) L c7, .complex .f64 VX VY] 66, Blk b4 #[.int .i64 0, .int .i64 0, .slice none 0 0, .complex .f64 0 0] 66, Blk b3 #[.int .i64 m, .int .i64 c, .slice ad2 tq.length cp2, .complex .f64 U W] 66, Blk b2 #[.int .i64 n, .int .i64 a, .slice ad1 tp.length cp1, .complex .f64 X Y] 66, Blk b #[.int .i64 kd, .int .i64 sz, .int .i64 sl, .int .i64 lt, .int .i64 ag, .int .i64 kk] 23] := H13
      clear H12
      have c5 := H13.cell 6 5 rfl rfl
      have x2 := H13.cell 2 2 rfl rfl
      have r2 := H13.free 2 2 rfl
      have tc : (t : Int) ≤ (c7 : Int) := by omega
      have tn : t ≤ c7 := by omega
      have H14 := (H13.set 2 rfl 2 (.slice (some ⟨b7, 0, none⟩) t c7)).row_cut 0 (k := t) rfl (by omega) (by omega)
      go_wp2
      go_meet
      obtain ⟨T, hTT⟩ : ∃ T, (sortD (tp ++ tq)).take t = T := ⟨_, rfl⟩
      have hTl : T.length = t := by rw [← hTT, List.length_take]; omega
      have hTc : (intCells (sortD (tp ++ tq))).take (t * 1) = intCells T := by rw [← hTT, Nat.mul_one]; unfold intCells; rw [List.map_take]
      have hTb : ∀ z ∈ T, -9223372036854775808 ≤ z ∧ z ≤ 9223372036854775807 := fun z hz => by
        rw [← hTT] at hz
        have h1 := (sortD_mem _ z).1 (List.mem_of_mem_take hz)
        obtain ⟨_, _, _, _, q1, _⟩ := hr10
        obtain ⟨_, _, _, _, q2, _⟩ := hr20
        rcases List.mem_append.1 h1 with h1 | h1
        · exact q1 z h1
        · exact q2 z h1
      rw [hTc] at H14
      have hT3 := hT2.out
      rw [hTT] at hT3
      clear hmin hmin2 ht tc tn hTT hTc
      subst hTl
      exact ⟨T, some ⟨b7, 0, none⟩, c7, hT3.symm, ints_own (H14.row 0 rfl) hTb, H14.pick [2, 3, 4, 5, 6, 0]⟩
    · have y6 : (ag == 6) = false := by simpa using h6
      have hT := Lib.hid (show topM ⟨kd, sz, sl, lt, ag, kk⟩ tp tq = [] by unfold topM; rw [if_neg h6])
      clear h6 hsix
      go_wp2
      go_meet
      refine ⟨[], none, 0, hT.out.symm, ⟨none, 0, rfl, Nat.le_refl _, by simp, fun h => absurd rfl h⟩, (H9.row_nil 3 1).pick [1, 2, 3, 4, 5, 0]⟩
  case rest =>
  obtain ⟨T, at1, ct, hTe, hTR, H15⟩ := hcut
  have hz0 := Lib.hid ib_zero
  clear hr10 hr20 H9 c4 c5
  have hsum : sumM ⟨kd, sz, sl, lt, ag, kk⟩ ⟨n, a, tp, x, y⟩ ⟨m, c, tq, u, v⟩ = ⟨n + m, J, T, x + u, y + v⟩ := by
    unfold sumM
    simp only [hJ.out, hTe]
  by_cases hp : partB (x + u) = true ∧ partB (y + v) = true
  · have hadd : addM x y u v = (x + u, y + v, 0) := by
      unfold addM ofM
      rw [if_pos ⟨⟨px, py⟩, px', py'⟩, if_pos hp]
    rw [hr.out] at hadd
    simp only [Prod.mk.injEq] at hadd
    obtain ⟨rfl, rfl, rfl⟩ := hadd
    have krs := agg_right ⟨kd, sz, sl, lt, ag, kk⟩ ⟨n + m, J, T, x + u, y + v⟩ _ hTR (by
      rw [hTe]
      show (topM _ _ _).length ≤ _
      unfold topM
      split
      · rw [List.length_take, sortD_len, List.length_append]; omega
      · simp) (by simp only; omega) (by simp only; omega)
    have hf2 := hf.out
    rw [hsum] at hf2
    obtain ⟨R, hR⟩ : ∃ R, Ag.right ⟨kd, sz, sl, lt, ag, kk⟩ ⟨n + m, J, T, x + u, y + v⟩ = R := ⟨_, rfl⟩
    rw [hR] at krs hf2
    unfold qyV agV qyC agC at krs
    simp only [hVX.out, hVY.out] at krs
    have krs := St.callPast krs H15
    have c0 := H15.cell 4 0 rfl rfl
    have c1 := H15.cell 4 1 rfl rfl
    have c2 := H15.cell 4 2 rfl rfl
    have c3 := H15.cell 4 3 rfl rfl
    have c4 := H15.cell 4 4 rfl rfl
    have c5 := H15.cell 4 5 rfl rfl
    have d0 := H15.cell 0 0 rfl rfl
    have d1 := H15.cell 0 1 rfl rfl
    have d2 := H15.cell 0 2 rfl rfl
    have d3 := H15.cell 0 3 rfl rfl
    clear hf hp hTR hTe
    cases R with
    | false =>
      have hfN := Lib.hid (show M = (Ag.zero, 20) by rw [hf2]; simp)
      clear hf2 hR
      go_wp2_with (go_at_call 80; go_must (with_reducible refine krs.mono ?_; clear c0 c1 c2 c3 c4 c5 d0 d1 d2 d3; rintro e w16 ⟨rfl, H16⟩; have r0 := H16.free 1 0 rfl; have r1 := H16.free 1 1 rfl; have r2 := H16.free 1 2 rfl; have r3 := H16.free 1 3 rfl; have x0 := H16.cell 1 0 rfl rfl; have x1 := H16.cell 1 1 rfl rfl; have x2 := H16.cell 1 2 rfl rfl; have x3 := H16.cell 1 3 rfl rfl; have d0 := H16.cell 0 0 rfl rfl; have d1 := H16.cell 0 1 rfl rfl; have d2 := H16.cell 0 2 rfl rfl; have d3 := H16.cell 0 3 rfl rfl; have HR := (((H16.set 1 rfl 0 (.int .i64 0)).set 1 rfl 1 (.int .i64 0)).set 1 rfl 2 (.slice none 0 0)).set 1 rfl 3 (.complex .f64 0 0)))
      try simp only [Exit.inBlock, Exit.then]
      refine bodyPost_ret (results_agt rfl rfl (blk_ag (cs := [.int .i64 0, .int .i64 0, .slice none 0 0, .complex .f64 0 0]) (HR.blk 1 rfl)) Tryz.underlying66 rfl (by kernel_rfl)) rfl ?_
      rw [hfN.out]
      refine ⟨.slice none 0 0, ?_, (HR.row_nil 3 1).pick [0]⟩
      unfold Ag.zero
      simp only [hz0.out]
      rfl
    | true =>
      have hfN := Lib.hid (show M = (⟨n + m, J, T, x + u, y + v⟩, 0) by rw [hf2]; simp)
      clear hf2 hR
      go_wp2_with (go_at_call 80; go_must (with_reducible refine krs.mono ?_; clear c0 c1 c2 c3 c4 c5 d0 d1 d2 d3; rintro e w16 ⟨rfl, H16⟩; have r0 := H16.free 1 0 rfl; have r1 := H16.free 1 1 rfl; have r2 := H16.free 1 2 rfl; have r3 := H16.free 1 3 rfl; have x0 := H16.cell 1 0 rfl rfl; have x1 := H16.cell 1 1 rfl rfl; have x2 := H16.cell 1 2 rfl rfl; have x3 := H16.cell 1 3 rfl rfl; have d0 := H16.cell 0 0 rfl rfl; have d1 := H16.cell 0 1 rfl rfl; have d2 := H16.cell 0 2 rfl rfl; have d3 := H16.cell 0 3 rfl rfl; have HR := (((H16.set 1 rfl 0 (.int .i64 (n + m))).set 1 rfl 1 (.int .i64 J)).set 1 rfl 2 (.slice at1 T.length ct)).set 1 rfl 3 (.complex .f64 VX VY)))
      try simp only [Exit.inBlock, Exit.then]
      refine bodyPost_ret (results_agt rfl rfl (blk_ag (cs := [.int .i64 (n + m), .int .i64 J, .slice at1 T.length ct, .complex .f64 VX VY]) (HR.blk 1 rfl)) Tryz.underlying66 rfl (by kernel_rfl)) rfl ?_
      rw [hfN.out]
      refine ⟨.slice at1 T.length ct, ?_, HR.pick [5]⟩
      simp only [hVX.out, hVY.out]
      rfl
  · have hadd : addM x y u v = (0, 0, 20) := by
      unfold addM ofM
      rw [if_pos ⟨⟨px, py⟩, px', py'⟩, if_neg hp]
    rw [hr.out] at hadd
    simp only [Prod.mk.injEq] at hadd
    obtain ⟨rfl, rfl, rfl⟩ := hadd
    have hnr : Ag.right ⟨kd, sz, sl, lt, ag, kk⟩ ⟨n + m, J, T, x + u, y + v⟩ = false := by
      rw [← Bool.not_eq_true]
      intro h
      have h1 := Ag.right_iff.1 h
      exact hp ⟨h1.2.2.2.2.2.2.1, h1.2.2.2.2.2.2.2.1⟩
    have hfN := Lib.hid (show M = (Ag.zero, 20) by rw [hf.out, hsum, if_neg (by rw [hnr]; simp)])
    clear hf hr hnr hsum hp
    have r0 := H15.free 1 0 rfl
    have r1 := H15.free 1 1 rfl
    have r2 := H15.free 1 2 rfl
    have r3 := H15.free 1 3 rfl
    have x0 := H15.cell 1 0 rfl rfl
    have x1 := H15.cell 1 1 rfl rfl
    have x2 := H15.cell 1 2 rfl rfl
    have x3 := H15.cell 1 3 rfl rfl
    have HR := (((H15.set 1 rfl 0 (.int .i64 0)).set 1 rfl 1 (.int .i64 0)).set 1 rfl 2 (.slice none 0 0)).set 1 rfl 3 (.complex .f64 0 0)
    go_wp2
    try simp only [Exit.inBlock, Exit.then]
    refine bodyPost_ret (results_agt rfl rfl (blk_ag (cs := [.int .i64 0, .int .i64 0, .slice none 0 0, .complex .f64 0 0]) (HR.blk 1 rfl)) Tryz.underlying66 rfl (by kernel_rfl)) rfl ?_
    rw [hfN.out]
    refine ⟨.slice none 0 0, ?_, (HR.row_nil 3 1).pick [0]⟩
    unfold Ag.zero
    simp only [hz0.out]
    rfl

end Go.Proofs.YtiglgfonhdfpmaaGreat

/- The walk of the aggregates' Add. Condition: what is known is right, and the value too. -/
set_option linter.unusedVariables false
set_option linter.unusedSimpArgs false
namespace Go.Proofs.YtiglgfonhdfpmaaGreat
open Go.RowKit

theorem valB_of_top {q : Qry} {g : Ag} (h : g.right q = true) : ∀ z ∈ g.top, -9223372036854775808 ≤ z ∧ z ≤ 9223372036854775807 := fun z hz => by
  obtain ⟨-, -, -, -, h5, -⟩ := Ag.right_iff.1 h
  rcases topB_iff.1 h5 with ⟨-, -, -, h6⟩ | ⟨-, h6⟩
  · have := valB_iff.1 (h6 z hz); omega
  · rw [h6] at hz; cases hz
set_option maxHeartbeats 4000000 in
set_option maxRecDepth 100000 in
theorem agg_add (q : Qry) (g : Ag) (v : Int) {hv : Value} (w : World) (hr : IntsRO w hv g.top) (hg : g.right q = true) (hvb : valB v = true) :
    Calls Tryz.prog 196 #[qyV q, agV g hv, .int .i64 v] w fun e w' => ∃ h, e = .returned (.tuple #[agV (mergeC q g (singleM q v)).1 h, .int .i64 (mergeC q g (singleM q v)).2]) ∧ St (fun _ => False) w w' [Row 3 1 h (mergeC q g (singleM q v)).1.top.length (intCells (mergeC q g (singleM q v)).1.top)] := by
  have hvi := valB_iff.1 hvb
  have kv := fun w' => agg_value v w'
  rw [hvb] at kv
  have ks := fun w' => agg_single q (v := v) (by omega) w'
  have hq : q.right = true := (Ag.right_iff.1 hg).1
  have hsr := single_right hq hvb
  have htb := valB_of_top hsr
  have km := fun w' hs (h1 : IntsRO w' hv g.top) (h2 : IntsRO w' hs (singleM q v).top) => agg_merge q g (singleM q v) w' h1 h2 hg hsr
  have hr0 := hr
  obtain ⟨ad, cap, rfl, -⟩ := hr
  obtain ⟨S, hS⟩ : ∃ S, singleM q v = S := ⟨_, rfl⟩
  rw [hS] at htb
  simp only [hS] at ks km ⊢
  clear hS hsr hg hvb hvi hq
  obtain ⟨⟨M, cd⟩, hM⟩ : ∃ M, mergeC q g S = M := ⟨_, rfl⟩
  simp only [hM] at km ⊢
  clear hM
  obtain ⟨kd, sz, sl, lt, ag, kk⟩ := q
  obtain ⟨n, a, tp, x, y⟩ := g
  obtain ⟨sn, sa, tq, sx, sy⟩ := S
  obtain ⟨mn, ma, tm, mx, my⟩ := M
  simp only at *
  unfold qyV agV qyC agC at *
  simp only at *
  obtain ⟨X, hX⟩ : ∃ X, ib x = X := ⟨_, rfl⟩
  obtain ⟨Y, hY⟩ : ∃ Y, ib y = Y := ⟨_, rfl⟩
  obtain ⟨SX, hSX⟩ : ∃ X, ib sx = X := ⟨_, rfl⟩
  obtain ⟨SY, hSY⟩ : ∃ X, ib sy = X := ⟨_, rfl⟩
  obtain ⟨MX, hMX⟩ : ∃ X, ib mx = X := ⟨_, rfl⟩
  obtain ⟨MY, hMY⟩ : ∃ X, ib my = X := ⟨_, rfl⟩
  simp only [hX, hY, hSX, hSY, hMX, hMY] at ks km ⊢
  clear hX hY hSX hSY hMX hMY
  obtain ⟨b, hb⟩ : ∃ g, w.heap.size = g := ⟨_, rfl⟩
  obtain ⟨b2, hb2⟩ : ∃ b2, b + 1 = b2 := ⟨_, rfl⟩
  obtain ⟨b3, hb3⟩ : ∃ b3, b2 + 1 = b3 := ⟨_, rfl⟩
  have sz1 : ∀ (w : World) (o : Obj), (w.alloc o).heap.size = w.heap.size + 1 := fun w o => Array.size_push _
  have H0 : St (fun _ => False) w _ [_] := (St.nil _ w).allocAt hb #[.int .i64 kd, .int .i64 sz, .int .i64 sl, .int .i64 lt, .int .i64 ag, .int .i64 kk] 23
  have H1 := H0.allocAt (B := b2) (by rw [← hb2, ← hb]; exact Array.size_push _) #[.int .i64 n, .int .i64 a, .slice ad tp.length cap, .complex .f64 X Y] 66
  have s2 : ((w.alloc (.cells #[.int .i64 kd, .int .i64 sz, .int .i64 sl, .int .i64 lt, .int .i64 ag, .int .i64 kk] 23)).alloc (.cells #[.int .i64 n, .int .i64 a, .slice ad tp.length cap, .complex .f64 X Y] 66)).heap.size = b3 := by rw [sz1, sz1, hb, hb2, hb3]
  have H := H1.allocAt (B := b3) s2 #[.int .i64 0, .int .i64 0, .slice none 0 0, .complex .f64 0 0] 66
  obtain ⟨w1, hw1⟩ : ∃ w1, ((w.alloc (.cells #[.int .i64 kd, .int .i64 sz, .int .i64 sl, .int .i64 lt, .int .i64 ag, .int .i64 kk] 23)).alloc (.cells #[.int .i64 n, .int .i64 a, .slice ad tp.length cap, .complex .f64 X Y] 66)).alloc (.cells #[.int .i64 0, .int .i64 0, .slice none 0 0, .complex .f64 0 0] 66) = w1 := ⟨_, rfl⟩
  rw [hw1] at H
  go_enter Tryz.func196, Tryz.ntmps196
  go_upto_region 1 with (fail)
  try simp only [hb, hb2, hb3]
  try rw [hw1]
  clear hw1 hb hb2 hb3 H0 H1 s2 sz1
  go_upto_region 3 with (go_at_call 202; go_must (refine (kv _).mono ?_; rintro e w2 ⟨rfl, e3⟩; rw [e3]; clear e3))
  clear kv
  refine wp_script [(0, false), (1, false), (2, false), (3, false), (4, true), (5, true), (6, false), (7, false), (8, true), (9, false)] (Fam fun w' => St (fun _ => False) w w' [Blk b2 #[.int .i64 n, .int .i64 a, .slice ad tp.length cap, .complex .f64 X Y] 66, Blk b #[.int .i64 kd, .int .i64 sz, .int .i64 sl, .int .i64 lt, .int .i64 ag, .int .i64 kk] 23]) (fun w' => St (fun _ => False) w w' [Blk b3 #[.int .i64 0, .int .i64 0, .slice none 0 0, .complex .f64 0 0] 66, Blk b2 #[.int .i64 n, .int .i64 a, .slice ad tp.length cap, .complex .f64 X Y] 66, Blk b #[.int .i64 kd, .int .i64 sz, .int .i64 sl, .int .i64 lt, .int .i64 ag, .int .i64 kk] 23]) (by kernel_rfl) (by rfl) (by kernel_rfl) (by kernel_rfl) H.drew (Fam.st (fun _ h => h.pick [1, 2])) ?_
  iterate 4 first
    | (apply script_pass
       · rfl
       · rfl
       intro K hK
       go_simp
       refine hK _ ?_
       clear hK K)
    | (apply script_step
       · rfl
       · rfl
       · intro I hI w1 h1'
         have h1 := hI.2 _ h1'
         have c0 := h1.cell 1 0 rfl rfl
         have c1 := h1.cell 1 1 rfl rfl
         have c2 := h1.cell 1 2 rfl rfl
         have c3 := h1.cell 1 3 rfl rfl
         have c4 := h1.cell 1 4 rfl rfl
         have c5 := h1.cell 1 5 rfl rfl
         have d0 := h1.cell 0 0 rfl rfl
         have d1 := h1.cell 0 1 rfl rfl
         have d2 := h1.cell 0 2 rfl rfl
         have d3 := h1.cell 0 3 rfl rfl
         first
           | (go_simp
              first
                | rfl
                | exact ⟨rfl, h1'⟩
             )
       intro K hK
       go_simp
       refine hK _ ?_
       clear hK K)
  refine script_alone rfl rfl ?_
  intro V hV w1 h1
  go_simp
  refine (ks w1).mono ?_
  rintro e w2 ⟨hs, rfl, G1⟩
  have H2 := h1.call0 G1
  refine ⟨_, rfl, fun w' => St (fun _ => False) w w' [Row 3 1 hs tq.length (intCells tq), Blk b3 #[.int .i64 0, .int .i64 0, .slice none 0 0, .complex .f64 0 0] 66, Blk b2 #[.int .i64 n, .int .i64 a, .slice ad tp.length cap, .complex .f64 X Y] 66, Blk b #[.int .i64 kd, .int .i64 sz, .int .i64 sl, .int .i64 lt, .int .i64 ag, .int .i64 kk] 23], hV _ _ _ (fun _ h => h) (Fam.st (fun _ h => h.pick [2, 3])) ?_, H2⟩
  intro K hK
  go_simp
  refine hK _ ?_
  clear hK K hV V
  clear H2 h1 G1 w1 w2
  refine script_alone rfl rfl ?_
  intro V hV w1 h1
  go_simp
  refine (km w1 hs (hr0.later h1.kept) (ints_own (h1.row 0 rfl) htb)).mono ?_
  rintro e w2 ⟨hm, rfl, G1⟩
  have H2 := h1.call0 G1
  refine ⟨_, rfl, fun w' => St (fun _ => False) w w' [Row 3 1 hm tm.length (intCells tm), Row 3 1 hs tq.length (intCells tq), Blk b3 #[.int .i64 0, .int .i64 0, .slice none 0 0, .complex .f64 0 0] 66, Blk b2 #[.int .i64 n, .int .i64 a, .slice ad tp.length cap, .complex .f64 X Y] 66, Blk b #[.int .i64 kd, .int .i64 sz, .int .i64 sl, .int .i64 lt, .int .i64 ag, .int .i64 kk] 23], hV _ _ _ (fun _ h => h) (Fam.st (fun _ h => h.pick [3, 4])) ?_, H2⟩
  intro K hK
  go_simp
  refine hK _ ?_
  clear hK K hV V
  clear H2 h1 G1 w1 w2
  iterate 2 first
    | (apply script_pass
       · rfl
       · rfl
       intro K hK
       go_simp
       refine hK _ ?_
       clear hK K)
    | (apply script_step
       · rfl
       · rfl
       · intro I hI w1 h1'
         have h1 := hI.2 _ h1'
         first
           | (go_simp
              first
                | rfl
                | exact ⟨rfl, h1'⟩
             )
       intro K hK
       go_simp
       refine hK _ ?_
       clear hK K)
  refine script_alone rfl rfl ?_
  intro V hV w1 h1
  obtain ⟨am, cm, rfl, -, -⟩ := slice_form' (h1.row 0 rfl)
  have r0 := h1.free 2 0 rfl
  have r1 := h1.free 2 1 rfl
  have r2 := h1.free 2 2 rfl
  have r3 := h1.free 2 3 rfl
  have x0 := h1.cell 2 0 rfl rfl
  have x1 := h1.cell 2 1 rfl rfl
  have x2 := h1.cell 2 2 rfl rfl
  have x3 := h1.cell 2 3 rfl rfl
  have H4 := (((h1.set 2 rfl 0 (.int .i64 mn)).set 2 rfl 1 (.int .i64 ma)).set 2 rfl 2 (.slice am tm.length cm)).set 2 rfl 3 (.complex .f64 MX MY)
  go_simp
  refine ⟨fun w' => St (fun _ => False) w w' [Row 3 1 (.slice am tm.length cm) tm.length (intCells tm), Row 3 1 hs tq.length (intCells tq), Blk b3 #[.int .i64 mn, .int .i64 ma, .slice am tm.length cm, .complex .f64 MX MY] 66, Blk b2 #[.int .i64 n, .int .i64 a, .slice ad tp.length cap, .complex .f64 X Y] 66, Blk b #[.int .i64 kd, .int .i64 sz, .int .i64 sl, .int .i64 lt, .int .i64 ag, .int .i64 kk] 23], hV _ _ _ (fun _ h => h) (Fam.st (fun _ h => h.pick [3, 4])) ?_, H4⟩
  intro K hK
  go_simp
  refine hK _ ?_
  clear hK K hV V
  clear H4 h1 w1 r0 r1 r2 r3 x0 x1 x2 x3
  iterate 1 first
    | (apply script_pass
       · rfl
       · rfl
       intro K hK
       go_simp
       refine hK _ ?_
       clear hK K)
    | (apply script_step
       · rfl
       · rfl
       · intro I hI w1 h1'
         have h1 := hI.2 _ h1'
         first
           | (go_simp
              first
                | rfl
                | exact ⟨rfl, h1'⟩
             )
       intro K hK
       go_simp
       refine hK _ ?_
       clear hK K)
  refine script_nil ?_
  intro w9 H9
  go_wp2
  try simp only [Exit.inBlock, Exit.then]
  refine bodyPost_ret (results_agt rfl rfl (blk_ag (cs := [.int .i64 mn, .int .i64 ma, .slice am tm.length cm, .complex .f64 MX MY]) (H9.blk 2 rfl)) Tryz.underlying66 rfl (by kernel_rfl)) rfl ?_
  exact ⟨.slice am tm.length cm, rfl, H9.pick [0]⟩

end Go.Proofs.YtiglgfonhdfpmaaGreat
