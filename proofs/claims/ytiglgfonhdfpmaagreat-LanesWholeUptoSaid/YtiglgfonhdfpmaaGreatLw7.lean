import Derived.Test.YtiglgfonhdfpmaaGreatLw1
import Derived.Test.YtiglgfonhdfpmaaGreatLw2
import Derived.Test.YtiglgfonhdfpmaaGreatLw3
import Derived.Test.YtiglgfonhdfpmaaGreatLw4
import Derived.Test.YtiglgfonhdfpmaaGreatLw6
import Derived.Deep.CutBlock
import Derived.Lib.ItoaNum
import Derived.Lib.AtoiAll
import Derived.Lib.Split
import Derived.Lib.SplitLaws
import Derived.Lib.IndexLaws
import Derived.Lib.CountLaws
import Derived.Shelf.SlGeneric
import Derived.Shelf.SlLaysF
import Derived.Shelf.GgSortFunc.Insertion
import Derived.Shelf.SlSortCmp.Whole1
/- The operator's fits. Condition: the window fits the machine. -/
set_option linter.unusedVariables false
set_option linter.unusedSimpArgs false
namespace Go.Proofs.YtiglgfonhdfpmaaGreat
open Go.RowKit

theorem fits_right {x : Wd} (h : x.right = true) : x.fits := by
  obtain ⟨h1, h2, h3, h4, h5⟩ := right_iff.1 h
  unfold nameB at h1
  simp only [Bool.and_eq_true, decide_eq_true_eq] at h1
  exact ⟨by omega, by omega, by omega⟩
theorem range_low {p : Nat → Bool} {lo : Nat} (h : ∀ k, p k = true → lo ≤ k) : ∀ n, ((List.range n).filter p).length ≤ n - lo
  | 0 => by simp
  | n + 1 => by
    have ih := range_low h n
    rw [List.range_succ, List.filter_append, List.length_append]
    by_cases hp : p n = true
    · have := h n hp
      simp [hp]
      omega
    · simp [hp]
      omega
theorem wins_right {q : Qry} {key : List UInt8} {t : Int} : ∀ x ∈ winsOf q key t, x.right = true ∧ x.key = key ∧ x.frm ≤ t ∧ t < x.to ∧ x.to = x.frm + q.size := by
  intro x hx
  unfold winsOf at hx
  split at hx
  · rename_i hg
    obtain ⟨hq, hk, ht⟩ := hg
    obtain ⟨hkd, hsz, hsl, -, -⟩ := q_size hq
    split at hx
    · rw [List.mem_singleton.1 hx]
      exact ⟨(wd_made hq hk ht.2 (u := t) (by omega)).1, rfl, by simp only; omega, by simp only; omega, rfl⟩
    · split at hx
      · rename_i h2
        have hs := hsl h2
        obtain ⟨k, hk2, rfl⟩ := List.mem_map.1 hx
        obtain ⟨h4, h5⟩ := List.mem_filter.1 hk2
        have h4 := List.mem_range.1 h4
        have h5 := of_decide_eq_true h5
        have hd0 : 0 ≤ t / q.slide := Int.ediv_nonneg ht.1 (by omega)
        have h6 : (k : Int) ≤ t / q.slide := by omega
        have h7 : (k : Int) * q.slide ≤ t := (Int.le_ediv_iff_mul_le (by omega)).1 h6
        have h8 : 0 ≤ (k : Int) * q.slide := Int.mul_nonneg (by omega) (by omega)
        exact ⟨(wd_made hq hk ht.2 (u := (k : Int) * q.slide) ⟨h8, h7⟩).1, rfl, h7, h5, rfl⟩
      · rw [List.mem_singleton.1 hx]
        have m0 := Int.emod_nonneg t (show q.size ≠ 0 by omega)
        have m1 := Int.emod_lt_of_pos t (show 0 < q.size by omega)
        have m2 := Int.mul_ediv_add_emod t q.size
        have m3 := Int.mul_nonneg (show 0 ≤ q.size by omega) (Int.ediv_nonneg ht.1 (show 0 ≤ q.size by omega))
        exact ⟨(wd_made hq hk ht.2 (u := t - t % q.size) (by omega)).1, rfl, by simp only; omega, by simp only; omega, rfl⟩
  · cases hx
theorem wins_len (q : Qry) (key : List UInt8) (t : Int) : (winsOf q key t).length ≤ 16 := by
  unfold winsOf
  split
  · rename_i hg
    obtain ⟨hq, hk, ht⟩ := hg
    obtain ⟨hkd, hsz, hsl, -, -⟩ := q_size hq
    split
    · simp
    · split
      · rename_i h2
        obtain ⟨hs, hs1, hs2⟩ := hsl h2
        unfold slideWs
        rw [List.length_map]
        have hd0 : 0 ≤ t / q.slide := Int.ediv_nonneg ht.1 (by omega)
        refine Nat.le_trans (range_low (lo := (t / q.slide).toNat - 15) (fun k hp => ?_) _) (by omega)
        have hp := of_decide_eq_true hp
        have h3 : t < ((k : Int) + 16) * q.slide := by rw [Int.add_mul]; omega
        have h4 : t / q.slide < (k : Int) + 16 := (Int.ediv_lt_iff_lt_mul (by omega)).2 h3
        omega
      · simp
  · simp

set_option maxHeartbeats 2000000 in
set_option maxRecDepth 100000 in
theorem oper_fits (q : Qry) (x : Wd) (hx : x.fits) (w : World) : Calls Tryz.prog 142 #[qyV q, wdV x] w fun e w' => e = .returned (.bool (fitsM q x)) ∧ Below w.heap.size w w' := by
  have kr := fun w' => wd_right x hx w'
  have kw := fun w' => wins_of q x.key x.frm w' hx.1
  have kc := fun w' v (hv : WdsRO w' v (winsOf q x.key x.frm)) => wds_contains x hv (by have := wins_len q x.key x.frm; omega)
  have hwf : ∀ y ∈ winsOf q x.key x.frm, y.fits := fun y hy => fits_right (wins_right y hy).1
  have hwl := wins_len q x.key x.frm
  by_cases h3 : q.kind = 3
  · have hf0 : fitsM q x = (x.right && decide (q.size ≤ x.to - x.frm)) := by unfold fitsM; rw [if_pos h3]
    obtain ⟨nm, hnm⟩ : ∃ nm, x.right = nm := ⟨_, rfl⟩
    have hw : nm = true → IntKind.i64.wrap (x.to - x.frm) = x.to - x.frm := fun h => by
      obtain ⟨-, a, b, c, d⟩ := right_iff.1 (hnm.trans h)
      rw [IntKind.wrap_i64]; omega
    rw [hnm] at kr hf0
    clear hnm kw kc hwf hwl
    obtain ⟨kd, sz, sl, lt, ag, kk⟩ := q
    obtain ⟨key, f, u⟩ := x
    simp only at h3 hf0 hw
    subst h3
    have hf := Lib.hid hf0
    clear hf0
    have H0 : St (fun _ => False) w _ [_] := (St.nil _ w).allocAt rfl #[.int .i64 3, .int .i64 sz, .int .i64 sl, .int .i64 lt, .int .i64 ag, .int .i64 kk] 23
    have H : St (fun _ => False) w _ [_, _] := H0.allocAt (B := w.heap.size + 1) (Array.size_push _) #[.string ⟨key.toArray⟩, .int .i64 f, .int .i64 u] 61
    unfold wdV wdC textV at kr
    simp only at kr
    unfold qyV qyC wdV wdC textV
    simp only
    have c0 := H.cell 0 0 rfl rfl
    have c1 := H.cell 0 1 rfl rfl
    have c2 := H.cell 0 2 rfl rfl
    have d0 := H.cell 1 0 rfl rfl
    go_enter Tryz.func142, Tryz.ntmps142
    cases nm with
    | false =>
      go_wp2_with (go_at_call 146; go_must (refine (St.callPast (kr _) H).mono ?_; rintro e w2 ⟨rfl, H2⟩))
      go_ret
      rw [hf.out]
      exact ⟨ret_bool (by simp), H2.below (Nat.le_refl _) (fun _ h => h.elim)⟩
    | true =>
      have hw := hw rfl
      go_wp2_with (go_at_call 146; go_must (refine (St.callPast (kr _) H).mono ?_; rintro e w2 ⟨rfl, H2⟩; clear c0 c1 c2 d0; have c1 := H2.cell 0 1 rfl rfl; have c2 := H2.cell 0 2 rfl rfl; have d1 := H2.cell 1 1 rfl rfl))
      go_ret
      rw [hf.out]
      exact ⟨ret_bool (by simp), H2.below (Nat.le_refl _) (fun _ h => h.elim)⟩
  · have hf0 : fitsM q x = (winsOf q x.key x.frm).contains x := by unfold fitsM; rw [if_neg h3]
    rw [hf0]
    obtain ⟨ws, hws⟩ : ∃ ws, winsOf q x.key x.frm = ws := ⟨_, rfl⟩
    rw [hws] at hwf hwl ⊢
    simp only [hws] at kw kc
    obtain ⟨z, hz⟩ : ∃ z, ws.contains x = z := ⟨_, rfl⟩
    simp only [hz] at kc ⊢
    have hwfh := Lib.hid hwf
    clear hf0 hws hz kr hx hwf
    obtain ⟨kd, sz, sl, lt, ag, kk⟩ := q
    obtain ⟨key, f, u⟩ := x
    have h3' : (kd == 3) = false := by simpa using h3
    have H0 : St (fun _ => False) w _ [_] := (St.nil _ w).allocAt rfl #[.int .i64 kd, .int .i64 sz, .int .i64 sl, .int .i64 lt, .int .i64 ag, .int .i64 kk] 23
    have H : St (fun _ => False) w _ [_, _] := H0.allocAt (B := w.heap.size + 1) (Array.size_push _) #[.string ⟨key.toArray⟩, .int .i64 f, .int .i64 u] 61
    unfold qyV qyC textV at kw
    unfold wdV wdC textV at kc
    simp only at kw kc
    unfold qyV qyC wdV wdC textV
    simp only
    have d0 := H.cell 1 0 rfl rfl
    go_enter Tryz.func142, Tryz.ntmps142
    go_upto_region 3 with (fail)
    obtain ⟨b, hb⟩ : ∃ b, w.heap.size = b := ⟨_, rfl⟩
    obtain ⟨b2, hb2⟩ : ∃ b2, b + 1 = b2 := ⟨_, rfl⟩
    obtain ⟨w1, hw1⟩ : ∃ w1, (w.alloc (.cells #[.int .i64 kd, .int .i64 sz, .int .i64 sl, .int .i64 lt, .int .i64 ag, .int .i64 kk] 23)).alloc (.cells #[.string ⟨key.toArray⟩, .int .i64 f, .int .i64 u] 61) = w1 := ⟨_, rfl⟩
    rw [hw1, hb, hb2] at H
    try rw [hw1]
    try simp only [hb, hb2]
    have hbh := Lib.hid hb
    clear hw1 hb hb2 d0 H0
    refine wp_script [(0, false), (1, false), (2, false), (3, false), (4, false), (6, false), (5, true), (7, true), (8, false)] (Fam fun w' => St (fun _ => False) w w' [Blk b2 #[.string ⟨key.toArray⟩, .int .i64 f, .int .i64 u] 61, Blk b #[.int .i64 kd, .int .i64 sz, .int .i64 sl, .int .i64 lt, .int .i64 ag, .int .i64 kk] 23]) (fun w' => St (fun _ => False) w w' [Blk b2 #[.string ⟨key.toArray⟩, .int .i64 f, .int .i64 u] 61, Blk b #[.int .i64 kd, .int .i64 sz, .int .i64 sl, .int .i64 lt, .int .i64 ag, .int .i64 kk] 23]) (by kernel_rfl) (by rfl) (by kernel_rfl) (by kernel_rfl) H.drew (Fam.st (fun _ h => h)) ?_
    iterate 6 first
      | (apply script_pass
         · rfl
         · rfl
         intro K hK
         go_simp
         refine hK _ ?_
         clear hK K)
      | (apply script_step
         · rfl
         · rfl
         · intro I hI w1 h1'
           have h1 := hI.2 _ h1'
           have c0 := h1.cell 0 0 rfl rfl
           have c1 := h1.cell 0 1 rfl rfl
           have c2 := h1.cell 0 2 rfl rfl
           have d0 := h1.cell 1 0 rfl rfl
           have d1 := h1.cell 1 1 rfl rfl
           have d2 := h1.cell 1 2 rfl rfl
           have d3 := h1.cell 1 3 rfl rfl
           have d4 := h1.cell 1 4 rfl rfl
           have d5 := h1.cell 1 5 rfl rfl
           first
             | (go_simp
                first
                  | rfl
                  | exact ⟨rfl, h1'⟩
               )
         intro K hK
         go_simp
         refine hK _ ?_
         clear hK K)
    refine script_alone rfl rfl ?_
    intro V hV w1 h1
    go_simp
    refine (kw w1).mono ?_
    rintro e w2 ⟨hs, rfl, G1⟩
    have H2 := h1.call0 G1
    refine ⟨_, rfl, fun w' => St (fun _ => False) w w' [Row 61 3 hs ws.length (wds ws), Blk b2 #[.string ⟨key.toArray⟩, .int .i64 f, .int .i64 u] 61, Blk b #[.int .i64 kd, .int .i64 sz, .int .i64 sl, .int .i64 lt, .int .i64 ag, .int .i64 kk] 23], hV _ _ _ (fun _ h => h) (Fam.st (fun _ h => h.pick [1, 2])) ?_, H2⟩
    intro K hK
    go_simp
    refine hK _ ?_
    clear hK K hV V
    clear H2 h1 G1 w1 w2
    refine script_alone rfl rfl ?_
    intro V hV w1 h1
    go_simp
    refine (kc w1 hs (wds_own (h1.row 0 rfl) hwfh.out)).mono ?_
    rintro e w2 ⟨rfl, hb⟩
    have H2 := h1.past hb
    refine ⟨_, rfl, fun w' => St (fun _ => False) w w' [Row 61 3 hs ws.length (wds ws), Blk b2 #[.string ⟨key.toArray⟩, .int .i64 f, .int .i64 u] 61, Blk b #[.int .i64 kd, .int .i64 sz, .int .i64 sl, .int .i64 lt, .int .i64 ag, .int .i64 kk] 23], hV _ _ _ (fun _ h => h) (Fam.st (fun _ h => h.pick [1, 2])) ?_, H2⟩
    intro K hK
    go_simp
    refine hK _ ?_
    clear hK K hV V
    clear H2 h1 hb w1 w2
    iterate 1 first
      | (apply script_pass
         · rfl
         · rfl
         intro K hK
         go_simp
         refine hK _ ?_
         clear hK K)
      | (apply script_step
         · rfl
         · rfl
         · intro I hI w1 h1'
           have h1 := hI.2 _ h1'
           first
             | (go_simp
                first
                  | rfl
                  | exact ⟨rfl, h1'⟩
               )
         intro K hK
         go_simp
         refine hK _ ?_
         clear hK K)
    refine script_nil ?_
    intro w9 H9
    go_wp2
    go_ret
    exact ⟨rfl, H9.below (Nat.le_refl _) (fun _ h => h.elim)⟩

end Go.Proofs.YtiglgfonhdfpmaaGreat

/- The operator's pane. Condition: the pane fits the machine. -/
set_option linter.unusedVariables false
set_option linter.unusedSimpArgs false
namespace Go.Proofs.YtiglgfonhdfpmaaGreat
open Go.RowKit

/-- A pane whose numbers the machine can hold. -/
def Pn.fits (p : Pn) : Prop := p.w.fits ∧ p.g.top.length ≤ 1073741824 ∧ p.g.x.natAbs < 2 ^ 53 ∧ p.g.y.natAbs < 2 ^ 53
theorem ok_eq (q : Qry) (mark : Int) (p : Pn) : p.ok q mark = (fitsM q p.w && !p.w.gone q mark && decide (0 ≤ p.round) && decide (p.round ≤ 1073741824) && p.g.right q && decide (0 < p.g.n) && (decide (0 < p.round) == p.w.ripe mark)) := rfl

set_option maxHeartbeats 4000000 in
set_option maxRecDepth 100000 in
theorem oper_pane (q : Qry) (m : Pm) (mark : Int) (w : World) (hf : m.p.fits) (hro : IntsRO w m.hd m.p.g.top) : Calls Tryz.prog 76 #[qyV q, pnV m, .int .i64 mark] w fun e w' => e = .returned (.bool (m.p.ok q mark)) ∧ Below w.heap.size w w' := by
  have kf := fun w' => oper_fits q m.p.w hf.1 w'
  have kg := fun w' => wd_gone q m.p.w hf.1 mark w'
  have kr := fun w' => wd_ripe m.p.w hf.1 mark w'
  have ka := fun w' (h : IntsRO w' m.hd m.p.g.top) => agg_right q m.p.g w' h (by have := hf.2.1; omega) hf.2.2.1 hf.2.2.2
  have hok := ok_eq q mark m.p
  obtain ⟨res, hres⟩ : ∃ r, m.p.ok q mark = r := ⟨_, rfl⟩
  obtain ⟨nf, hnf⟩ : ∃ r, fitsM q m.p.w = r := ⟨_, rfl⟩
  obtain ⟨ng, hng⟩ : ∃ r, m.p.w.gone q mark = r := ⟨_, rfl⟩
  obtain ⟨nr, hnr⟩ : ∃ r, m.p.w.ripe mark = r := ⟨_, rfl⟩
  obtain ⟨na, hna⟩ : ∃ r, m.p.g.right q = r := ⟨_, rfl⟩
  rw [hres, hnf, hng, hnr, hna] at hok
  rw [hres]
  simp only [hnf] at kf
  simp only [hng] at kg
  simp only [hnr] at kr
  simp only [hna] at ka
  clear hres hnf hng hnr hna hf
  obtain ⟨⟨⟨xk, xf, xt⟩, ⟨gn, ga, gt, gx, gy⟩, xr⟩, xa, xc⟩ := m
  obtain ⟨kd, sz, sl, lt, ag, kk⟩ := q
  unfold qyV qyC wdV wdC textV at kf kg
  unfold wdV wdC textV at kr
  unfold qyV qyC agV agC at ka
  unfold Pm.hd at hro ka
  simp only at kf kg kr ka hok hro
  unfold qyV qyC pnV pnC Pm.hd textV
  simp only
  obtain ⟨X, hX⟩ : ∃ X, ib gx = X := ⟨_, rfl⟩
  obtain ⟨Y, hY⟩ : ∃ Y, ib gy = Y := ⟨_, rfl⟩
  simp only [hX, hY] at ka ⊢
  clear hX hY
  obtain ⟨TL, hTL⟩ : ∃ n, gt.length = n := ⟨_, rfl⟩
  simp only [hTL] at ka hro ⊢
  clear hTL
  have H0 : St (fun _ => False) w _ [_] := (St.nil _ w).allocAt rfl #[.int .i64 kd, .int .i64 sz, .int .i64 sl, .int .i64 lt, .int .i64 ag, .int .i64 kk] 23
  have H : St (fun _ => False) w _ [_, _] := H0.allocAt (B := w.heap.size + 1) (Array.size_push _) #[.string ⟨xk.toArray⟩, .int .i64 xf, .int .i64 xt, .int .i64 gn, .int .i64 ga, .slice xa TL xc, .complex .f64 X Y, .int .i64 xr] 68
  obtain ⟨b, hb⟩ : ∃ b, w.heap.size = b := ⟨_, rfl⟩
  obtain ⟨b2, hb2⟩ : ∃ b2, b + 1 = b2 := ⟨_, rfl⟩
  obtain ⟨w1, hw1⟩ : ∃ w1, (w.alloc (.cells #[.int .i64 kd, .int .i64 sz, .int .i64 sl, .int .i64 lt, .int .i64 ag, .int .i64 kk] 23)).alloc (.cells #[.string ⟨xk.toArray⟩, .int .i64 xf, .int .i64 xt, .int .i64 gn, .int .i64 ga, .slice xa TL xc, .complex .f64 X Y, .int .i64 xr] 68) = w1 := ⟨_, rfl⟩
  go_enter Tryz.func76, Tryz.ntmps76
  go_upto_region 1 with (fail)
  rw [hw1, hb, hb2] at H
  try rw [hw1]
  try simp only [hb, hb2]
  have hbh := Lib.hid hb
  have hokh := Lib.hid hok
  clear hw1 hb hb2 H0 hok
  have c0 := H.cell 0 0 rfl rfl
  have c1 := H.cell 0 1 rfl rfl
  have c2 := H.cell 0 2 rfl rfl
  have c7 := H.cell 0 7 rfl rfl
  have d0 := H.cell 1 0 rfl rfl
  have d1 := H.cell 1 1 rfl rfl
  have d2 := H.cell 1 2 rfl rfl
  have d3 := H.cell 1 3 rfl rfl
  have d4 := H.cell 1 4 rfl rfl
  have d5 := H.cell 1 5 rfl rfl
  have hc : (nf = false) ∨ (nf = true ∧ ng = true) ∨ (nf = true ∧ ng = false ∧ xr < 0) ∨ (nf = true ∧ ng = false ∧ ¬ xr < 0 ∧ 1073741824 < xr) ∨ (nf = true ∧ ng = false ∧ ¬ xr < 0 ∧ ¬ 1073741824 < xr) := by
    cases nf
    · exact .inl rfl
    · cases ng
      · by_cases h1 : xr < 0
        · exact .inr (.inr (.inl ⟨rfl, rfl, h1⟩))
        · by_cases h2 : 1073741824 < xr
          · exact .inr (.inr (.inr (.inl ⟨rfl, rfl, h1, h2⟩)))
          · exact .inr (.inr (.inr (.inr ⟨rfl, rfl, h1, h2⟩)))
      · exact .inr (.inl ⟨rfl, rfl⟩)
  rcases hc with rfl | ⟨rfl, rfl⟩ | ⟨rfl, rfl, h1⟩ | ⟨rfl, rfl, h1, h2⟩ | ⟨rfl, rfl, h1, h2⟩
  case inl =>
    go_wp2_with (go_at_call 142; go_must (refine (St.callPast (kf _) H).mono ?_; rintro e w2 ⟨rfl, H2⟩))
    go_ret
    have hr : res = false := by rw [hokh.out]; simp
    exact ⟨ret_bool (by rw [hr]), H2.below (Nat.le_refl _) (fun _ h => h.elim)⟩
  case inr.inl =>
    go_wp2_with (first
      | (go_at_call 142; go_must (refine (St.callPast (kf _) H).mono ?_; rintro e w2 ⟨rfl, H2⟩; clear c0 c1 c2 c7 d0 d1 d2 d3 d4 d5; have c0 := H2.cell 0 0 rfl rfl; have c1 := H2.cell 0 1 rfl rfl; have c2 := H2.cell 0 2 rfl rfl; have d0 := H2.cell 1 0 rfl rfl; have d1 := H2.cell 1 1 rfl rfl; have d2 := H2.cell 1 2 rfl rfl; have d3 := H2.cell 1 3 rfl rfl; have d4 := H2.cell 1 4 rfl rfl; have d5 := H2.cell 1 5 rfl rfl))
      | (go_at_call 136; go_must (refine (St.callPast (kg _) H2).mono ?_; rintro e w3 ⟨rfl, H3⟩)))
    go_ret
    have hr : res = false := by rw [hokh.out]; simp
    exact ⟨ret_bool (by rw [hr]), H3.below (Nat.le_refl _) (fun _ h => h.elim)⟩
  case' inr.inr.inl => have hr : res = false := by rw [hokh.out]; simp; omega
  case' inr.inr.inr.inl => have hr : res = false := by rw [hokh.out]; simp; omega
  case' inr.inr.inr.inr => go_upto_region 3 with (first
      | (go_at_call 142; go_must (refine (St.callPast (kf _) H).mono ?_; rintro e w2 ⟨rfl, H2⟩; clear c0 c1 c2 c7 d0 d1 d2 d3 d4 d5; have c0 := H2.cell 0 0 rfl rfl; have c1 := H2.cell 0 1 rfl rfl; have c2 := H2.cell 0 2 rfl rfl; have d0 := H2.cell 1 0 rfl rfl; have d1 := H2.cell 1 1 rfl rfl; have d2 := H2.cell 1 2 rfl rfl; have d3 := H2.cell 1 3 rfl rfl; have d4 := H2.cell 1 4 rfl rfl; have d5 := H2.cell 1 5 rfl rfl))
      | (go_at_call 136; go_must (refine (St.callPast (kg _) H2).mono ?_; rintro e w3 ⟨rfl, H3⟩; clear c0 c1 c2 d0 d1 d2 d3 d4 d5; have c7 := H3.cell 0 7 rfl rfl)))
  case inr.inr.inl | inr.inr.inr.inl =>
    go_wp2_with (first
      | (go_at_call 142; go_must (refine (St.callPast (kf _) H).mono ?_; rintro e w2 ⟨rfl, H2⟩; clear c0 c1 c2 c7 d0 d1 d2 d3 d4 d5; have c0 := H2.cell 0 0 rfl rfl; have c1 := H2.cell 0 1 rfl rfl; have c2 := H2.cell 0 2 rfl rfl; have d0 := H2.cell 1 0 rfl rfl; have d1 := H2.cell 1 1 rfl rfl; have d2 := H2.cell 1 2 rfl rfl; have d3 := H2.cell 1 3 rfl rfl; have d4 := H2.cell 1 4 rfl rfl; have d5 := H2.cell 1 5 rfl rfl))
      | (go_at_call 136; go_must (refine (St.callPast (kg _) H2).mono ?_; rintro e w3 ⟨rfl, H3⟩; clear c0 c1 c2 d0 d1 d2 d3 d4 d5; have c7 := H3.cell 0 7 rfl rfl)))
    go_ret
    exact ⟨ret_bool (by rw [hr]), H3.below (Nat.le_refl _) (fun _ h => h.elim)⟩
  case inr.inr.inr.inr =>
    have hr0 : res = (na && decide (0 < gn) && (decide (0 < xr) == nr)) := by
      have e1 : decide (0 ≤ xr) = true := by simpa using h1
      have e2 : decide (xr ≤ 1073741824) = true := by simpa using h2
      rw [hokh.out, e1, e2]
      simp
    have hr := Lib.hid hr0
    clear hr0 c7 H2 H
    have hcc : na = false ∨ (na = true ∧ ¬ 0 < gn) ∨ (na = true ∧ 0 < gn) := by
      cases na
      · exact .inl rfl
      · by_cases h : 0 < gn
        · exact .inr (.inr ⟨rfl, h⟩)
        · exact .inr (.inl ⟨rfl, h⟩)
    rcases hcc with rfl | ⟨rfl, h3⟩ | ⟨rfl, h3⟩
    all_goals
      refine wp_calm (fun w' => St (fun _ => False) w w' [Blk b2 #[.string ⟨xk.toArray⟩, .int .i64 xf, .int .i64 xt, .int .i64 gn, .int .i64 ga, .slice xa TL xc, .complex .f64 X Y, .int .i64 xr] 68, Blk b #[.int .i64 kd, .int .i64 sz, .int .i64 sl, .int .i64 lt, .int .i64 ag, .int .i64 kk] 23]) (by kernel_rfl) (by kernel_rfl) (H3.drew) ?_
      iterate 21 first
        | (apply calm_pass
           · rfl
           intro K hK
           go_simp
           refine hK _ ?_
           clear hK K)
        | (apply calm_step
           · rfl
           · intro w1 h1
             have c0 := h1.cell 0 0 rfl rfl
             have c1 := h1.cell 0 1 rfl rfl
             have c2 := h1.cell 0 2 rfl rfl
             have c3 := h1.cell 0 3 rfl rfl
             have c4 := h1.cell 0 4 rfl rfl
             have c5 := h1.cell 0 5 rfl rfl
             have c6 := h1.cell 0 6 rfl rfl
             have c7 := h1.cell 0 7 rfl rfl
             have d0 := h1.cell 1 0 rfl rfl
             have d1 := h1.cell 1 1 rfl rfl
             have d2 := h1.cell 1 2 rfl rfl
             have d3 := h1.cell 1 3 rfl rfl
             have d4 := h1.cell 1 4 rfl rfl
             have d5 := h1.cell 1 5 rfl rfl
             first
               | (go_simp
                  first
                    | rfl
                    | exact ⟨rfl, h1⟩
                    | (go_at_call 80; with_reducible exact St.callPast (ka w1 (hro.later h1.kept)) h1)
                    | (go_at_call 129; with_reducible exact St.callPast (kr w1) h1)
                 )
           intro K hK
           go_simp
           refine hK _ ?_
           clear hK K)
      refine calm_nil ?_
      intro w9 H9
      go_wp2
      go_ret
      rw [hr.out]
      exact ⟨ret_bool (by first | (simp; done) | (simp [h3]; done) | (simp; intro h; omega)), H9.below (Nat.le_refl _) (fun _ h => h.elim)⟩

end Go.Proofs.YtiglgfonhdfpmaaGreat

/- The operator's Right: which states are right. Condition: the state fits the machine. -/
set_option linter.unusedVariables false
set_option linter.unusedSimpArgs false
namespace Go.Proofs.YtiglgfonhdfpmaaGreat
open Go.RowKit

theorem sortedP_iff : ∀ {l : List Pn}, sortedP l = true ↔ ∀ (i : Nat) a b, l[i]? = some a → l[i + 1]? = some b → a.w.place b.w < 0
  | [] => by simp [sortedP]
  | [x] => by simp [sortedP]
  | x :: y :: r => by
    have ih := sortedP_iff (l := y :: r)
    simp only [sortedP, Bool.and_eq_true, decide_eq_true_eq, ih]
    constructor
    · rintro ⟨h1, h2⟩ i a b ha hb
      cases i with
      | zero =>
        simp only [List.getElem?_cons_zero, Option.some.injEq, Nat.zero_add, List.getElem?_cons_succ] at ha hb
        subst ha hb
        exact h1
      | succ i => exact h2 i a b (by simpa using ha) (by simpa using hb)
    · intro h
      exact ⟨h 0 x y rfl rfl, fun i a b ha hb => h (i + 1) a b (by simpa using ha) (by simpa using hb)⟩
theorem settledW_iff : ∀ {l : List Wd}, settledW l = true ↔ Stl l
  | [] => by
    simp only [settledW, true_iff]
    intro k x hx
    simp at hx
  | [x] => by
    simp only [settledW]
    constructor
    · intro h k y hy
      cases k with
      | zero =>
        obtain rfl : x = y := by simpa using hy
        exact ⟨h, fun j z hj => absurd hj (by omega)⟩
      | succ k => simp at hy
    · intro h
      exact (h 0 x rfl).1
  | x :: y :: r => by
    have ih := settledW_iff (l := y :: r)
    simp only [settledW, Bool.and_eq_true, decide_eq_true_eq, ih, Bool.not_eq_true']
    constructor
    · rintro ⟨⟨⟨h1, h2⟩, h3⟩, h4⟩ k z hz
      cases k with
      | zero =>
        obtain rfl : x = z := by simpa using hz
        exact ⟨h1, fun j u hj => absurd hj (by omega)⟩
      | succ k =>
        have g := h4 k z (by simpa using hz)
        refine ⟨g.1, fun j u hj hu => ?_⟩
        obtain rfl : j = k := by omega
        cases j with
        | zero =>
          obtain rfl : x = u := by simpa using hu
          obtain rfl : y = z := by simpa using hz
          exact ⟨h2, h3⟩
        | succ j => exact g.2 j u rfl (by simpa using hu)
    · intro h
      have g := (h 1 y rfl).2 0 x rfl rfl
      refine ⟨⟨⟨(h 0 x rfl).1, g.1⟩, g.2⟩, fun k z hz => ?_⟩
      have g2 := h (k + 1) z (by simpa using hz)
      exact ⟨g2.1, fun j u hj hu => g2.2 (j + 1) u (by omega) (by simpa using hu)⟩
theorem settledW_stl (l : List Wd) : stl l = settledW l := by
  rw [Bool.eq_iff_iff, stl_true, settledW_iff]
theorem sright_eq (q : Qry) (s : Stt) : s.right q = (q.right && decide (-1 ≤ s.mark) && decide (s.mark ≤ 1099511627776) && decide (s.panes.length ≤ 256) && s.panes.all (·.ok q s.mark) && sortedP s.panes && (decide (q.kind ≠ 3) || settledW (s.panes.map (·.w)))) := rfl
/-- The first panes are as they may be. -/
def okTo (q : Qry) (mark : Int) (l : List Pm) (i : Nat) : Prop := ∀ (k : Nat) m, k < i → l[k]? = some m → m.p.ok q mark = true ∧ ∀ (j : Nat) a, j + 1 = k → l[j]? = some a → a.p.w.place m.p.w < 0
theorem okTo_all {q : Qry} {mark : Int} {l : List Pm} (h : okTo q mark l l.length) : (l.map (·.p)).all (·.ok q mark) = true ∧ sortedP (l.map (·.p)) = true := by
  constructor
  · refine List.all_eq_true.2 fun p hp => ?_
    obtain ⟨m, hm, rfl⟩ := List.mem_map.1 hp
    obtain ⟨k, hk⟩ := List.getElem?_of_mem hm
    exact (h k m (List.getElem?_eq_some_iff.1 hk).1 hk).1
  · refine sortedP_iff.2 fun i a b ha hb => ?_
    rw [List.getElem?_map] at ha hb
    obtain ⟨x, hx, rfl⟩ := Option.map_eq_some_iff.1 ha
    obtain ⟨y, hy, rfl⟩ := Option.map_eq_some_iff.1 hb
    exact (h (i + 1) y (List.getElem?_eq_some_iff.1 hy).1 hy).2 i x rfl hx
theorem okTo_bad {q : Qry} {mark : Int} {l : List Pm} {i : Nat} {m : Pm} (hm : l[i]? = some m) (h : m.p.ok q mark = false) : (l.map (·.p)).all (·.ok q mark) = false := by
  rw [List.all_eq_false]
  exact ⟨m.p, List.mem_map.2 ⟨m, List.mem_of_getElem? hm, rfl⟩, by rw [h]; simp⟩
theorem okTo_place {l : List Pm} {i : Nat} {a m : Pm} (ha : l[i]? = some a) (hm : l[i + 1]? = some m) (h : 0 ≤ a.p.w.place m.p.w) : sortedP (l.map (·.p)) = false := by
  rw [Bool.eq_false_iff]
  intro hc
  have := sortedP_iff.1 hc i a.p m.p (by rw [List.getElem?_map, ha]; rfl) (by rw [List.getElem?_map, hm]; rfl)
  omega

set_option maxHeartbeats 4000000 in
set_option maxRecDepth 100000 in
theorem oper_right_early (q : Qry) (mark : Int) {v : Value} (l : List Pn) (w : World) (hv : PnsRO w v l) (hl : l.length ≤ 1073741824) (hb : (q.right && decide (-1 ≤ mark) && decide (mark ≤ 1099511627776) && decide (l.length ≤ 256)) = false) :
    Calls Tryz.prog 29 #[qyV q, .agg #[.int .i64 mark, v]] w fun e w' => e = .returned (.bool false) ∧ Below w.heap.size w w' := by
  obtain ⟨ms, rfl, ⟨ao, cap, rfl, hcap, -⟩, -⟩ := hv
  rw [List.length_map] at hl hb
  have kq := fun w' => query_right q w'
  obtain ⟨nq, hnq⟩ : ∃ r, q.right = r := ⟨_, rfl⟩
  rw [hnq] at hb
  simp only [hnq] at kq
  clear hnq
  have hc : nq = false ∨ (nq = true ∧ mark < -1) ∨ (nq = true ∧ ¬ mark < -1 ∧ 1099511627776 < mark) ∨ (nq = true ∧ ¬ mark < -1 ∧ ¬ 1099511627776 < mark ∧ 256 < ms.length) := by
    cases nq
    · exact .inl rfl
    · by_cases h1 : mark < -1
      · exact .inr (.inl ⟨rfl, h1⟩)
      · by_cases h2 : 1099511627776 < mark
        · exact .inr (.inr (.inl ⟨rfl, h1, h2⟩))
        · by_cases h3 : 256 < ms.length
          · exact .inr (.inr (.inr ⟨rfl, h1, h2, h3⟩))
          · simp at hb
            omega
  clear hb
  obtain ⟨kd, sz, sl, lt, ag, kk⟩ := q
  unfold qyV qyC at kq
  simp only at kq
  unfold qyV qyC
  simp only
  have H0 : St (fun _ => False) w _ [_] := (St.nil _ w).allocAt rfl #[.int .i64 kd, .int .i64 sz, .int .i64 sl, .int .i64 lt, .int .i64 ag, .int .i64 kk] 23
  have H : St (fun _ => False) w _ [_, _] := H0.allocAt (B := w.heap.size + 1) (Array.size_push _) #[.int .i64 mark, .slice ao ms.length cap] 45
  have c0 := H.cell 0 0 rfl rfl
  have c1 := H.cell 0 1 rfl rfl
  have d0 := H.cell 1 0 rfl rfl
  have d1 := H.cell 1 1 rfl rfl
  have d2 := H.cell 1 2 rfl rfl
  have d3 := H.cell 1 3 rfl rfl
  have d4 := H.cell 1 4 rfl rfl
  have d5 := H.cell 1 5 rfl rfl
  go_enter Tryz.func29, Tryz.ntmps29
  rcases hc with rfl | ⟨rfl, h1⟩ | ⟨rfl, h1, h2⟩ | ⟨rfl, h1, h2, h3⟩
  case' inr.inr.inr => have h3' : (256 : Int) < (ms.length : Int) := by omega
  all_goals
    go_wp2_with (go_at_call 60; go_must (refine (St.callPast (kq _) H).mono ?_; rintro e w2 ⟨rfl, H2⟩; clear c0 c1 d0 d1 d2 d3 d4 d5; have c0 := H2.cell 0 0 rfl rfl; have c1 := H2.cell 0 1 rfl rfl))
    go_ret
    exact ⟨rfl, H2.below (Nat.le_refl _) (fun _ h => h.elim)⟩

set_option maxHeartbeats 8000000 in
set_option maxRecDepth 100000 in
theorem oper_right_late (q : Qry) (mark : Int) {v : Value} (ms : List Pm) (w : World) (hv : encP.RO w v ms) (hro : ∀ m ∈ ms, IntsRO w m.hd m.p.g.top) (hf : ∀ m ∈ ms, m.p.fits) (hq : q.right = true) (h1 : -1 ≤ mark) (h2 : mark ≤ 1099511627776) (h3 : ms.length ≤ 256) :
    Calls Tryz.prog 29 #[qyV q, .agg #[.int .i64 mark, v]] w fun e w' => e = .returned (.bool ((ms.map (·.p)).all (·.ok q mark) && sortedP (ms.map (·.p)) && (decide (q.kind ≠ 3) || settledW ((ms.map (·.p)).map (·.w))))) ∧ Below w.heap.size w w' := by
  have kq := fun w' => query_right q w'
  rw [hq] at kq
  have hvh := Lib.hid hv
  obtain ⟨ao, cap, rfl, hcap, hic⟩ := hv
  have hich := Lib.hid hic
  have hroh := Lib.hid hro
  have hfh := Lib.hid hf
  clear hic hro hf hq
  obtain ⟨res, hres⟩ : ∃ r, ((ms.map (·.p)).all (·.ok q mark) && sortedP (ms.map (·.p)) && (decide (q.kind ≠ 3) || settledW ((ms.map (·.p)).map (·.w)))) = r := ⟨_, rfl⟩
  rw [hres]
  have hresh := Lib.hid hres
  clear hres
  have kp := Lib.hid (fun w' m (hm : m.p.fits) (hr : IntsRO w' m.hd m.p.g.top) => oper_pane q m mark w' hm hr)
  obtain ⟨ok, hok⟩ : ∃ f : Pm → Bool, (fun m : Pm => m.p.ok q mark) = f := ⟨_, rfl⟩
  have hokh := Lib.hid (fun m : Pm => congrFun hok m)
  clear hok
  have hlaw := Lib.hid (fun h => okTo_all (q := q) (mark := mark) (l := ms) h)
  obtain ⟨Q, hQ⟩ : ∃ Q, Q = q := ⟨_, rfl⟩
  have hQh := Lib.hid hQ
  clear hQ
  obtain ⟨kd, sz, sl, lt, ag, kk⟩ := q
  unfold qyV qyC at kq
  simp only at kq
  unfold qyV qyC
  simp only
  have H0 : St (fun _ => False) w _ [_] := (St.nil _ w).allocAt rfl #[.int .i64 kd, .int .i64 sz, .int .i64 sl, .int .i64 lt, .int .i64 ag, .int .i64 kk] 23
  have H : St (fun _ => False) w _ [_, _] := H0.allocAt (B := w.heap.size + 1) (Array.size_push _) #[.int .i64 mark, .slice ao ms.length cap] 45
  obtain ⟨b, hb⟩ : ∃ b, w.heap.size = b := ⟨_, rfl⟩
  obtain ⟨b2, hb2⟩ : ∃ b2, b + 1 = b2 := ⟨_, rfl⟩
  obtain ⟨w1, hw1⟩ : ∃ w1, (w.alloc (.cells #[.int .i64 kd, .int .i64 sz, .int .i64 sl, .int .i64 lt, .int .i64 ag, .int .i64 kk] 23)).alloc (.cells #[.int .i64 mark, .slice ao ms.length cap] 45) = w1 := ⟨_, rfl⟩
  go_enter Tryz.func29, Tryz.ntmps29
  go_upto_region 1 with (fail)
  rw [hw1, hb, hb2] at H
  try rw [hw1]
  try simp only [hb, hb2]
  have hbh := Lib.hid hb
  clear hw1 hb hb2 H0
  have c0 := H.cell 0 0 rfl rfl
  have c1 := H.cell 0 1 rfl rfl
  have d0 := H.cell 1 0 rfl rfl
  have d1 := H.cell 1 1 rfl rfl
  have d2 := H.cell 1 2 rfl rfl
  have d3 := H.cell 1 3 rfl rfl
  have d4 := H.cell 1 4 rfl rfl
  have d5 := H.cell 1 5 rfl rfl
  have z1 : ¬ mark < -1 := by omega
  have z2 : ¬ 1099511627776 < mark := by omega
  have z3 : ¬ (256 : Int) < (ms.length : Int) := by omega
  go_upto_block 1 with (go_at_call 60; go_must (refine (St.callPast (kq _) H).mono ?_; rintro e w2 ⟨rfl, H2⟩; clear c0 c1 d0 d1 d2 d3 d4 d5; have c0 := H2.cell 0 0 rfl rfl; have c1 := H2.cell 0 1 rfl rfl))
  clear H c0 c1 kq
  go_loopw [5, 6, 29] (fun _ _ j wr => ∃ (i : Nat), i ≤ ms.length ∧ j = .int .i64 i ∧ Hid (okTo ⟨kd, sz, sl, lt, ag, kk⟩ mark ms i) ∧ St (fun _ => False) w wr [Blk b2 #[.int .i64 mark, .slice ao ms.length cap] 45, Blk b #[.int .i64 kd, .int .i64 sz, .int .i64 sl, .int .i64 lt, .int .i64 ag, .int .i64 kk] 23]) (fun _ _ j _ => ms.length - (intOf j).toNat)
  case atStart => exact ⟨0, by omega, rfl, Lib.hid (fun k m hk => absurd hk (by omega)), H2⟩
  case round =>
    clear H2
    obtain ⟨i, hi, rfl, hg, HM⟩ := hrel
    by_cases hlt : i < ms.length
    · obtain ⟨bp, o, rfl, hb, hc⟩ := hich.out (by intro e; rw [e] at hlt; simp at hlt)
      obtain ⟨m, hm⟩ : ∃ m, ms[i]? = some m := ⟨_, List.getElem?_eq_getElem hlt⟩
      have hmm := List.mem_of_getElem? hm
      obtain ⟨q0, q1, q2, q3, q4, q5, q6, q7⟩ := pn_cells (hc i m hm) (HM.kept.block bp hb id)
      have hch := Lib.hid hc
      have hmh := Lib.hid hm
      have km := fun w' (hk : Kept (fun _ => False) w w') => kp.out w' m (hfh.out m hmm) ((hroh.out m hmm).later hk)
      obtain ⟨nk, hnk⟩ : ∃ r, m.p.ok ⟨kd, sz, sl, lt, ag, kk⟩ mark = r := ⟨_, rfl⟩
      rw [hnk] at km
      have hnkh := Lib.hid hnk
      clear hm hc hnk hmm
      have kpl := Lib.hid (fun (a : Pm) w' => wd_place a.p.w m.p.w w')
      obtain ⟨M, hM⟩ : ∃ M, M = m := ⟨_, rfl⟩
      have hMh := Lib.hid hM
      clear hM
      obtain ⟨⟨⟨xk, xf, xt⟩, ⟨gn, ga, gt, gx, gy⟩, xr⟩, xa, xc⟩ := m
      unfold textV at q0
      unfold Pm.hd at q5
      unfold qyV qyC pnV pnC Pm.hd textV at km
      simp only at q0 q1 q2 q3 q4 q5 q6 q7 km
      obtain ⟨X, hX⟩ : ∃ X, ib gx = X := ⟨_, rfl⟩
      obtain ⟨Y, hY⟩ : ∃ Y, ib gy = Y := ⟨_, rfl⟩
      obtain ⟨TL, hTL⟩ : ∃ n, gt.length = n := ⟨_, rfl⟩
      simp only [hX, hY, hTL] at km q5 q6
      clear hX hY hTL
      have c0 := HM.cell 0 0 rfl rfl
      have c1 := HM.cell 0 1 rfl rfl
      have HA : St (fun _ => False) w _ [_, _, _] := HM.allocAt rfl #[.string ⟨xk.toArray⟩, .int .i64 xf, .int .i64 xt, .int .i64 gn, .int .i64 ga, .slice xa TL xc, .complex .f64 X Y, .int .i64 xr] 68
      go_upto_region 6 with (fail)
      obtain ⟨wb, hwb⟩ : ∃ wb, wr.alloc (.cells #[.string ⟨xk.toArray⟩, .int .i64 xf, .int .i64 xt, .int .i64 gn, .int .i64 ga, .slice xa TL xc, .complex .f64 X Y, .int .i64 xr] 68) = wb := ⟨_, rfl⟩
      obtain ⟨yb, hyb⟩ : ∃ yb, wr.heap.size = yb := ⟨_, rfl⟩
      rw [hwb, hyb] at HA
      try rw [hwb]
      try simp only [hyb]
      have HA2 : St (fun _ => False) w wb [Blk yb #[.string ⟨xk.toArray⟩, .int .i64 xf, .int .i64 xt, .int .i64 gn, .int .i64 ga, .slice xa TL xc, .complex .f64 X Y, .int .i64 xr] 68, Blk b2 #[.int .i64 mark, .slice (some ⟨bp, o, none⟩) ms.length cap] 45, Blk b #[.int .i64 kd, .int .i64 sz, .int .i64 sl, .int .i64 lt, .int .i64 ag, .int .i64 kk] 23] := HA
      clear hwb hyb q0 q1 q2 q3 q4 q5 q6 q7 c0 c1 HM HA
      cases nk with
      | false =>
        refine wp_calm (fun w' => St (fun _ => False) w w' [Blk yb #[.string ⟨xk.toArray⟩, .int .i64 xf, .int .i64 xt, .int .i64 gn, .int .i64 ga, .slice xa TL xc, .complex .f64 X Y, .int .i64 xr] 68, Blk b2 #[.int .i64 mark, .slice (some ⟨bp, o, none⟩) ms.length cap] 45, Blk b #[.int .i64 kd, .int .i64 sz, .int .i64 sl, .int .i64 lt, .int .i64 ag, .int .i64 kk] 23]) (by kernel_rfl) (by kernel_rfl) (HA2.drew) ?_
        iterate 23 first
          | (apply calm_pass
             · rfl
             intro K hK
             go_simp
             refine hK _ ?_
             clear hK K)
          | (apply calm_step
             · rfl
             · intro w1 h1
               have c0 := h1.cell 0 0 rfl rfl
               have c1 := h1.cell 0 1 rfl rfl
               have c2 := h1.cell 0 2 rfl rfl
               have c3 := h1.cell 0 3 rfl rfl
               have c4 := h1.cell 0 4 rfl rfl
               have c5 := h1.cell 0 5 rfl rfl
               have c6 := h1.cell 0 6 rfl rfl
               have c7 := h1.cell 0 7 rfl rfl
               have e0 := h1.cell 1 0 rfl rfl
               have e1 := h1.cell 1 1 rfl rfl
               have d0 := h1.cell 2 0 rfl rfl
               have d1 := h1.cell 2 1 rfl rfl
               have d2 := h1.cell 2 2 rfl rfl
               have d3 := h1.cell 2 3 rfl rfl
               have d4 := h1.cell 2 4 rfl rfl
               have d5 := h1.cell 2 5 rfl rfl
               first
                 | (go_simp
                    first
                      | rfl
                      | exact ⟨rfl, h1⟩
                      | (go_at_call 76; with_reducible exact St.callPast (km w1 h1.kept) h1)
                   )
             intro K hK
             go_simp
             refine hK _ ?_
             clear hK K)
        refine calm_nil ?_
        intro w9 H9
        go_wp2
        go_ret
        have hr : res = false := by rw [← hresh.out, okTo_bad hmh.out hnkh.out]; simp
        exact ⟨ret_bool (by rw [hr]), H9.below (Nat.le_refl _) (fun _ h => h.elim)⟩
      | true =>
        rcases Nat.eq_zero_or_pos i with hi0 | hi0
        · subst hi0
          simp only [Int.natCast_zero]
          refine wp_calm (fun w' => St (fun _ => False) w w' [Blk yb #[.string ⟨xk.toArray⟩, .int .i64 xf, .int .i64 xt, .int .i64 gn, .int .i64 ga, .slice xa TL xc, .complex .f64 X Y, .int .i64 xr] 68, Blk b2 #[.int .i64 mark, .slice (some ⟨bp, o, none⟩) ms.length cap] 45, Blk b #[.int .i64 kd, .int .i64 sz, .int .i64 sl, .int .i64 lt, .int .i64 ag, .int .i64 kk] 23]) (by kernel_rfl) (by kernel_rfl) (HA2.drew) ?_
          iterate 23 first
            | (apply calm_pass
               · rfl
               intro K hK
               go_simp
               refine hK _ ?_
               clear hK K)
            | (apply calm_step
               · rfl
               · intro w1 h1
                 have c0 := h1.cell 0 0 rfl rfl
                 have c1 := h1.cell 0 1 rfl rfl
                 have c2 := h1.cell 0 2 rfl rfl
                 have c3 := h1.cell 0 3 rfl rfl
                 have c4 := h1.cell 0 4 rfl rfl
                 have c5 := h1.cell 0 5 rfl rfl
                 have c6 := h1.cell 0 6 rfl rfl
                 have c7 := h1.cell 0 7 rfl rfl
                 have e0 := h1.cell 1 0 rfl rfl
                 have e1 := h1.cell 1 1 rfl rfl
                 have d0 := h1.cell 2 0 rfl rfl
                 have d1 := h1.cell 2 1 rfl rfl
                 have d2 := h1.cell 2 2 rfl rfl
                 have d3 := h1.cell 2 3 rfl rfl
                 have d4 := h1.cell 2 4 rfl rfl
                 have d5 := h1.cell 2 5 rfl rfl
                 first
                   | (go_simp
                      first
                        | rfl
                        | exact ⟨rfl, h1⟩
                        | (go_at_call 76; with_reducible exact St.callPast (km w1 h1.kept) h1)
                     )
               intro K hK
               go_simp
               refine hK _ ?_
               clear hK K)
          refine calm_nil ?_
          intro w9 H9
          go_wp2
          go_roundw
          case rel =>
            refine ⟨1, by omega, by first | rfl | go_num, Lib.hid ?_, H9.pick [1, 2]⟩
            intro k m hk hm
            obtain rfl : k = 0 := by omega
            rw [hmh.out] at hm
            obtain rfl := Option.some.inj hm
            exact ⟨hnkh.out, fun j a hj => absurd hj (by omega)⟩
          case measure => simp [intOf]; omega
        · obtain ⟨k, hk⟩ : ∃ k, i = k + 1 := ⟨i - 1, by omega⟩
          have z4 : (0 : Int) < (i : Int) := by omega
          have n1 : IntKind.i64.wrap ((i : Int) - 1) = (k : Int) := by rw [IntKind.wrap_i64]; omega
          have n1' : (i : Int) - 1 = (k : Int) := by omega
          have n2 : IntKind.i64.wrap (k : Int) = (k : Int) := by rw [IntKind.wrap_i64]; omega
          have hkl : (k : Int) < (ms.length : Int) := by omega
          have hkl' : k < ms.length := by omega
          obtain ⟨a, ha⟩ : ∃ a, ms[k]? = some a := ⟨_, List.getElem?_eq_getElem hkl'⟩
          have ga1 := hch.out k a ha
          have kpa := kpl.out a
          obtain ⟨P, hP⟩ : ∃ P, a.p.w.place ⟨xk, xf, xt⟩ = P := ⟨_, rfl⟩
          simp only at kpa
          simp only [hP] at kpa
          have hPh := Lib.hid hP
          have hkh := Lib.hid hk
          have hah := Lib.hid ha
          clear hP hk ha
          obtain ⟨⟨⟨yk, yf, yt⟩, ⟨hn, hga, ht, hx, hy⟩, yr⟩, ya, yc⟩ := a
          unfold wdV wdC textV at kpa
          simp only at kpa
          by_cases hP0 : 0 ≤ P
          · have hP0' : ¬ P < 0 := by omega
            refine wp_calm (fun w' => St (fun _ => False) w w' [Blk yb #[.string ⟨xk.toArray⟩, .int .i64 xf, .int .i64 xt, .int .i64 gn, .int .i64 ga, .slice xa TL xc, .complex .f64 X Y, .int .i64 xr] 68, Blk b2 #[.int .i64 mark, .slice (some ⟨bp, o, none⟩) ms.length cap] 45, Blk b #[.int .i64 kd, .int .i64 sz, .int .i64 sl, .int .i64 lt, .int .i64 ag, .int .i64 kk] 23]) (by kernel_rfl) (by kernel_rfl) (HA2.drew) ?_
            iterate 23 first
              | (apply calm_pass
                 · rfl
                 intro K hK
                 go_simp
                 refine hK _ ?_
                 clear hK K)
              | (apply calm_step
                 · rfl
                 · intro w1 h1
                   have c0 := h1.cell 0 0 rfl rfl
                   have c1 := h1.cell 0 1 rfl rfl
                   have c2 := h1.cell 0 2 rfl rfl
                   have c3 := h1.cell 0 3 rfl rfl
                   have c4 := h1.cell 0 4 rfl rfl
                   have c5 := h1.cell 0 5 rfl rfl
                   have c6 := h1.cell 0 6 rfl rfl
                   have c7 := h1.cell 0 7 rfl rfl
                   have e0 := h1.cell 1 0 rfl rfl
                   have e1 := h1.cell 1 1 rfl rfl
                   have d0 := h1.cell 2 0 rfl rfl
                   have d1 := h1.cell 2 1 rfl rfl
                   have d2 := h1.cell 2 2 rfl rfl
                   have d3 := h1.cell 2 3 rfl rfl
                   have d4 := h1.cell 2 4 rfl rfl
                   have d5 := h1.cell 2 5 rfl rfl
                   obtain ⟨p0, p1, p2, -⟩ := pn_cells ga1 (h1.kept.block bp hb id)
                   unfold textV at p0
                   simp only at p0 p1 p2
                   first
                     | (go_simp
                        first
                          | rfl
                          | exact ⟨rfl, h1⟩
                          | (go_at_call 77; with_reducible exact St.callPast (kpa w1) h1)
                          | (go_at_call 76; with_reducible exact St.callPast (km w1 h1.kept) h1)
                       )
                 intro K hK
                 go_simp
                 refine hK _ ?_
                 clear hK K)
            refine calm_nil ?_
            intro w9 H9
            go_wp2
            go_ret
            have hr : res = false := by
              rw [← hresh.out, okTo_place hah.out (by rw [← hkh.out]; exact hmh.out) (by rw [hPh.out]; exact hP0)]
              simp
            exact ⟨ret_bool (by rw [hr]), H9.below (Nat.le_refl _) (fun _ h => h.elim)⟩
          · have hP0' : P < 0 := by omega
            refine wp_calm (fun w' => St (fun _ => False) w w' [Blk yb #[.string ⟨xk.toArray⟩, .int .i64 xf, .int .i64 xt, .int .i64 gn, .int .i64 ga, .slice xa TL xc, .complex .f64 X Y, .int .i64 xr] 68, Blk b2 #[.int .i64 mark, .slice (some ⟨bp, o, none⟩) ms.length cap] 45, Blk b #[.int .i64 kd, .int .i64 sz, .int .i64 sl, .int .i64 lt, .int .i64 ag, .int .i64 kk] 23]) (by kernel_rfl) (by kernel_rfl) (HA2.drew) ?_
            iterate 23 first
              | (apply calm_pass
                 · rfl
                 intro K hK
                 go_simp
                 refine hK _ ?_
                 clear hK K)
              | (apply calm_step
                 · rfl
                 · intro w1 h1
                   have c0 := h1.cell 0 0 rfl rfl
                   have c1 := h1.cell 0 1 rfl rfl
                   have c2 := h1.cell 0 2 rfl rfl
                   have c3 := h1.cell 0 3 rfl rfl
                   have c4 := h1.cell 0 4 rfl rfl
                   have c5 := h1.cell 0 5 rfl rfl
                   have c6 := h1.cell 0 6 rfl rfl
                   have c7 := h1.cell 0 7 rfl rfl
                   have e0 := h1.cell 1 0 rfl rfl
                   have e1 := h1.cell 1 1 rfl rfl
                   have d0 := h1.cell 2 0 rfl rfl
                   have d1 := h1.cell 2 1 rfl rfl
                   have d2 := h1.cell 2 2 rfl rfl
                   have d3 := h1.cell 2 3 rfl rfl
                   have d4 := h1.cell 2 4 rfl rfl
                   have d5 := h1.cell 2 5 rfl rfl
                   obtain ⟨p0, p1, p2, -⟩ := pn_cells ga1 (h1.kept.block bp hb id)
                   unfold textV at p0
                   simp only at p0 p1 p2
                   first
                     | (go_simp
                        first
                          | rfl
                          | exact ⟨rfl, h1⟩
                          | (go_at_call 77; with_reducible exact St.callPast (kpa w1) h1)
                          | (go_at_call 76; with_reducible exact St.callPast (km w1 h1.kept) h1)
                       )
                 intro K hK
                 go_simp
                 refine hK _ ?_
                 clear hK K)
            refine calm_nil ?_
            intro w9 H9
            go_wp2
            go_roundw
            case rel =>
              refine ⟨i + 1, by omega, by go_num, Lib.hid ?_, H9.pick [1, 2]⟩
              intro r m hr hm
              rcases Nat.lt_or_ge r i with h | h
              · exact hg.out r m h hm
              · obtain rfl : r = i := by omega
                rw [hmh.out] at hm
                obtain rfl := Option.some.inj hm
                exact ⟨hnkh.out, fun j a hj ha => by
                  have := hkh.out
                  obtain rfl : j = k := by omega
                  rw [hah.out] at ha
                  obtain rfl := Option.some.inj ha
                  simp only
                  rw [hPh.out]
                  exact hP0'⟩
            case measure => simp [intOf]; omega
    · obtain rfl : i = ms.length := by omega
      have hl := hlaw.out hg.out
      have hres2 : res = (decide (kd ≠ 3) || settledW ((ms.map (·.p)).map (·.w))) := by rw [← hresh.out, hl.1, hl.2]; simp
      have hres2h := Lib.hid hres2
      clear hl hres2
      have d0 := HM.cell 1 0 rfl rfl
      have c1 := HM.cell 0 1 rfl rfl
      by_cases hk3 : kd = 3
      · subst hk3
        have kw := fun w' (hk : Kept (fun _ => False) w w') => oper_windows (hvh.out.later hk) (by omega)
        have hwf : ∀ y ∈ ms.map (·.p.w), y.fits := fun y hy => by
          obtain ⟨m, hm, rfl⟩ := List.mem_map.1 hy
          exact (hfh.out m hm).1
        have hwfh := Lib.hid hwf
        have ks := fun w' v (hv : WdsRO w' v (ms.map (·.p.w))) => sess_settled w' hv (by rw [List.length_map]; omega)
        have es : stl (ms.map (·.p.w)) = res := by
          rw [hres2h.out, settledW_stl, List.map_map]
          simp [Function.comp_def]
        rw [es] at ks
        clear es hwf
        go_wp2_with (first
          | (go_at_call 79; go_must (refine (kw _ HM.kept).mono ?_; rintro e w5 ⟨v5, rfl, H5⟩; have H6 := HM.call0 H5))
          | (go_at_call 78; go_must (refine (ks _ _ (wds_own (H5.row 0 rfl) hwfh.out)).mono ?_; rintro e w6 ⟨rfl, hb6⟩)))
        go_ret
        exact ⟨rfl, (H6.past hb6).below (Nat.le_refl _) (fun _ h => h.elim)⟩
      · have hk3' : (kd == 3) = false := by simpa using hk3
        go_wp2
        go_ret
        have hr : res = true := by rw [hres2h.out]; simp [hk3]
        exact ⟨ret_bool (by rw [hr]), HM.below (Nat.le_refl _) (fun _ h => h.elim)⟩
theorem oper_right (q : Qry) (s : Stt) {v : Value} (w : World) (hv : PnsRO w v s.panes) (hl : s.panes.length ≤ 1073741824) (hf : ∀ p ∈ s.panes, p.fits) :
    Calls Tryz.prog 29 #[qyV q, .agg #[.int .i64 s.mark, v]] w fun e w' => e = .returned (.bool (s.right q)) ∧ Below w.heap.size w w' := by
  obtain ⟨mark, l⟩ := s
  simp only at hv hl hf
  rw [sright_eq]
  simp only
  by_cases hb : (q.right && decide (-1 ≤ mark) && decide (mark ≤ 1099511627776) && decide (l.length ≤ 256)) = true
  · rw [hb, Bool.true_and]
    simp only [Bool.and_eq_true, decide_eq_true_eq] at hb
    obtain ⟨⟨⟨h0, h1⟩, h2⟩, h3⟩ := hb
    obtain ⟨ms, rfl, hv, hro⟩ := hv
    rw [List.length_map] at h3
    exact oper_right_late q mark ms w hv hro (fun m hm => hf m.p (List.mem_map.2 ⟨m, hm, rfl⟩)) h0 h1 h2 h3
  · rw [Bool.not_eq_true] at hb
    rw [hb]
    simp only [Bool.false_and]
    exact oper_right_early q mark l w hv hl hb

end Go.Proofs.YtiglgfonhdfpmaaGreat

/- slices.BinarySearchFunc at panes, and the stepper's find. Condition: so many panes. -/
set_option linter.unusedVariables false
set_option linter.unusedSimpArgs false
namespace Go.Proofs.YtiglgfonhdfpmaaGreat
open Go.RowKit

set_option maxHeartbeats 2000000 in
set_option maxRecDepth 100000 in
theorem find_one (m : Pm) (x : Wd) (w : World) : Calls Tryz.prog 253 #[pnV m, wdV x] w fun e w' => e = .returned (.int .i64 (m.p.w.place x)) ∧ Below w.heap.size w w' := by
  have kp := fun w' => wd_place m.p.w x w'
  obtain ⟨P, hP⟩ : ∃ P, m.p.w.place x = P := ⟨_, rfl⟩
  rw [hP] at kp ⊢
  clear hP
  obtain ⟨⟨⟨xk, xf, xt⟩, ⟨gn, ga, gt, gx, gy⟩, xr⟩, xa, xc⟩ := m
  obtain ⟨yk, yf, yt⟩ := x
  unfold wdV wdC textV at kp
  unfold pnV pnC Pm.hd wdV wdC textV
  simp only at kp ⊢
  obtain ⟨X, hX⟩ : ∃ X, ib gx = X := ⟨_, rfl⟩
  obtain ⟨Y, hY⟩ : ∃ Y, ib gy = Y := ⟨_, rfl⟩
  obtain ⟨TL, hTL⟩ : ∃ n, gt.length = n := ⟨_, rfl⟩
  simp only [hX, hY, hTL]
  clear hX hY hTL
  have H0 : St (fun _ => False) w _ [_] := (St.nil _ w).allocAt rfl #[.string ⟨xk.toArray⟩, .int .i64 xf, .int .i64 xt, .int .i64 gn, .int .i64 ga, .slice xa TL xc, .complex .f64 X Y, .int .i64 xr] 68
  have H : St (fun _ => False) w _ [_, _] := H0.allocAt (B := w.heap.size + 1) (Array.size_push _) #[.string ⟨yk.toArray⟩, .int .i64 yf, .int .i64 yt] 61
  have c0 := H.cell 0 0 rfl rfl
  have c1 := H.cell 0 1 rfl rfl
  have c2 := H.cell 0 2 rfl rfl
  have d0 := H.cell 1 0 rfl rfl
  have d1 := H.cell 1 1 rfl rfl
  have d2 := H.cell 1 2 rfl rfl
  go_enter Tryz.func253, Tryz.ntmps253
  go_wp2_with (go_at_call 77; go_must (refine (St.callPast (kp _) H).mono ?_; rintro e w2 ⟨rfl, H2⟩))
  go_ret
  exact ⟨rfl, H2.below (Nat.le_refl _) (fun _ h => h.elim)⟩

/-- The place of a window among panes, and whether its pane is there. -/
def FoundP (k : Nat) (l : List Pm) (x : Wd) (e : Ending) : Prop := ∃ bv : Bool, e = .returned (.tuple #[.int .i64 k, .bool bv]) ∧ (bv = true ↔ ∃ m, l[k]? = some m ∧ m.p.w = x)
def find1V : Value := .func (.func 253) #[] #[]
set_option maxHeartbeats 4000000 in
set_option maxRecDepth 100000 in
theorem pns_search {v : Value} {l : List Pm} {x : Wd} {w : World} {k : Nat} (hv : encP.RO w v l) (hl : l.length ≤ 1073741824) (hk : k ≤ l.length)
    (hlo : ∀ (j : Nat) y, j < k → l[j]? = some y → y.p.w.place x < 0) (hhi : ∀ (j : Nat) y, k ≤ j → l[j]? = some y → 0 ≤ y.p.w.place x) :
    Calls Tryz.prog 252 #[v, wdV x, find1V] w fun e w' => FoundP k l x e ∧ Below w.heap.size w w' := by
  obtain ⟨ao, cap, rfl, hcap, hic⟩ := hv
  have kfind := Lib.hid (fun (z : Pm) w' => find_one z x w')
  have hzero := Lib.hid (fun (z : Pm) => (place_zero (a := z.p.w) (b := x)))
  obtain ⟨xx, hxx⟩ : ∃ xx, xx = x := ⟨_, rfl⟩
  have hxxh := Lib.hid hxx
  rw [← hxx]
  obtain ⟨xk, xf, xt⟩ := x
  have H0 : St (fun _ => False) w _ [_] := (St.nil (fun _ => False) w).allocAt rfl #[.string ⟨xk.toArray⟩, .int .i64 xf, .int .i64 xt] 61
  have hloh := Lib.hid hlo
  have hhih := Lib.hid hhi
  have hich := Lib.hid hic
  clear hlo hhi hic
  unfold find1V
  rw [hxx]
  clear hxx
  unfold wdV wdC textV
  simp only
  go_enter Tryz.func252, Tryz.ntmps252
  go_upto_region 1 with (fail)
  obtain ⟨wb, hwb⟩ : ∃ wb, w.alloc (.cells #[.string ⟨xk.toArray⟩, .int .i64 xf, .int .i64 xt] 61) = wb := ⟨_, rfl⟩
  obtain ⟨xb, hxb⟩ : ∃ xb, w.heap.size = xb := ⟨_, rfl⟩
  rw [hwb, hxb] at H0
  try rw [hwb]
  try simp only [hxb]
  have H1 : St (fun _ => False) w wb [Blk xb #[.string ⟨xk.toArray⟩, .int .i64 xf, .int .i64 xt] 61] := H0
  have hxbh := Lib.hid hxb
  clear hwb hxb H0
  go_upto_block 1 with (fail)
  go_loopw [9, 10, 11] (fun s u _ wr => ∃ (i j : Nat), s = .int .i64 i ∧ u = .int .i64 j ∧ i ≤ k ∧ k ≤ j ∧ j ≤ l.length ∧ St (fun _ => False) w wr [Blk xb #[.string ⟨xk.toArray⟩, .int .i64 xf, .int .i64 xt] 61]) (fun s u _ _ => (intOf u).toNat - (intOf s).toNat)
  case atStart => exact ⟨0, l.length, rfl, rfl, by omega, hk, by omega, H1⟩
  case round =>
    clear H1
    obtain ⟨i, j, rfl, rfl, hik, hkj, hjl, HM⟩ := hrel
    by_cases hlt : i < j
    · obtain ⟨b, o, rfl, hb, hc⟩ := hich.out (by intro e; rw [e] at hjl; simp at hjl; omega)
      have hhlt : i ≤ (i + j) / 2 ∧ (i + j) / 2 < j := by omega
      have wh : ((i : Int) + (j : Int)) / 2 = (((i + j) / 2 : Nat) : Int) := by omega
      obtain ⟨h, hh⟩ : ∃ h, (i + j) / 2 = h := ⟨_, rfl⟩
      rw [hh] at hhlt wh
      obtain ⟨z, hz⟩ : ∃ z, l[h]? = some z := ⟨_, List.getElem?_eq_getElem (by omega)⟩
      have g1 := hc h z hz
      have kp := kfind.out z
      have hhn : (h : Int) < (l.length : Int) := by omega
      have hhn' : h < l.length := by omega
      have hzh := Lib.hid hz
      obtain ⟨P, hP⟩ : ∃ P, z.p.w.place ⟨xk, xf, xt⟩ = P := ⟨_, rfl⟩
      simp only [hP] at kp
      have hPh := Lib.hid hP
      clear hh hz hc hP
      obtain ⟨⟨⟨zk, zf, zt⟩, ⟨gn, ga, gt, gx, gy⟩, zr⟩, za, zc⟩ := z
      unfold pnV pnC Pm.hd wdV wdC textV at kp
      simp only at kp
      obtain ⟨X, hX⟩ : ∃ X, ib gx = X := ⟨_, rfl⟩
      obtain ⟨Y, hY⟩ : ∃ Y, ib gy = Y := ⟨_, rfl⟩
      obtain ⟨TL, hTL⟩ : ∃ n, gt.length = n := ⟨_, rfl⟩
      simp only [hX, hY, hTL] at kp
      go_upto_region 5 with (fail)
      refine wp_calm (fun w' => St (fun _ => False) w w' [Blk xb #[.string ⟨xk.toArray⟩, .int .i64 xf, .int .i64 xt] 61]) (by kernel_rfl) (by kernel_rfl) (HM.drew) ?_
      iterate 8 first
        | (apply calm_pass
           · rfl
           intro K hK
           go_simp
           refine hK _ ?_
           clear hK K)
        | (apply calm_step
           · rfl
           · intro w1 h1
             have d0 := h1.cell 0 0 rfl rfl
             have d1 := h1.cell 0 1 rfl rfl
             have d2 := h1.cell 0 2 rfl rfl
             obtain ⟨p0, p1, p2, p3, p4, p5, p6, p7⟩ := pn_cells g1 (h1.kept.block b hb id)
             unfold textV at p0
             unfold Pm.hd at p5
             simp only [hX, hY, hTL] at p0 p1 p2 p3 p4 p5 p6 p7
             first
               | (go_simp
                  first
                    | rfl
                    | exact ⟨rfl, h1⟩
                    | (go_at_call 253; with_reducible exact St.callPast (kp w1) h1)
                 )
           intro K hK
           go_simp
           refine hK _ ?_
           clear hK K)
      refine calm_nil ?_
      intro w2 H2
      clear kp HM hX hY hTL
      by_cases hlt2 : P < 0
      · go_wp2
        go_roundw
        case rel =>
          refine ⟨h + 1, j, by go_num, rfl, ?_, by omega, hjl, H2⟩
          refine Classical.byContradiction fun hcc => ?_
          have := hhih.out h _ (by omega) hzh.out
          rw [hPh.out] at this
          omega
        case measure => simp [intOf]; omega
      · go_wp2
        go_roundw
        case rel =>
          refine ⟨i, h, rfl, by go_num, by omega, ?_, by omega, H2⟩
          refine Classical.byContradiction fun hcc => ?_
          have := hloh.out h _ (by omega) hzh.out
          rw [hPh.out] at this
          omega
        case measure => simp [intOf]; omega
    · obtain rfl : i = k := by omega
      obtain rfl : i = j := by omega
      by_cases hil : i < l.length
      · obtain ⟨b, o, rfl, hb, hc⟩ := hich.out (by intro e; rw [e] at hil; simp at hil)
        obtain ⟨z, hz⟩ : ∃ z, l[i]? = some z := ⟨_, List.getElem?_eq_getElem hil⟩
        have g1 := hc i z hz
        have kp := kfind.out z
        have hil' : (i : Int) < (l.length : Int) := by omega
        have hzh := Lib.hid hz
        have hz0 := hzero.out z
        obtain ⟨P, hP⟩ : ∃ P, z.p.w.place ⟨xk, xf, xt⟩ = P := ⟨_, rfl⟩
        simp only [hP] at kp
        rw [hP] at hz0
        have hz0h := Lib.hid hz0
        clear hz hc hP hz0
        obtain ⟨⟨⟨zk, zf, zt⟩, ⟨gn, ga, gt, gx, gy⟩, zr⟩, za, zc⟩ := z
        unfold pnV pnC Pm.hd wdV wdC textV at kp
        simp only at kp
        obtain ⟨X, hX⟩ : ∃ X, ib gx = X := ⟨_, rfl⟩
        obtain ⟨Y, hY⟩ : ∃ Y, ib gy = Y := ⟨_, rfl⟩
        obtain ⟨TL, hTL⟩ : ∃ n, gt.length = n := ⟨_, rfl⟩
        simp only [hX, hY, hTL] at kp
        obtain ⟨bz, hbz⟩ : ∃ bz, (P == 0) = bz := ⟨_, rfl⟩
        go_upto_region 8 with (fail)
        refine wp_calm (fun w' => St (fun _ => False) w w' [Blk xb #[.string ⟨xk.toArray⟩, .int .i64 xf, .int .i64 xt] 61]) (by kernel_rfl) (by kernel_rfl) (HM.drew) ?_
        iterate 16 first
          | (apply calm_pass
             · rfl
             intro K hK
             go_simp
             refine hK _ ?_
             clear hK K)
          | (apply calm_step
             · rfl
             · intro w1 h1
               have d0 := h1.cell 0 0 rfl rfl
               have d1 := h1.cell 0 1 rfl rfl
               have d2 := h1.cell 0 2 rfl rfl
               obtain ⟨p0, p1, p2, p3, p4, p5, p6, p7⟩ := pn_cells g1 (h1.kept.block b hb id)
               unfold textV at p0
               unfold Pm.hd at p5
               simp only [hX, hY, hTL] at p0 p1 p2 p3 p4 p5 p6 p7
               first
                 | (go_simp
                    first
                      | rfl
                      | exact ⟨rfl, h1⟩
                      | (go_at_call 253; with_reducible exact St.callPast (kp w1) h1)
                   )
             intro K hK
             go_simp
             refine hK _ ?_
             clear hK K)
        refine calm_nil ?_
        intro w2 H2
        go_wp2
        go_ret2
        refine ⟨⟨bz, rfl, ?_⟩, H2.below (Nat.le_refl _) (fun _ h => h.elim)⟩
        rw [← hbz, hzh.out]
        constructor
        · intro h
          exact ⟨_, rfl, hz0h.out.1 (by simpa using h)⟩
        · rintro ⟨m, h, h2⟩
          obtain rfl := Option.some.inj h
          simpa using hz0h.out.2 h2
      · have z1 : decide ((i : Int) < (l.length : Int)) = false := by simp; omega
        have z2 : decide (i < l.length) = false := by simp; omega
        go_upto_region 8 with (fail)
        refine wp_calm (fun w' => St (fun _ => False) w w' [Blk xb #[.string ⟨xk.toArray⟩, .int .i64 xf, .int .i64 xt] 61]) (by kernel_rfl) (by kernel_rfl) (HM.drew) ?_
        iterate 16 first
          | (apply calm_pass
             · rfl
             intro K hK
             go_simp
             refine hK _ ?_
             clear hK K)
          | (apply calm_step
             · rfl
             · intro w1 h1
               first
                 | (go_simp
                    first
                      | rfl
                      | exact ⟨rfl, h1⟩
                   )
             intro K hK
             go_simp
             refine hK _ ?_
             clear hK K)
        refine calm_nil ?_
        intro w2 H2
        go_wp2
        go_ret2
        refine ⟨⟨false, rfl, ?_⟩, H2.below (Nat.le_refl _) (fun _ h => h.elim)⟩
        rw [List.getElem?_eq_none (by omega)]
        simp
end Go.Proofs.YtiglgfonhdfpmaaGreat

/- slices.SortFunc as the kit's shelf lays it at this program (written by the kit's lay-plain.mjs; sortp.sh; seat YtiglgfonhdfpmaaGreat). -/
set_option linter.unusedVariables false
set_option linter.unusedSimpArgs false
namespace Go.Proofs.YtiglgfonhdfpmaaGreat
open Go.Shelf
def sh_sortI_ren : Go.Shelf.Ren := ⟨fun | 6 => 287 | 15 => 192 | 14 => 307 | 28 => 244 | 29 => 245 | 20 => 318 | 21 => 319 | 22 => 320 | 23 => 321 | 24 => 322 | 25 => 323 | 26 => 324 | 27 => 325 | 46 => 326 | 47 => 277 | 48 => 278 | 49 => 327 | 50 => 328 | 57 => 329 | n => n, fun | 22 => 33 | 24 => 3 | 25 => 148 | 3 => 3 | 39 => 236 | 0 => 0 | 53 => 301 | 55 => 235 | 4 => 4 | 46 => 295 | 45 => 294 | 50 => 161 | 5 => 5 | 9 => 9 | 66 => 327 | 70 => 245 | 76 => 348 | 77 => 93 | n => n, fun | n => n⟩
theorem sh_sortI : Go.Proofs.SlLaysF.n6 Tryz.prog sh_sortI_ren := {
  mixed := by kernel_rfl
  f6 := ⟨Tryz.f287.name, by decide, Tryz.func287.trans (congrArg some (by kernel_rfl))⟩
  f14 := ⟨Tryz.f307.name, by decide, Tryz.func307.trans (congrArg some (by kernel_rfl))⟩
  f15 := Tryz.func192.trans (congrArg some (by kernel_rfl))
  f20 := ⟨Tryz.f318.name, by decide, Tryz.func318.trans (congrArg some (by kernel_rfl))⟩
  f21 := ⟨Tryz.f319.name, by decide, Tryz.func319.trans (congrArg some (by kernel_rfl))⟩
  f22 := ⟨Tryz.f320.name, by decide, Tryz.func320.trans (congrArg some (by kernel_rfl))⟩
  f23 := ⟨Tryz.f321.name, by decide, Tryz.func321.trans (congrArg some (by kernel_rfl))⟩
  f24 := ⟨Tryz.f322.name, by decide, Tryz.func322.trans (congrArg some (by kernel_rfl))⟩
  f25 := ⟨Tryz.f323.name, by decide, Tryz.func323.trans (congrArg some (by kernel_rfl))⟩
  f26 := ⟨Tryz.f324.name, by decide, Tryz.func324.trans (congrArg some (by kernel_rfl))⟩
  f27 := ⟨Tryz.f325.name, by decide, Tryz.func325.trans (congrArg some (by kernel_rfl))⟩
  f28 := Tryz.func244.trans (congrArg some (by kernel_rfl))
  f29 := Tryz.func245.trans (congrArg some (by kernel_rfl))
  f46 := ⟨Tryz.f326.name, by decide, Tryz.func326.trans (congrArg some (by kernel_rfl))⟩
  f47 := Tryz.func277.trans (congrArg some (by kernel_rfl))
  f48 := Tryz.func278.trans (congrArg some (by kernel_rfl))
  f49 := ⟨Tryz.f327.name, by decide, Tryz.func327.trans (congrArg some (by kernel_rfl))⟩
  f50 := ⟨Tryz.f328.name, by decide, Tryz.func328.trans (congrArg some (by kernel_rfl))⟩
  f57 := ⟨Tryz.f329.name, by decide, Tryz.func329.trans (congrArg some (by kernel_rfl))⟩
  t0 := Tryz.underlying0
  a0 := Tryz.isAgg0
  z0 := Tryz.sizeOf0
  v0 := Tryz.zeroValue0
  t3 := Tryz.underlying3
  a3 := Tryz.isAgg3
  z3 := Tryz.sizeOf3
  v3 := Tryz.zeroValue3
  t4 := Tryz.underlying4
  a4 := Tryz.isAgg4
  z4 := Tryz.sizeOf4
  v4 := Tryz.zeroValue4
  t5 := Tryz.underlying5
  a5 := Tryz.isAgg5
  z5 := Tryz.sizeOf5
  v5 := Tryz.zeroValue5
  t9 := Tryz.underlying9
  a9 := Tryz.isAgg9
  z9 := Tryz.sizeOf9
  v9 := Tryz.zeroValue9
  t22 := Tryz.underlying33
  a22 := Tryz.isAgg33
  z22 := Tryz.sizeOf33
  v22 := Tryz.zeroValue33
  a24 := Tryz.isAgg3
  z24 := Tryz.sizeOf3
  t25 := Tryz.underlying148
  a25 := Tryz.isAgg148
  z25 := Tryz.sizeOf148
  v25 := Tryz.zeroValue148
  t39 := Tryz.underlying236
  a39 := Tryz.isAgg236
  z39 := Tryz.sizeOf236
  v39 := Tryz.zeroValue236
  t45 := Tryz.underlying294
  a45 := Tryz.isAgg294
  z45 := Tryz.sizeOf294
  v45 := Tryz.zeroValue294
  t46 := Tryz.underlying295
  a46 := Tryz.isAgg295
  z46 := Tryz.sizeOf295
  v46 := Tryz.zeroValue295
  t50 := Tryz.underlying161
  a50 := Tryz.isAgg161
  z50 := Tryz.sizeOf161
  v50 := Tryz.zeroValue161
  t53 := Tryz.underlying301
  a53 := Tryz.isAgg301
  z53 := Tryz.sizeOf301
  v53 := Tryz.zeroValue301
  t55 := Tryz.underlying235
  a55 := Tryz.isAgg235
  z55 := Tryz.sizeOf235
  v55 := Tryz.zeroValue235
  t66 := Tryz.underlying327
  a66 := Tryz.isAgg327
  z66 := Tryz.sizeOf327
  v66 := Tryz.zeroValue327
  t70 := Tryz.underlying245
  a70 := Tryz.isAgg245
  z70 := Tryz.sizeOf245
  v70 := Tryz.zeroValue245
  t76 := Tryz.underlying348
  a76 := Tryz.isAgg348
  z76 := Tryz.sizeOf348
  v76 := Tryz.zeroValue348
  t77 := Tryz.underlying93
  a77 := Tryz.isAgg93
  z77 := Tryz.sizeOf93
  v77 := Tryz.zeroValue93 }
def sh_sortP_ren : Go.Shelf.Ren := ⟨fun | 6 => 130 | 15 => 192 | 14 => 191 | 28 => 244 | 29 => 245 | 20 => 236 | 21 => 237 | 22 => 238 | 23 => 239 | 24 => 240 | 25 => 241 | 26 => 242 | 27 => 243 | 46 => 276 | 47 => 277 | 48 => 278 | 49 => 279 | 50 => 280 | 57 => 303 | n => n, fun | 22 => 197 | 24 => 198 | 25 => 201 | 3 => 3 | 39 => 236 | 0 => 0 | 53 => 301 | 55 => 235 | 4 => 4 | 46 => 295 | 45 => 294 | 50 => 161 | 5 => 5 | 9 => 9 | 66 => 327 | 70 => 245 | 76 => 348 | 77 => 93 | n => n, fun | n => n⟩
theorem sh_sortP : Go.Proofs.SlLaysF.n6 Tryz.prog sh_sortP_ren := {
  mixed := by kernel_rfl
  f6 := ⟨Tryz.f130.name, by decide, Tryz.func130.trans (congrArg some (by kernel_rfl))⟩
  f14 := ⟨Tryz.f191.name, by decide, Tryz.func191.trans (congrArg some (by kernel_rfl))⟩
  f15 := Tryz.func192.trans (congrArg some (by kernel_rfl))
  f20 := ⟨Tryz.f236.name, by decide, Tryz.func236.trans (congrArg some (by kernel_rfl))⟩
  f21 := ⟨Tryz.f237.name, by decide, Tryz.func237.trans (congrArg some (by kernel_rfl))⟩
  f22 := ⟨Tryz.f238.name, by decide, Tryz.func238.trans (congrArg some (by kernel_rfl))⟩
  f23 := ⟨Tryz.f239.name, by decide, Tryz.func239.trans (congrArg some (by kernel_rfl))⟩
  f24 := ⟨Tryz.f240.name, by decide, Tryz.func240.trans (congrArg some (by kernel_rfl))⟩
  f25 := ⟨Tryz.f241.name, by decide, Tryz.func241.trans (congrArg some (by kernel_rfl))⟩
  f26 := ⟨Tryz.f242.name, by decide, Tryz.func242.trans (congrArg some (by kernel_rfl))⟩
  f27 := ⟨Tryz.f243.name, by decide, Tryz.func243.trans (congrArg some (by kernel_rfl))⟩
  f28 := Tryz.func244.trans (congrArg some (by kernel_rfl))
  f29 := Tryz.func245.trans (congrArg some (by kernel_rfl))
  f46 := ⟨Tryz.f276.name, by decide, Tryz.func276.trans (congrArg some (by kernel_rfl))⟩
  f47 := Tryz.func277.trans (congrArg some (by kernel_rfl))
  f48 := Tryz.func278.trans (congrArg some (by kernel_rfl))
  f49 := ⟨Tryz.f279.name, by decide, Tryz.func279.trans (congrArg some (by kernel_rfl))⟩
  f50 := ⟨Tryz.f280.name, by decide, Tryz.func280.trans (congrArg some (by kernel_rfl))⟩
  f57 := ⟨Tryz.f303.name, by decide, Tryz.func303.trans (congrArg some (by kernel_rfl))⟩
  t0 := Tryz.underlying0
  a0 := Tryz.isAgg0
  z0 := Tryz.sizeOf0
  v0 := Tryz.zeroValue0
  t3 := Tryz.underlying3
  a3 := Tryz.isAgg3
  z3 := Tryz.sizeOf3
  v3 := Tryz.zeroValue3
  t4 := Tryz.underlying4
  a4 := Tryz.isAgg4
  z4 := Tryz.sizeOf4
  v4 := Tryz.zeroValue4
  t5 := Tryz.underlying5
  a5 := Tryz.isAgg5
  z5 := Tryz.sizeOf5
  v5 := Tryz.zeroValue5
  t9 := Tryz.underlying9
  a9 := Tryz.isAgg9
  z9 := Tryz.sizeOf9
  v9 := Tryz.zeroValue9
  t22 := Tryz.underlying197
  a22 := Tryz.isAgg197
  z22 := Tryz.sizeOf197
  v22 := Tryz.zeroValue197
  a24 := Tryz.isAgg198
  z24 := Tryz.sizeOf198
  t25 := Tryz.underlying201
  a25 := Tryz.isAgg201
  z25 := Tryz.sizeOf201
  v25 := Tryz.zeroValue201
  t39 := Tryz.underlying236
  a39 := Tryz.isAgg236
  z39 := Tryz.sizeOf236
  v39 := Tryz.zeroValue236
  t45 := Tryz.underlying294
  a45 := Tryz.isAgg294
  z45 := Tryz.sizeOf294
  v45 := Tryz.zeroValue294
  t46 := Tryz.underlying295
  a46 := Tryz.isAgg295
  z46 := Tryz.sizeOf295
  v46 := Tryz.zeroValue295
  t50 := Tryz.underlying161
  a50 := Tryz.isAgg161
  z50 := Tryz.sizeOf161
  v50 := Tryz.zeroValue161
  t53 := Tryz.underlying301
  a53 := Tryz.isAgg301
  z53 := Tryz.sizeOf301
  v53 := Tryz.zeroValue301
  t55 := Tryz.underlying235
  a55 := Tryz.isAgg235
  z55 := Tryz.sizeOf235
  v55 := Tryz.zeroValue235
  t66 := Tryz.underlying327
  a66 := Tryz.isAgg327
  z66 := Tryz.sizeOf327
  v66 := Tryz.zeroValue327
  t70 := Tryz.underlying245
  a70 := Tryz.isAgg245
  z70 := Tryz.sizeOf245
  v70 := Tryz.zeroValue245
  t76 := Tryz.underlying348
  a76 := Tryz.isAgg348
  z76 := Tryz.sizeOf348
  v76 := Tryz.zeroValue348
  t77 := Tryz.underlying93
  a77 := Tryz.isAgg93
  z77 := Tryz.sizeOf93
  v77 := Tryz.zeroValue93 }
end Go.Proofs.YtiglgfonhdfpmaaGreat

/- What the shelf's sort leaves of an own row. Laws over any program. -/
set_option linter.unusedVariables false
set_option linter.unusedSimpArgs false
namespace Go.Proofs.YtiglgfonhdfpmaaGreat
open Go.RowKit Go.Sort

theorem putCells_list {α : Type} [Inhabited α] (enc : α → Value) (d : Array α) (cs : List Value) (hs : d.size ≤ cs.length) : putCells enc 0 d cs.toArray = ((d.toList.map enc) ++ cs.drop d.size).toArray := by
  apply Array.ext_getElem?
  intro k
  unfold putCells
  simp only [Array.getElem?_mapIdx, List.getElem?_toArray, Nat.zero_le, true_and, Nat.zero_add, Nat.sub_zero]
  by_cases hk : k < d.size
  · rw [List.getElem?_append_left (by simpa using hk), List.getElem?_map, List.getElem?_eq_getElem (l := d.toList) (by simpa using hk), List.getElem?_eq_getElem (l := cs) (by omega)]
    simp only [Option.map_some, hk, if_true]
    rw [getElem!_pos d k hk, Array.getElem_toList]
  · rw [List.getElem?_append_right (by simp; omega), List.length_map, Array.length_toList, List.getElem?_drop, show d.size + (k - d.size) = k by omega]
    cases cs[k]? with
    | none => rfl
    | some x => simp [hk]
theorem sort_world {α : Type} [Inhabited α] (enc : α → Value) {w : World} {g : Nat} {cs : List Value} {t : TypeId} (h : w.heap[g]? = some (.cells cs.toArray t (0, 0))) (m : Nat) (d : Array α) (os : Array Obj) (hs : d.size ≤ cs.length) :
    (sortWorld enc w g 0 m d os).heap[g]? = some (.cells ((d.toList.map enc) ++ cs.drop d.size).toArray t (0, 0)) ∧ Kept (· = g) w (sortWorld enc w g 0 m d os) := by
  have hlt := blk_lt h
  have hp : (sortWorld enc w g 0 m d os).heap = w.heap.modify g (onCells (putCells enc 0 d)) ++ os := rfl
  refine ⟨?_, ⟨rfl, rfl, rfl, ?_, fun k hk hne => ?_⟩⟩
  · rw [hp, Array.getElem?_append_left (by simpa using hlt), Array.getElem?_modify, if_pos rfl, h, Option.map_some]
    show some (Obj.cells (putCells enc 0 d cs.toArray) t (0, 0)) = _
    rw [putCells_list enc d cs hs]
  · rw [hp]; simp
  · rw [hp, Array.getElem?_append_left (by simpa using hk), Array.getElem?_modify, if_neg (by omega)]
theorem St.sorted {α : Type} [Inhabited α] {S : Nat → Prop} {w0 w : World} {l : List SP} (enc : α → Value) (h : St S w0 w l) (i : Nat) {e : TypeId} {g n cap : Nat} {d d' : Array α} (hi : l[i]? = some (Row e 1 (.slice (some ⟨g, 0, none⟩) n cap) n (d.toList.map enc))) (hn : n ≠ 0) (hd : d'.size = n) (m : Nat) (os : Array Obj) :
    St S w0 (sortWorld enc w g 0 m d' os) (l.set i (Row e 1 (.slice (some ⟨g, 0, none⟩) n cap) n (d'.toList.map enc))) := by
  obtain ⟨g', cap', R, hv, hnc, hcm, hxl, hcs, HB⟩ := h.row_blk i hi hn
  simp only [Value.slice.injEq, Option.some.injEq, Addr.mk.injEq, and_true, true_and] at hv
  obtain ⟨rfl, rfl⟩ := hv
  have hl : i < l.length := by
    rcases Nat.lt_or_ge i l.length with h | h
    · exact h
    · rw [List.getElem?_eq_none h] at hi; cases hi
  have hi2 : (l.set i (Blk g (d.toList.map enc ++ R).toArray e))[i]? = some (Blk g (d.toList.map enc ++ R).toArray e) := List.getElem?_set_self hl
  obtain ⟨S1, h1, h2⟩ := HB.turn i hi2
  have hds : d'.size ≤ (d.toList.map enc ++ R).length := by rw [hd, List.length_append]; omega
  obtain ⟨k1, k2⟩ := sort_world enc h1.1 m d' os hds
  have H2 := h2 (w' := sortWorld enc w g 0 m d' os) (A' := Blk g ((d'.toList.map enc) ++ (d.toList.map enc ++ R).drop d'.size).toArray e) (S1' := S1) (k2.mono (fun k _ e => (h1.2 k).2 e)) ⟨k1, h1.2⟩ (fun _ a => .inl a)
  rw [List.set_set] at H2
  have hln : ((d'.toList.map enc) ++ (d.toList.map enc ++ R).drop d'.size).length = cap * 1 := by
    rw [List.length_append, List.length_drop, List.length_map, Array.length_toList]
    omega
  have H3 := H2.blk_row i (e := e) (size := 1) (cap := cap) (n := n) (cs := (d'.toList.map enc) ++ (d.toList.map enc ++ R).drop d'.size) (xs := d'.toList.map enc) (List.getElem?_set_self hl) hnc hcm hln (by rw [List.take_append_of_le_length (by simp; omega), List.take_of_length_le (by simp; omega)])
  rwa [List.set_set] at H3

end Go.Proofs.YtiglgfonhdfpmaaGreat

/- slices.SortFunc at ints, falling: agg.Merge$1. -/
set_option linter.unusedVariables false
set_option linter.unusedSimpArgs false
namespace Go.Proofs.YtiglgfonhdfpmaaGreat
open Go.RowKit Go.Sort

set_option maxRecDepth 100000 in
theorem merge_cmp (x y : Int) (w : World) : Calls Tryz.prog 288 #[.int .i64 x, .int .i64 y] w fun e w' => e = .returned (.int .i64 (Lib.compareInt y x)) ∧ w' = w := by
  have kc := fun w' => cmp_Compare_int y x w'
  go_enter Tryz.func288, Tryz.ntmps288
  go_wp2_with (go_at_call 145; go_must (refine (kc _).mono ?_; rintro e w2 ⟨rfl, rfl⟩))
  go_ret
  exact ⟨rfl, rfl⟩
def fallC (x y : Int) : Int := Lib.compareInt y x
theorem lt_fallC (x y : Int) : ltOf fallC x y = decide (y < x) := by
  unfold ltOf fallC Lib.compareInt
  split
  · simp; omega
  · split
    · simp; omega
    · simp; omega
theorem swo_fallC : SWO (ltOf fallC) := by
  refine ⟨fun x => ?_, fun x y z h1 h2 => ?_, fun x y z h1 h2 => ?_⟩
  · rw [lt_fallC]; simp
  · rw [lt_fallC, decide_eq_true_eq] at *; omega
  · rw [lt_fallC, decide_eq_false_iff_not] at *; omega
def encI (x : Int) : Value := .int .i64 x
theorem fall_of_sorted {d : Array Int} (h : SortedIn (ltOf fallC) 0 d.size d) : Fall d.toList := by
  unfold Fall
  rw [List.pairwise_iff_getElem]
  intro i j hi hj hij
  have h1 := h i j (Nat.zero_le _) hij (by simpa using hj)
  rw [lt_fallC, decide_eq_false_iff_not, getElem!_pos d i (by simpa using hi), getElem!_pos d j (by simpa using hj)] at h1
  simp only [Array.getElem_toList]
  omega
theorem ints_sort {S : Nat → Prop} {w0 w : World} {L : List SP} (H : St S w0 w L) (i : Nat) {g n cap : Nat} {l : List Int} (hi : L[i]? = some (Row 3 1 (.slice (some ⟨g, 0, none⟩) n cap) n (intCells l))) (hn : n ≠ 0) (hl : n ≤ 1073741824) :
    Calls Tryz.prog 287 #[.slice (some ⟨g, 0, none⟩) n cap, .func (.func 288) #[] #[]] w fun e w' => e = .returned (.tuple #[]) ∧ St S w0 w' (L.set i (Row 3 1 (.slice (some ⟨g, 0, none⟩) n cap) n (intCells (sortD l)))) := by
  obtain ⟨d, rfl⟩ : ∃ d : Array Int, l = d.toList := ⟨l.toArray, by simp⟩
  have hln : d.size = n := by
    obtain ⟨_, _, _, hv, _, _, hx, _⟩ := H.row_blk i hi hn
    simp [intCells] at hx
    omega
  subst hln
  have hli : i < L.length := by
    rcases Nat.lt_or_ge i L.length with h | h
    · exact h
    · rw [List.getElem?_eq_none h] at hi; cases hi
  obtain ⟨g', cap', R, hv, hnc, hcm, hxl, hcs, HB⟩ := H.row_blk i hi hn
  simp only [Value.slice.injEq, Option.some.injEq, Addr.mk.injEq, and_true, true_and] at hv
  obtain ⟨rfl, rfl⟩ := hv
  have hblk := HB.blk i (List.getElem?_set_self hli)
  refine (Any.slices_SortFunc sh_sortI encI (fun _ => rfl) fallC swo_fallC 288 #[] g 0 cap d w (enters_of Tryz.func288 (by kernel_rfl) rfl) (CmpReads.lays fun m os dk hdk x y => (merge_cmp x y _).mono fun e w' ⟨h1, h2⟩ => ⟨h1, 0, h2⟩) (fun j hj => ⟨?_, ?_⟩) (blk_lt hblk) (by omega)).mono ?_
  · rw [Nat.zero_add, getElem!_pos d j hj]
    refine cell_blk' hblk ?_
    simp [intCells, encI, List.getElem?_append, hj]
  · exact free_blk hblk _
  · rintro e w' ⟨rfl, d', m, os, ⟨h1, -, h3⟩, h4, rfl⟩
    refine ⟨rfl, ?_⟩
    rw [← h1] at h4
    have hp : d'.toList.Perm d.toList := by
      rw [← h1, Array.extract_size] at h3
      rw [h1, Array.extract_size] at h3
      exact h3
    rw [sortD_is (fall_of_sorted h4) hp]
    exact H.sorted encI i hi hn h1 m os

end Go.Proofs.YtiglgfonhdfpmaaGreat
