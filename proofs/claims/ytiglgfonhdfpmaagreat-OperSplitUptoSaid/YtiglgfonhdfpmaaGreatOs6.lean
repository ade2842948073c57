import Derived.Test.YtiglgfonhdfpmaaGreatOs1
import Derived.Test.YtiglgfonhdfpmaaGreatOs2
import Derived.Test.YtiglgfonhdfpmaaGreatOs3
import Derived.Test.YtiglgfonhdfpmaaGreatOs4
import Derived.Test.YtiglgfonhdfpmaaGreatOs5
import Derived.Deep.CutBlock
import Derived.Lib.ItoaNum
import Derived.Lib.AtoiAll
import Derived.Lib.Split
import Derived.Lib.SplitLaws
import Derived.Lib.IndexLaws
import Derived.Lib.CountLaws
/- The walks of wins.Compare, Ripe, Gone; ref08.Gone. Conditions: that windows fit. -/
set_option linter.unusedVariables false
set_option linter.unusedSimpArgs false
namespace Go.Proofs.YtiglgfonhdfpmaaGreat
open Go.RowKit

theorem order_or (a b : Wd) : orI [Lib.compareInt a.to b.to, Lib.compareInt a.frm b.frm, Lib.compareBytes a.key b.key] = a.cmp b := by
  unfold Wd.cmp orI
  by_cases h1 : Lib.compareInt a.to b.to = 0
  · by_cases h2 : Lib.compareInt a.frm b.frm = 0
    · by_cases h3 : Lib.compareBytes a.key b.key = 0 <;> simp [h1, h2, h3]
    · simp [h1, h2]
  · simp [h1]
set_option maxHeartbeats 2000000 in
set_option maxRecDepth 100000 in
theorem wd_ripe (x : Wd) (hx : x.fits) (mark : Int) (w : World) : Calls Tryz.prog 129 #[wdV x, .int .i64 mark] w fun e w' => e = .returned (.bool (x.ripe mark)) ∧ Below w.heap.size w w' := by
  have kr := fun w' => wd_right x hx w'
  have hr0 : x.ripe mark = (x.right && decide (x.to ≤ mark)) := rfl
  obtain ⟨nm, hnm⟩ : ∃ nm, x.right = nm := ⟨_, rfl⟩
  rw [hnm] at kr hr0
  clear hnm
  obtain ⟨key, f, u⟩ := x
  have H : St (fun _ => False) w _ [_] := (St.nil (fun _ => False) w).allocAt rfl #[.string ⟨key.toArray⟩, .int .i64 f, .int .i64 u] 61
  simp only at hr0
  have hr := Lib.hid hr0
  unfold wdV wdC textV at kr
  simp only at kr
  unfold wdV wdC textV
  simp only
  have c0 := H.cell 0 0 rfl rfl
  have c1 := H.cell 0 1 rfl rfl
  have c2 := H.cell 0 2 rfl rfl
  go_enter Tryz.func129, Tryz.ntmps129
  cases nm <;> (
    go_wp2_with (go_at_call 146; go_must (refine (St.callPast (kr _) H).mono ?_; rintro e w2 ⟨rfl, H2⟩; clear c0 c1 c2; have c2 := H2.cell 0 2 rfl rfl))
    go_ret
    rw [hr.out]
    exact ⟨ret_bool (by simp), H2.below (Nat.le_refl _) (fun _ h => h.elim)⟩)
set_option maxHeartbeats 2000000 in
set_option maxRecDepth 100000 in
theorem wd_gone (q : Qry) (x : Wd) (hx : x.fits) (mark : Int) (w : World) : Calls Tryz.prog 136 #[qyV q, wdV x, .int .i64 mark] w fun e w' => e = .returned (.bool (x.gone q mark)) ∧ Below w.heap.size w w' := by
  have kr := fun w' => wd_right x hx w'
  have kq := fun w' => query_right q w'
  have hr0 : x.gone q mark = (x.right && q.right && decide (x.to + q.late ≤ mark)) := rfl
  have hn : x.right = true → q.right = true → IntKind.i64.wrap (x.to + q.late) = x.to + q.late := fun h1 h2 => by
    unfold Wd.right at h1
    unfold Qry.right at h2
    simp only [Bool.and_eq_true, decide_eq_true_eq] at h1 h2
    rw [IntKind.wrap_i64]
    omega
  obtain ⟨nm, hnm⟩ : ∃ nm, x.right = nm := ⟨_, rfl⟩
  obtain ⟨nq, hnq⟩ : ∃ nq, q.right = nq := ⟨_, rfl⟩
  rw [hnm] at kr hr0 hn
  rw [hnq] at kq hr0 hn
  clear hnm hnq
  obtain ⟨kd, sz, sl, lt, ag, kk⟩ := q
  obtain ⟨key, f, u⟩ := x
  simp only at hr0 hn
  have hr := Lib.hid hr0
  clear hr0
  unfold wdV wdC textV at kr
  unfold qyV qyC at kq
  simp only at kr kq
  unfold qyV qyC wdV wdC textV
  simp only
  obtain ⟨b, hb⟩ : ∃ g, w.heap.size = g := ⟨_, rfl⟩
  obtain ⟨b2, hb2⟩ : ∃ b2, b + 1 = b2 := ⟨_, rfl⟩
  have H0 : St (fun _ => False) w _ [_] := (St.nil _ w).allocAt hb #[.int .i64 kd, .int .i64 sz, .int .i64 sl, .int .i64 lt, .int .i64 ag, .int .i64 kk] 23
  have H := H0.allocAt (B := b2) (by rw [← hb2, ← hb]; exact Array.size_push _) #[.string ⟨key.toArray⟩, .int .i64 f, .int .i64 u] 61
  obtain ⟨w1, hw1⟩ : ∃ w1, (w.alloc (.cells #[.int .i64 kd, .int .i64 sz, .int .i64 sl, .int .i64 lt, .int .i64 ag, .int .i64 kk] 23)).alloc (.cells #[.string ⟨key.toArray⟩, .int .i64 f, .int .i64 u] 61) = w1 := ⟨_, rfl⟩
  rw [hw1] at H
  go_enter Tryz.func136, Tryz.ntmps136
  go_upto_region 1 with (fail)
  try simp only [hb, hb2]
  try rw [hw1]
  clear hw1 hb hb2 H0
  have c0 := H.cell 0 0 rfl rfl
  have c1 := H.cell 0 1 rfl rfl
  have c2 := H.cell 0 2 rfl rfl
  have d0 := H.cell 1 0 rfl rfl
  cases nm with
  | false =>
    clear hn
    go_wp2_with (go_at_call 146; go_must (refine (St.callPast (kr _) H).mono ?_; clear c0 c1 c2 d0 H; rintro e w2 ⟨rfl, H⟩))
    go_ret
    rw [hr.out]
    exact ⟨ret_bool (by simp), H.below (Nat.le_refl _) (fun _ h => h.elim)⟩
  | true =>
    cases nq with
    | false =>
      clear hn
      go_wp2_with (first
        | (go_at_call 146; go_must (refine (St.callPast (kr _) H).mono ?_; clear c0 c1 c2 d0 H; rintro e w2 ⟨rfl, H⟩; have d0 := H.cell 1 0 rfl rfl; have d1 := H.cell 1 1 rfl rfl; have d2 := H.cell 1 2 rfl rfl; have d3 := H.cell 1 3 rfl rfl; have d4 := H.cell 1 4 rfl rfl; have d5 := H.cell 1 5 rfl rfl))
        | (go_at_call 60; go_must (refine (St.callPast (kq _) H).mono ?_; clear d0 d1 d2 d3 d4 d5 H; rintro e w3 ⟨rfl, H⟩)))
      go_ret
      rw [hr.out]
      exact ⟨ret_bool (by simp), H.below (Nat.le_refl _) (fun _ h => h.elim)⟩
    | true =>
      have hn := hn rfl rfl
      go_wp2_with (first
        | (go_at_call 146; go_must (refine (St.callPast (kr _) H).mono ?_; clear c0 c1 c2 d0 H; rintro e w2 ⟨rfl, H⟩; have d0 := H.cell 1 0 rfl rfl; have d1 := H.cell 1 1 rfl rfl; have d2 := H.cell 1 2 rfl rfl; have d3 := H.cell 1 3 rfl rfl; have d4 := H.cell 1 4 rfl rfl; have d5 := H.cell 1 5 rfl rfl))
        | (go_at_call 60; go_must (refine (St.callPast (kq _) H).mono ?_; clear d0 d1 d2 d3 d4 d5 H; rintro e w3 ⟨rfl, H⟩; have c2 := H.cell 0 2 rfl rfl; have d3 := H.cell 1 3 rfl rfl)))
      go_ret
      rw [hr.out]
      exact ⟨ret_bool (by simp), H.below (Nat.le_refl _) (fun _ h => h.elim)⟩

end Go.Proofs.YtiglgfonhdfpmaaGreat

/- slices.Index and Contains at windows; wins.Has. Condition: so many. -/
set_option linter.unusedVariables false
set_option linter.unusedSimpArgs false
namespace Go.Proofs.YtiglgfonhdfpmaaGreat
open Go.RowKit

set_option maxHeartbeats 2000000 in
set_option maxRecDepth 100000 in
theorem wds_index {v : Value} {l : List Wd} (x : Wd) {w : World} (hv : WdsRO w v l) (hl : l.length ≤ 1073741824) :
    Calls Tryz.prog 256 #[v, wdV x] w fun e w' => ∃ r : Int, e = .returned (.int .i64 r) ∧ ((r = -1 ∧ ∀ y ∈ l, y ≠ x) ∨ (0 ≤ r ∧ x ∈ l)) ∧ Below w.heap.size w w' := by
  obtain ⟨ao, cap, rfl, hcap, hfit, hic⟩ := hv
  have hich := Lib.hid hic
  clear hic hfit
  obtain ⟨xk, xf, xt⟩ := x
  have H0 : St (fun _ => False) w _ [_] := (St.nil (fun _ => False) w).allocAt rfl #[.string ⟨xk.toArray⟩, .int .i64 xf, .int .i64 xt] 61
  unfold wdV wdC textV
  simp only
  go_enter Tryz.func256, Tryz.ntmps256
  go_upto_block 1 with (fail)
  obtain ⟨wb, hwb⟩ : ∃ wb, w.alloc (.cells #[.string ⟨xk.toArray⟩, .int .i64 xf, .int .i64 xt] 61) = wb := ⟨_, rfl⟩
  obtain ⟨xb, hxb⟩ : ∃ xb, w.heap.size = xb := ⟨_, rfl⟩
  rw [hwb, hxb] at H0
  try rw [hwb]
  try simp only [hxb]
  have H1 : St (fun _ => False) w wb [Blk xb #[.string ⟨xk.toArray⟩, .int .i64 xf, .int .i64 xt] 61] := H0
  have hxbh := Lib.hid hxb
  clear hwb hxb H0
  go_loopw [5, 8] (fun _ j wr => ∃ (i : Nat), i ≤ l.length ∧ j = .int .i64 i ∧ Hid (∀ y ∈ l.take i, y ≠ ⟨xk, xf, xt⟩) ∧ St (fun _ => False) w wr [Blk xb #[.string ⟨xk.toArray⟩, .int .i64 xf, .int .i64 xt] 61]) (fun _ j _ => l.length - (intOf j).toNat)
  case atStart => exact ⟨0, by omega, rfl, Lib.hid (by simp), H1⟩
  case round =>
    clear H1
    obtain ⟨i, hi, rfl, hno, HM⟩ := hrel
    by_cases hlt : i < l.length
    · obtain ⟨b, o, rfl, hb, hc⟩ := hich.out (by intro e; rw [e] at hlt; simp at hlt)
      obtain ⟨y, hy⟩ : ∃ y, l[i]? = some y := ⟨_, List.getElem?_eq_getElem hlt⟩
      have hc := hc i y hy
      have hyh := Lib.hid hy
      have hlt2 : (i : Int) < (l.length : Int) := by omega
      have hsn := Lib.hid (take_snoc' hy)
      clear hy
      obtain ⟨yk, yf, yt⟩ := y
      by_cases hall : xk = yk ∧ xf = yf ∧ xt = yt
      · obtain ⟨rfl, rfl, rfl⟩ := hall
        go_upto_region 4 with (fail)
        refine wp_calm (fun w' => St (fun _ => False) w w' [Blk xb #[.string ⟨xk.toArray⟩, .int .i64 xf, .int .i64 xt] 61]) (by kernel_rfl) (by kernel_rfl) (HM.drew) ?_
        iterate 6 first
          | (apply calm_pass
             · rfl
             intro K hK
             go_simp
             refine hK _ ?_
             clear hK K)
          | (apply calm_step
             · rfl
             · intro w1 h1
               have d0 := h1.cell 0 0 rfl rfl
               have d1 := h1.cell 0 1 rfl rfl
               have d2 := h1.cell 0 2 rfl rfl
               obtain ⟨p0, p1, p2⟩ := wd_cells hc (h1.kept.block b hb id)
               unfold textV at p0
               simp only at p0 p1 p2
               first
                 | (go_simp
                    first
                      | rfl
                      | exact ⟨rfl, h1⟩
                   )
             intro K hK
             go_simp
             refine hK _ ?_
             clear hK K)
        refine calm_nil ?_
        intro w2 H2
        go_wp2
        go_ret
        exact ⟨i, rfl, .inr ⟨by omega, List.mem_of_getElem? hyh.out⟩, H2.below (Nat.le_refl _) (fun _ h => h.elim)⟩
      · have hne := Lib.hid (show (⟨yk, yf, yt⟩ : Wd) ≠ ⟨xk, xf, xt⟩ from fun e => hall (by cases e; exact ⟨rfl, rfl, rfl⟩))
        have h3 : (¬ xk = yk) ∨ (xk = yk ∧ ¬ xf = yf) ∨ (xk = yk ∧ xf = yf ∧ ¬ xt = yt) := by
          by_cases h1 : xk = yk
          · by_cases h2 : xf = yf
            · exact .inr (.inr ⟨h1, h2, fun h3 => hall ⟨h1, h2, h3⟩⟩)
            · exact .inr (.inl ⟨h1, h2⟩)
          · exact .inl h1
        clear hall
        rcases h3 with h3 | ⟨rfl, h3⟩ | ⟨rfl, rfl, h3⟩
        all_goals
          go_upto_region 4 with (fail)
          refine wp_calm (fun w' => St (fun _ => False) w w' [Blk xb #[.string ⟨xk.toArray⟩, .int .i64 xf, .int .i64 xt] 61]) (by kernel_rfl) (by kernel_rfl) (HM.drew) ?_
          iterate 6 first
            | (apply calm_pass
               · rfl
               intro K hK
               go_simp
               refine hK _ ?_
               clear hK K)
            | (apply calm_step
               · rfl
               · intro w1 h1
                 have d0 := h1.cell 0 0 rfl rfl
                 have d1 := h1.cell 0 1 rfl rfl
                 have d2 := h1.cell 0 2 rfl rfl
                 obtain ⟨p0, p1, p2⟩ := wd_cells hc (h1.kept.block b hb id)
                 unfold textV at p0
                 simp only at p0 p1 p2
                 first
                   | (go_simp
                      first
                        | rfl
                        | exact ⟨rfl, h1⟩
                     )
               intro K hK
               go_simp
               refine hK _ ?_
               clear hK K)
          refine calm_nil ?_
          intro w2 H2
          go_wp2
          go_roundw
          case rel =>
            refine ⟨i + 1, by omega, by go_num, Lib.hid ?_, H2⟩
            rw [hsn.out]
            intro y hy
            rcases List.mem_append.1 hy with hy | hy
            · exact hno.out y hy
            · rw [List.mem_singleton.1 hy]; exact hne.out
          case measure => simp [intOf]; omega
    · obtain rfl : i = l.length := by omega
      have hnoh := hno.out
      rw [List.take_length] at hnoh
      go_wp2
      go_ret
      exact ⟨-1, rfl, .inl ⟨rfl, hnoh⟩, HM.below (Nat.le_refl _) (fun _ h => h.elim)⟩
set_option maxHeartbeats 2000000 in
set_option maxRecDepth 100000 in
theorem wds_contains {v : Value} {l : List Wd} (x : Wd) {w : World} (hv : WdsRO w v l) (hl : l.length ≤ 1073741824) :
    Calls Tryz.prog 199 #[v, wdV x] w fun e w' => e = .returned (.bool (l.contains x)) ∧ Below w.heap.size w w' := by
  obtain ⟨c, hc⟩ : ∃ c, l.contains x = c := ⟨_, rfl⟩
  have ki := fun w' (hk : Kept (fun _ => False) w w') => (wds_index x (hv.later hk) hl).mono (fun e w2 (h : ∃ r : Int, e = .returned (.int .i64 r) ∧ ((r = -1 ∧ ∀ y ∈ l, y ≠ x) ∨ (0 ≤ r ∧ x ∈ l)) ∧ Below w'.heap.size w' w2) => show ∃ r : Int, e = .returned (.int .i64 r) ∧ decide (0 ≤ r) = c ∧ Below w'.heap.size w' w2 by
    obtain ⟨r, rfl, h | h, hb⟩ := h
    · refine ⟨r, rfl, ?_, hb⟩
      rw [← hc, h.1, Bool.eq_iff_iff]
      simp only [decide_eq_true_eq, List.contains_iff_mem]
      exact ⟨fun h => by omega, fun hm => absurd rfl (h.2 x hm)⟩
    · refine ⟨r, rfl, ?_, hb⟩
      rw [← hc, Bool.eq_iff_iff]
      simp only [decide_eq_true_eq, List.contains_iff_mem]
      exact ⟨fun _ => h.2, fun _ => h.1⟩)
  rw [hc]
  obtain ⟨ao, cap, rfl, -, -, -⟩ := hv
  clear hc
  obtain ⟨xk, xf, xt⟩ := x
  have H0 : St (fun _ => False) w _ [_] := (St.nil (fun _ => False) w).allocAt rfl #[.string ⟨xk.toArray⟩, .int .i64 xf, .int .i64 xt] 61
  have d0 := H0.cell 0 0 rfl rfl
  have d1 := H0.cell 0 1 rfl rfl
  have d2 := H0.cell 0 2 rfl rfl
  unfold wdV wdC textV at ki
  unfold wdV wdC textV
  simp only at ki ⊢
  have kk := ki _ H0.kept
  go_enter Tryz.func199, Tryz.ntmps199
  go_wp2_with (go_at_call 256; go_must (refine kk.mono ?_; rintro e w2 ⟨r, rfl, hr, hb2⟩))
  go_ret
  exact ⟨ret_bool (by simp), (H0.past hb2).below (Nat.le_refl _) (fun _ h => h.elim)⟩

theorem has_eq (x : Wd) (t : Int) : x.has t = (x.right && decide (x.frm ≤ t) && decide (t < x.to)) := rfl
set_option maxHeartbeats 2000000 in
set_option maxRecDepth 100000 in
theorem wd_has (x : Wd) (hx : x.fits) (t : Int) (w : World) : Calls Tryz.prog 195 #[wdV x, .int .i64 t] w fun e w' => e = .returned (.bool (x.has t)) ∧ Below w.heap.size w w' := by
  have kr := fun w' => wd_right x hx w'
  have hr0 := has_eq x t
  obtain ⟨nm, hnm⟩ : ∃ nm, x.right = nm := ⟨_, rfl⟩
  rw [hnm] at kr hr0
  clear hnm
  obtain ⟨key, f, u⟩ := x
  have H : St (fun _ => False) w _ [_] := (St.nil (fun _ => False) w).allocAt rfl #[.string ⟨key.toArray⟩, .int .i64 f, .int .i64 u] 61
  simp only at hr0
  obtain ⟨b1, e1⟩ : ∃ b1, decide (f ≤ t) = b1 := ⟨_, rfl⟩
  obtain ⟨b2, e2⟩ : ∃ b2, decide (t < u) = b2 := ⟨_, rfl⟩
  rw [e1, e2] at hr0
  have hr := Lib.hid hr0
  clear hr0
  unfold wdV wdC textV at kr
  simp only at kr
  unfold wdV wdC textV
  simp only
  have c0 := H.cell 0 0 rfl rfl
  have c1 := H.cell 0 1 rfl rfl
  have c2 := H.cell 0 2 rfl rfl
  go_enter Tryz.func195, Tryz.ntmps195
  cases nm <;> cases b1 <;> cases b2 <;> simp only [decide_eq_true_eq, decide_eq_false_iff_not] at e1 e2 <;> (
    go_wp2_with (go_at_call 146; go_must (refine (St.callPast (kr _) H).mono ?_; rintro e w2 ⟨rfl, H2⟩; clear c0 c1 c2; have c1 := H2.cell 0 1 rfl rfl; have c2 := H2.cell 0 2 rfl rfl))
    go_ret
    rw [hr.out]
    exact ⟨ret_bool (by first | (simp; done) | (simp; omega)), H2.below (Nat.le_refl _) (fun _ h => h.elim)⟩)

end Go.Proofs.YtiglgfonhdfpmaaGreat

/- wins.Of: the windows of a time. Condition: the text and the time fit the machine. -/
set_option linter.unusedVariables false
set_option linter.unusedSimpArgs false
namespace Go.Proofs.YtiglgfonhdfpmaaGreat
open Go.RowKit

/-- The windows from one on, step by step, that have a time. -/
def ofsM (q : Qry) (key : List UInt8) (t F st : Int) : Nat → List Wd
  | 0 => []
  | j + 1 => ofsM q key t F st j ++ (if (⟨key, F + j * st, F + j * st + q.size⟩ : Wd).has t = true then [⟨key, F + j * st, F + j * st + q.size⟩] else [])
theorem ofsM_len (q : Qry) (key : List UInt8) (t F st : Int) : ∀ n, (ofsM q key t F st n).length ≤ n
  | 0 => by simp [ofsM]
  | n + 1 => by
    have := ofsM_len q key t F st n
    rw [ofsM, List.length_append]
    split <;> simp <;> omega
theorem q_size {q : Qry} (h : q.right = true) : (1 ≤ q.kind ∧ q.kind ≤ 3) ∧ (1 ≤ q.size ∧ q.size ≤ 1073741824) ∧ (q.kind = 2 → 1 ≤ q.slide ∧ q.slide ≤ q.size ∧ q.size ≤ 16 * q.slide) ∧ (0 ≤ q.late ∧ q.late ≤ 1073741824) ∧ (1 ≤ q.agg ∧ q.agg ≤ 7) := by
  unfold Qry.right at h
  simp only [Bool.and_eq_true, decide_eq_true_eq] at h
  obtain ⟨⟨⟨⟨⟨h1, h2⟩, h3⟩, h4⟩, h5⟩, h6⟩ := h
  refine ⟨h1, h2, fun hk => ?_, h4, h5⟩
  unfold Qry.slides at h3
  rw [if_pos hk] at h3
  simp only [Bool.and_eq_true, decide_eq_true_eq] at h3
  exact ⟨h3.1.1, h3.1.2, h3.2⟩
theorem wd_made {q : Qry} {key : List UInt8} {t u : Int} (hq : q.right = true) (hk : nameB key = true) (ht : t ≤ 1099511627776) (hu : 0 ≤ u ∧ u ≤ t) : (⟨key, u, u + q.size⟩ : Wd).right = true ∧ (⟨key, u, u + q.size⟩ : Wd).has t = decide (t < u + q.size) := by
  have h1 : (⟨key, u, u + q.size⟩ : Wd).right = true := by
    have := (q_size hq).2.1
    rw [right_iff]
    exact ⟨hk, hu.1, by simp only; omega, by simp only; omega, by simp only; omega⟩
  refine ⟨h1, ?_⟩
  rw [has_eq, h1]
  simp only [Bool.true_and]
  rw [decide_eq_true (by exact hu.2), Bool.true_and]
theorem ofs_slide {q : Qry} {key : List UInt8} {t : Int} (hq : q.right = true) (hk : nameB key = true) (ht : 0 ≤ t ∧ t ≤ 1099511627776) (hs : 1 ≤ q.slide) {f : Nat} (hf : ∀ k : Nat, k < f → ¬ t < (k : Int) * q.slide + q.size) :
    ∀ n : Nat, (∀ i : Nat, i < n → (f : Int) * q.slide + i * q.slide ≤ t) → ofsM q key t ((f : Int) * q.slide) q.slide n = ((List.range (f + n)).filter fun (k : Nat) => decide (t < (k : Int) * q.slide + q.size)).map fun (k : Nat) => (⟨key, (k : Int) * q.slide, (k : Int) * q.slide + q.size⟩ : Wd)
  | 0, _ => by
    rw [ofsM, Nat.add_zero]
    symm
    rw [List.map_eq_nil_iff, List.filter_eq_nil_iff]
    intro k hk2
    simpa using hf k (by simpa using hk2)
  | n + 1, hn => by
    have ih := ofs_slide hq hk ht hs hf n (fun i hi => hn i (by omega))
    have hu := hn n (by omega)
    have e : (f : Int) * q.slide + (n : Int) * q.slide = ((f + n : Nat) : Int) * q.slide := by rw [Int.natCast_add, Int.add_mul]
    have h0 : 0 ≤ ((f + n : Nat) : Int) * q.slide := Int.mul_nonneg (by omega) (by omega)
    rw [e] at hu
    have hm := wd_made hq hk ht.2 (u := ((f + n : Nat) : Int) * q.slide) ⟨h0, hu⟩
    rw [ofsM, ih, e, hm.2, ← Nat.add_assoc, List.range_succ, List.filter_append, List.map_append]
    congr 1
    by_cases hp : t < ((f + n : Nat) : Int) * q.slide + q.size
    · rw [List.filter_cons, decide_eq_true hp]
      simp
    · rw [List.filter_cons, decide_eq_false hp]
      simp
theorem ofs_two {q : Qry} {key : List UInt8} {t : Int} (hq : q.right = true) (hk : nameB key = true) (ht : 0 ≤ t ∧ t ≤ 1099511627776) (h2 : q.kind = 2) {F : Int} (hF : F = max 0 ((t - q.size).tdiv q.slide * q.slide)) {n : Nat} (hn : ∀ i : Nat, i < n → F + i * q.slide ≤ t) (hx : ¬ F + n * q.slide ≤ t) : ofsM q key t F q.slide n = winsOf q key t := by
  obtain ⟨-, hsz, hsl, -, -⟩ := q_size hq
  obtain ⟨hs, hs2, -⟩ := hsl h2
  obtain ⟨f, hf, hf2, hf3⟩ : ∃ f : Nat, F = (f : Int) * q.slide ∧ (∀ k : Nat, k < f → ¬ t < (k : Int) * q.slide + q.size) ∧ F ≤ t := by
    by_cases hlt : t < q.size
    · refine ⟨0, ?_, fun k hk => absurd hk (by omega), ?_⟩
      · have : (t - q.size).tdiv q.slide ≤ 0 := by
          have h1 : (t - q.size).tdiv q.slide = -((q.size - t).tdiv q.slide) := by rw [← Int.neg_tdiv, Int.neg_sub]
          have h2 : 0 ≤ (q.size - t).tdiv q.slide := Int.tdiv_nonneg (by omega) (by omega)
          omega
        have h3 : (t - q.size).tdiv q.slide * q.slide ≤ 0 := Int.mul_nonpos_of_nonpos_of_nonneg this (by omega)
        rw [hF]
        simp only [Int.natCast_zero, Int.zero_mul]
        omega
      · have : (t - q.size).tdiv q.slide ≤ 0 := by
          have h1 : (t - q.size).tdiv q.slide = -((q.size - t).tdiv q.slide) := by rw [← Int.neg_tdiv, Int.neg_sub]
          have h2 : 0 ≤ (q.size - t).tdiv q.slide := Int.tdiv_nonneg (by omega) (by omega)
          omega
        have h3 : (t - q.size).tdiv q.slide * q.slide ≤ 0 := Int.mul_nonpos_of_nonpos_of_nonneg this (by omega)
        rw [hF]
        omega
    · have e1 : (t - q.size).tdiv q.slide = (t - q.size) / q.slide := Int.tdiv_eq_ediv_of_nonneg (by omega)
      have h0 : 0 ≤ (t - q.size) / q.slide := Int.ediv_nonneg (by omega) (by omega)
      have hle : (t - q.size) / q.slide * q.slide ≤ t - q.size := Int.ediv_mul_le _ (by omega)
      have hm0 : 0 ≤ (t - q.size) / q.slide * q.slide := Int.mul_nonneg h0 (by omega)
      refine ⟨((t - q.size) / q.slide).toNat, ?_, fun k hk => ?_, ?_⟩
      · rw [hF, e1, Int.toNat_of_nonneg h0]
        omega
      · have hk2 : (k : Int) + 1 ≤ (t - q.size) / q.slide := by omega
        have := Int.mul_le_mul_of_nonneg_right hk2 (show 0 ≤ q.slide by omega)
        rw [Int.add_mul, Int.one_mul] at this
        omega
      · rw [hF, e1]
        omega
  subst hf
  rw [ofs_slide hq hk ht hs hf2 n hn]
  unfold winsOf slideWs
  rw [if_pos ⟨hq, hk, ht⟩, if_neg (by omega), if_pos h2]
  congr 2
  congr 1
  have hd0 : 0 ≤ t / q.slide := Int.ediv_nonneg ht.1 (by omega)
  have a1 : t / q.slide < (f : Int) + n := by
    rw [Int.ediv_lt_iff_lt_mul (by omega), Int.add_mul]
    omega
  have a2 : (f : Int) + n ≤ t / q.slide + 1 := by
    have h : ((f : Int) + n - 1) ≤ t / q.slide := by
      rw [Int.le_ediv_iff_mul_le (by omega)]
      rcases Nat.eq_zero_or_pos n with rfl | hp
      · rw [Int.sub_mul, Int.add_mul]
        simp only [Int.natCast_zero, Int.zero_mul, Int.one_mul]
        omega
      · have h := hn (n - 1) (by omega)
        rw [← Int.add_mul] at h
        have e : (f : Int) + ((n - 1 : Nat) : Int) = (f : Int) + n - 1 := by omega
        rw [e] at h
        exact h
    omega
  omega
theorem ofs_one {q : Qry} {key : List UInt8} {t : Int} (hq : q.right = true) (hk : nameB key = true) (ht : 0 ≤ t ∧ t ≤ 1099511627776) (h1 : q.kind = 1) {F : Int} (hF : F = t - t.tmod q.size) {n : Nat} (hn : ∀ i : Nat, i < n → F + i * q.size ≤ t) (hx : ¬ F + n * q.size ≤ t) : ofsM q key t F q.size n = winsOf q key t := by
  obtain ⟨-, hsz, -⟩ := q_size hq
  rw [Int.tmod_eq_emod_of_nonneg ht.1] at hF
  have m0 := Int.emod_nonneg t (show q.size ≠ 0 by omega)
  have m1 := Int.emod_lt_of_pos t (show 0 < q.size by omega)
  have hn1 : n = 1 := by
    rcases Nat.lt_trichotomy n 1 with h | h | h
    · obtain rfl : n = 0 := by omega
      simp only [Int.natCast_zero, Int.zero_mul] at hx
      omega
    · exact h
    · have := hn 1 h
      simp only [Int.natCast_one, Int.one_mul] at this
      omega
  subst hn1
  have hle : t % q.size ≤ t := by
    have := Int.mul_ediv_add_emod t q.size
    have := Int.mul_nonneg (show 0 ≤ q.size by omega) (Int.ediv_nonneg ht.1 (show 0 ≤ q.size by omega))
    omega
  have hw := wd_made hq hk ht.2 (u := F) (by omega)
  unfold winsOf
  rw [if_pos ⟨hq, hk, ht⟩, if_neg (by omega), if_neg (by omega)]
  simp only [ofsM, Int.natCast_zero, Int.zero_mul, Int.add_zero, List.nil_append]
  rw [hw.2, decide_eq_true (by omega), if_pos rfl, hF]
end Go.Proofs.YtiglgfonhdfpmaaGreat

/- The walk of wins.Of. Condition: the text and the time fit the machine. -/
set_option linter.unusedVariables false
set_option linter.unusedSimpArgs false
namespace Go.Proofs.YtiglgfonhdfpmaaGreat
open Go.RowKit

set_option maxHeartbeats 2000000 in
set_option maxRecDepth 100000 in
theorem wins_of_bad (q : Qry) (key : List UInt8) (t : Int) (w : World) (hl : key.length ≤ 9223372036854775807) (hb : ¬ (q.right = true ∧ nameB key = true ∧ 0 ≤ t ∧ t ≤ 1099511627776)) :
    Calls Tryz.prog 138 #[qyV q, textV key, .int .i64 t] w fun e w' => e = .returned (.slice none 0 0) ∧ Below w.heap.size w w' := by
  have kq := fun w' => query_right q w'
  have kn := fun w' => ev_name key hl w'
  obtain ⟨nq, hnq⟩ : ∃ nq, q.right = nq := ⟨_, rfl⟩
  obtain ⟨nk, hnk⟩ : ∃ nq, nameB key = nq := ⟨_, rfl⟩
  rw [hnq, hnk] at hb
  rw [hnq] at kq
  rw [hnk] at kn
  clear hnq hnk
  have hc : nq = false ∨ (nq = true ∧ nk = false) ∨ (nq = true ∧ nk = true ∧ t < 0) ∨ (nq = true ∧ nk = true ∧ ¬ t < 0 ∧ 1099511627776 < t) := by
    cases nq
    · exact .inl rfl
    · cases nk
      · exact .inr (.inl ⟨rfl, rfl⟩)
      · by_cases h1 : t < 0
        · exact .inr (.inr (.inl ⟨rfl, rfl, h1⟩))
        · by_cases h2 : 1099511627776 < t
          · exact .inr (.inr (.inr ⟨rfl, rfl, h1, h2⟩))
          · exact absurd ⟨rfl, rfl, by omega, by omega⟩ hb
  clear hb
  obtain ⟨kd, sz, sl, lt, ag, kk⟩ := q
  have H : St (fun _ => False) w _ [_] := (St.nil _ w).allocAt rfl #[.int .i64 kd, .int .i64 sz, .int .i64 sl, .int .i64 lt, .int .i64 ag, .int .i64 kk] 23
  unfold qyV qyC at kq
  unfold textV at kn
  simp only at kq
  unfold qyV qyC textV
  simp only
  have c0 := H.cell 0 0 rfl rfl
  have c1 := H.cell 0 1 rfl rfl
  have c2 := H.cell 0 2 rfl rfl
  have c3 := H.cell 0 3 rfl rfl
  have c4 := H.cell 0 4 rfl rfl
  have c5 := H.cell 0 5 rfl rfl
  go_enter Tryz.func138, Tryz.ntmps138
  rcases hc with rfl | ⟨rfl, rfl⟩ | ⟨rfl, rfl, h1⟩ | ⟨rfl, rfl, h1, h2⟩
  all_goals
    go_wp2_with (first
      | (go_at_call 60; go_must (refine (St.callPast (kq _) H).mono ?_; rintro e w2 ⟨rfl, H2⟩; clear c0 c1 c2 c3 c4 c5))
      | (go_at_call 104; go_must (refine (kn _).mono ?_; rintro e w7 ⟨rfl, rfl⟩)))
    go_ret
    exact ⟨rfl, H2.below (Nat.le_refl _) (fun _ h => h.elim)⟩

set_option maxHeartbeats 4000000 in
set_option maxRecDepth 100000 in
theorem wins_of_good (q : Qry) (key : List UInt8) (t : Int) (w : World) (hl : key.length ≤ 9223372036854775807) (hq : q.right = true) (hk : nameB key = true) (ht : 0 ≤ t ∧ t ≤ 1099511627776) (h3 : ¬ q.kind = 3) :
    Calls Tryz.prog 138 #[qyV q, textV key, .int .i64 t] w fun e w' => ∃ v', e = .returned v' ∧ St (fun _ => False) w w' [Row 61 3 v' (winsOf q key t).length (wds (winsOf q key t))] := by
  obtain ⟨hkd, hsz, hsl, -, -⟩ := q_size hq
  obtain ⟨F, hF⟩ : ∃ F, (if q.kind = 1 then t - t.tmod q.size else max 0 ((t - q.size).tdiv q.slide * q.slide)) = F := ⟨_, rfl⟩
  obtain ⟨step, hst⟩ : ∃ s, (if q.kind = 1 then q.size else q.slide) = s := ⟨_, rfl⟩
  have hst1 : 1 ≤ step ∧ step ≤ 1073741824 := by
    rw [← hst]
    split
    · omega
    · have := hsl (by omega); omega
  have hlaw : ∀ n : Nat, (∀ i : Nat, i < n → F + i * step ≤ t) → ¬ F + n * step ≤ t → ofsM q key t F step n = winsOf q key t := by
    intro n hn hx
    by_cases h1 : q.kind = 1
    · rw [if_pos h1] at hst hF
      subst hst
      exact ofs_one hq hk ht h1 hF.symm hn hx
    · rw [if_neg h1] at hst hF
      subst hst
      exact ofs_two hq hk ht (by omega) hF.symm hn hx
  have hF0 : 0 ≤ F ∧ F ≤ 1099511627776 := by
    rw [← hF]
    split
    · rw [Int.tmod_eq_emod_of_nonneg ht.1]
      have m0 := Int.emod_nonneg t (show q.size ≠ 0 by omega)
      have := Int.mul_ediv_add_emod t q.size
      have := Int.mul_nonneg (show 0 ≤ q.size by omega) (Int.ediv_nonneg ht.1 (show 0 ≤ q.size by omega))
      omega
    · have hs2 := hsl (by omega)
      have : (t - q.size).tdiv q.slide * q.slide ≤ 1099511627776 := by
        by_cases hlt : t < q.size
        · have h1 : (t - q.size).tdiv q.slide = -((q.size - t).tdiv q.slide) := by rw [← Int.neg_tdiv, Int.neg_sub]
          have h2 : 0 ≤ (q.size - t).tdiv q.slide := Int.tdiv_nonneg (by omega) (by omega)
          have h3 : (t - q.size).tdiv q.slide * q.slide ≤ 0 := Int.mul_nonpos_of_nonpos_of_nonneg (by omega) (by omega)
          omega
        · rw [Int.tdiv_eq_ediv_of_nonneg (by omega)]
          have := Int.ediv_mul_le (t - q.size) (show q.slide ≠ 0 by omega)
          omega
      omega
  have hmade : ∀ u : Int, 0 ≤ u ∧ u ≤ t → (⟨key, u, u + q.size⟩ : Wd).has t = decide (t < u + q.size) := fun u hu => (wd_made hq hk ht.2 hu).2
  have hlawh := Lib.hid hlaw
  have hmadeh := Lib.hid hmade
  clear hlaw hmade
  have kq := fun w' => query_right q w'
  have kn := fun w' => ev_name key hl w'
  rw [hq] at kq
  rw [hk] at kn
  obtain ⟨ws, hws⟩ : ∃ ws, winsOf q key t = ws := ⟨_, rfl⟩
  rw [hws] at hlawh ⊢
  obtain ⟨of, hof⟩ : ∃ f : Nat → List Wd, ofsM q key t F step = f := ⟨_, rfl⟩
  have hofn : ∀ j : Nat, of (j + 1) = of j ++ (if (⟨key, F + j * step, F + j * step + q.size⟩ : Wd).has t = true then [⟨key, F + j * step, F + j * step + q.size⟩] else []) := fun j => by rw [← hof]; rfl
  have hof0 : of 0 = [] := by rw [← hof]; rfl
  have hoflen : ∀ j, (of j).length ≤ j := fun j => by rw [← hof]; exact ofsM_len _ _ _ _ _ j
  rw [hof] at hlawh
  have hofnh := Lib.hid hofn
  have hoflenh := Lib.hid hoflen
  clear hofn hof hws hq hk hoflen
  obtain ⟨kd, sz, sl, lt, ag, kk⟩ := q
  simp only at hkd hsz hsl h3 hF hst hmadeh hofnh
  obtain ⟨b, hb⟩ : ∃ b, w.heap.size = b := ⟨_, rfl⟩
  have H0 : St (fun _ => False) w _ [_] := (St.nil _ w).allocAt hb #[.int .i64 kd, .int .i64 sz, .int .i64 sl, .int .i64 lt, .int .i64 ag, .int .i64 kk] 23
  obtain ⟨w1, hw1⟩ : ∃ w1, w.alloc (.cells #[.int .i64 kd, .int .i64 sz, .int .i64 sl, .int .i64 lt, .int .i64 ag, .int .i64 kk] 23) = w1 := ⟨_, rfl⟩
  unfold qyV qyC at kq
  unfold textV at kn
  simp only at kq
  unfold qyV qyC textV
  simp only
  have t0 : ¬ t < 0 := by omega
  have t1 : ¬ 1099511627776 < t := by omega
  go_enter Tryz.func138, Tryz.ntmps138
  go_upto_region 1 with (fail)
  rw [hw1] at H0
  try rw [hw1]
  try simp only [hb]
  have c0 := H0.cell 0 0 rfl rfl
  have c1 := H0.cell 0 1 rfl rfl
  have c2 := H0.cell 0 2 rfl rfl
  have c3 := H0.cell 0 3 rfl rfl
  have c4 := H0.cell 0 4 rfl rfl
  have c5 := H0.cell 0 5 rfl rfl
  have hbh := Lib.hid hb
  clear hw1 hb
  go_upto_region 5 with (first
    | (go_at_call 60; go_must (refine (St.callPast (kq _) H0).mono ?_; rintro e w2 ⟨rfl, H2⟩; clear c0 c1 c2 c3 c4 c5; have c0 := H2.cell 0 0 rfl rfl))
    | (go_at_call 104; go_must (refine (kn _).mono ?_; rintro e w7 ⟨rfl, rfl⟩)))
  clear H0 kq kn
  have c0 := H2.cell 0 0 rfl rfl
  have c1 := H2.cell 0 1 rfl rfl
  have c2 := H2.cell 0 2 rfl rfl
  by_cases h1 : kd = 1
  · subst h1
    rw [if_pos rfl] at hF hst
    subst hst
    have m3 := Int.tmod_eq_emod_of_nonneg ht.1 (b := sz)
    have m4 := Int.emod_nonneg t (show sz ≠ 0 by omega)
    have m5 := Int.emod_lt_of_pos t (show 0 < sz by omega)
    obtain ⟨M, hM⟩ : ∃ M, t.tmod sz = M := ⟨_, rfl⟩
    rw [hM] at m3 hF
    have hM2 : t % sz = M := m3.symm
    rw [hM2] at m4 m5
    have n0 : IntKind.i64.wrap M = M := by rw [IntKind.wrap_i64]; omega
    have n1 : IntKind.i64.wrap (t - M) = F := by rw [IntKind.wrap_i64]; omega
    clear m3 m4 m5
    have nF : IntKind.i64.wrap F = F := by rw [IntKind.wrap_i64]; omega
    have nz : ¬ sz = 0 := by omega
    have nz2 : (sz == 0) = false := by simp; omega
    go_upto_region 6 with (fail)
    refine wp_calm (fun w' => St (fun _ => False) w w' [Blk b #[.int .i64 1, .int .i64 sz, .int .i64 sl, .int .i64 lt, .int .i64 ag, .int .i64 kk] 23]) (by kernel_rfl) (by kernel_rfl) (H2.drew) ?_
    iterate 10 first
      | (apply calm_pass
         · rfl
         intro K hK
         go_simp
         refine hK _ ?_
         clear hK K)
      | (apply calm_step
         · rfl
         · intro w1 h1
           have c1 := h1.cell 0 1 rfl rfl
           first
             | (go_simp
                first
                  | rfl
                  | exact ⟨rfl, h1⟩
               )
         intro K hK
         go_simp
         refine hK _ ?_
         clear hK K)
    refine calm_nil ?_
    intro w9 H9
    clear c0 c1 c2 H2
    have hk3 : ((1 : Int) == 3) = false := by decide
    have H10 : St (fun _ => False) w w9 [Row 61 3 (.slice none 0 0) (of 0).length (wds (of 0)), Blk b #[.int .i64 1, .int .i64 sz, .int .i64 sl, .int .i64 lt, .int .i64 ag, .int .i64 kk] 23] := by
      rw [hof0]
      exact H9.row_nil 61 3
    clear H9 hof0
    go_upto_block 3 with (fail)
    go_loopw [9, 10, 11] (fun u fr _ wr => ∃ (j : Nat) (U : Int), fr = .int .i64 U ∧ Hid (U = F + j * sz) ∧ (j : Int) ≤ U ∧ 0 ≤ U ∧ U ≤ 2199023255552 ∧ Hid (∀ i : Nat, i < j → F + i * sz ≤ t) ∧ St (fun _ => False) w wr [Row 61 3 u (of j).length (wds (of j)), Blk b #[.int .i64 1, .int .i64 sz, .int .i64 sl, .int .i64 lt, .int .i64 ag, .int .i64 kk] 23]) (fun _ fr _ _ => (t + 1 - intOf fr).toNat)
    case atStart => exact ⟨0, F, rfl, Lib.hid (by simp), by simp; omega, by omega, by omega, Lib.hid (by intro i hi; omega), H10⟩
    case round =>
      clear H10
      obtain ⟨j, U, rfl, hU, hjU, hU0, hU1, hn, HM⟩ := hrel
      by_cases hUt : U ≤ t
      · have kh := fun w' => wd_has ⟨key, U, U + sz⟩ ⟨hl, by simp only; omega, by simp only; omega⟩ t w'
        have hh := hmadeh.out U ⟨hU0, hUt⟩
        rw [hh] at kh
        have hon := hofnh.out j
        rw [← hU.out, hh] at hon
        have hol := hoflenh.out j
        obtain ⟨V, hV⟩ : ∃ V, U + sz = V := ⟨_, rfl⟩
        have hfits : (⟨key, U, V⟩ : Wd).fits := ⟨hl, by simp only; omega, by simp only; omega⟩
        have m1 : IntKind.i64.wrap (U + sz) = V := by rw [IntKind.wrap_i64]; omega
        simp only [hV] at kh hon hh
        have hVb : (j : Int) + 1 ≤ V ∧ 0 ≤ V ∧ V ≤ 2199023255552 ∧ U < V := by omega
        obtain ⟨z, hz⟩ : ∃ z, decide (t < V) = z := ⟨_, rfl⟩
        rw [hz] at kh hon
        clear hz hh
        have hnn := Lib.hid (show ∀ i : Nat, i < j + 1 → F + i * sz ≤ t from fun i hi => by
          rcases Nat.lt_or_ge i j with h | h
          · exact hn.out i h
          · obtain rfl : i = j := by omega
            rw [← hU.out]; exact hUt)
        have hUn0 : U + sz = F + ((j + 1 : Nat) : Int) * sz := by rw [hU.out, Int.natCast_add, Int.add_mul]; simp [Int.add_assoc]
        rw [hV] at hUn0
        clear hV
        have hUn := Lib.hid hUn0
        clear hUn0
        clear hn hU
        unfold wdV wdC textV at kh
        simp only at kh
        have c1 := HM.cell 1 1 rfl rfl
        have HA : St (fun _ => False) w _ [_, _, _] := HM.allocAt rfl #[.string ⟨key.toArray⟩, .int .i64 U, .int .i64 V] 61
        go_upto_region 15 with (fail)
        obtain ⟨wb, hwb⟩ : ∃ wb, wr.alloc (.cells #[.string ⟨key.toArray⟩, .int .i64 U, .int .i64 V] 61) = wb := ⟨_, rfl⟩
        obtain ⟨yb, hyb⟩ : ∃ yb, wr.heap.size = yb := ⟨_, rfl⟩
        rw [hwb, hyb] at HA
        try rw [hwb]
        try simp only [hyb]
        have HA2 : St (fun _ => False) w wb [Blk yb #[.string ⟨key.toArray⟩, .int .i64 U, .int .i64 V] 61, Row 61 3 u9 (of j).length (wds (of j)), Blk b #[.int .i64 1, .int .i64 sz, .int .i64 sl, .int .i64 lt, .int .i64 ag, .int .i64 kk] 23] := HA
        clear hwb hyb c1 HM HA
        have d0 := HA2.cell 0 0 rfl rfl
        have d1 := HA2.cell 0 1 rfl rfl
        have d2 := HA2.cell 0 2 rfl rfl
        cases z with
        | false =>
          rw [if_neg (by simp), List.append_nil] at hon
          have honh := Lib.hid hon
          clear hon
          go_wp2_with (go_at_call 195; go_must (refine (St.callPast (kh _) HA2).mono ?_; rintro e w3 ⟨rfl, H3⟩; have c0 := H3.cell 2 0 rfl rfl))
          go_roundw
          case rel =>
            refine ⟨j + 1, V, rfl, Lib.hid hUn.out, by omega, by omega, by omega, Lib.hid hnn.out, ?_⟩
            rw [honh.out]
            exact H3.pick [1, 2]
          case measure => simp [intOf]; omega
        | true =>
          rw [if_pos rfl] at hon
          have honh := Lib.hid hon
          clear hon
          go_wp2_with (first
            | (go_at_call 195; go_must (refine (St.callPast (kh _) HA2).mono ?_; rintro e w3 ⟨rfl, H3⟩; have d0 := H3.cell 0 0 rfl rfl; have d1 := H3.cell 0 1 rfl rfl; have d2 := H3.cell 0 2 rfl rfl))
            | (at_builtin; go_must (refine St.list_app (H3.skip _) 1 rfl rfl (.tmp 71) (.tmp 73) 145 rfl Tryz.underlying145 Tryz.info61 (by decide) rfl [.string ⟨key.toArray⟩, .int .i64 U, .int .i64 V] rfl rfl (new_cells #[.string ⟨key.toArray⟩, .int .i64 U, .int .i64 V] _) (by simp [Value.oneCell']) (by omega) (by omega) ?_; intro g5 cap5 w6 H6 hz6; have c0 := H6.cell 2 0 rfl rfl)))
          go_roundw
          case rel =>
            refine ⟨j + 1, V, rfl, Lib.hid hUn.out, by omega, by omega, by omega, Lib.hid hnn.out, ?_⟩
            have H7 : St (fun _ => False) w w6 [_, _, _] := H6
            rw [honh.out, List.length_append, wds_app, wds_one]
            exact H7.pick [1, 2]
          case measure => simp [intOf]; omega
      · have hfin := hlawh.out j hn.out (by rw [← hU.out]; omega)
        rw [hfin] at HM
        go_wp2
        go_ret
        exact ⟨_, rfl, HM.pick [0]⟩
  · obtain rfl : kd = 2 := by omega
    rw [if_neg (by omega)] at hF hst
    subst hst
    have hsl2 := hsl rfl
    obtain ⟨D, hD⟩ : ∃ D, (t - sz).tdiv sl = D := ⟨_, rfl⟩
    rw [hD] at hF
    have hDb : -1073741824 ≤ D ∧ D ≤ 1099511627776 ∧ -4611686018427387904 ≤ D * sl ∧ D * sl ≤ 4611686018427387904 := by
      rw [← hD]
      by_cases hlt : t < sz
      · have g1 : (t - sz).tdiv sl = -((sz - t).tdiv sl) := by rw [← Int.neg_tdiv, Int.neg_sub]
        have g2 : 0 ≤ (sz - t).tdiv sl := Int.tdiv_nonneg (by omega) (by omega)
        have g4 := Int.tdiv_eq_ediv_of_nonneg (show 0 ≤ sz - t by omega) (b := sl)
        have g5 := Int.ediv_mul_le (sz - t) (show sl ≠ 0 by omega)
        have g6 : (sz - t) / sl ≤ sz - t := Int.ediv_le_self _ (by omega)
        have g7 : 0 ≤ (sz - t) / sl * sl := Int.mul_nonneg (by omega) (by omega)
        rw [g1, g4, Int.neg_mul]
        omega
      · rw [Int.tdiv_eq_ediv_of_nonneg (by omega)]
        have g5 := Int.ediv_mul_le (t - sz) (show sl ≠ 0 by omega)
        have g6 : (t - sz) / sl ≤ t - sz := Int.ediv_le_self _ (by omega)
        have g2 : 0 ≤ (t - sz) / sl := Int.ediv_nonneg (by omega) (by omega)
        have g7 : 0 ≤ (t - sz) / sl * sl := Int.mul_nonneg (by omega) (by omega)
        omega
    have n1 : IntKind.i64.wrap (t - sz) = t - sz := by rw [IntKind.wrap_i64]; omega
    have n2 : IntKind.i64.wrap D = D := by rw [IntKind.wrap_i64]; omega
    have n3 : IntKind.i64.wrap (D * sl) = D * sl := by rw [IntKind.wrap_i64]; omega
    have nF : IntKind.i64.wrap F = F := by rw [IntKind.wrap_i64]; omega
    have nz : ¬ sl = 0 := by omega
    have nz2 : (sl == 0) = false := by simp; omega
    have hF2 : (if 0 ≤ D * sl then D * sl else 0) = F := by rw [← hF]; split <;> omega
    have hF3 : (if D * sl < 0 then 0 else D * sl) = F := by rw [← hF]; split <;> omega
    have hF4 : (if 0 < D * sl then D * sl else 0) = F := by rw [← hF]; split <;> omega
    go_upto_region 10 with (fail)
    clear c0 c1 c2 n1 n2 n3 hF2 hF3 hF4 hDb hD

    have H9 := H2
    have hk3 : ((2 : Int) == 3) = false := by decide
    have H10 : St (fun _ => False) w w7 [Row 61 3 (.slice none 0 0) (of 0).length (wds (of 0)), Blk b #[.int .i64 2, .int .i64 sz, .int .i64 sl, .int .i64 lt, .int .i64 ag, .int .i64 kk] 23] := by
      rw [hof0]
      exact H9.row_nil 61 3
    clear H9 hof0
    go_upto_block 3 with (fail)
    go_loopw [9, 10, 11] (fun u fr _ wr => ∃ (j : Nat) (U : Int), fr = .int .i64 U ∧ Hid (U = F + j * sl) ∧ (j : Int) ≤ U ∧ 0 ≤ U ∧ U ≤ 2199023255552 ∧ Hid (∀ i : Nat, i < j → F + i * sl ≤ t) ∧ St (fun _ => False) w wr [Row 61 3 u (of j).length (wds (of j)), Blk b #[.int .i64 2, .int .i64 sz, .int .i64 sl, .int .i64 lt, .int .i64 ag, .int .i64 kk] 23]) (fun _ fr _ _ => (t + 1 - intOf fr).toNat)
    case atStart => exact ⟨0, F, rfl, Lib.hid (by simp), by simp; omega, by omega, by omega, Lib.hid (by intro i hi; omega), H10⟩
    case round =>
      clear H10
      obtain ⟨j, U, rfl, hU, hjU, hU0, hU1, hn, HM⟩ := hrel
      by_cases hUt : U ≤ t
      · have kh := fun w' => wd_has ⟨key, U, U + sz⟩ ⟨hl, by simp only; omega, by simp only; omega⟩ t w'
        have hh := hmadeh.out U ⟨hU0, hUt⟩
        rw [hh] at kh
        have hon := hofnh.out j
        rw [← hU.out, hh] at hon
        have hol := hoflenh.out j
        obtain ⟨V, hV⟩ : ∃ V, U + sz = V := ⟨_, rfl⟩
        have hfits : (⟨key, U, V⟩ : Wd).fits := ⟨hl, by simp only; omega, by simp only; omega⟩
        have m1 : IntKind.i64.wrap (U + sz) = V := by rw [IntKind.wrap_i64]; omega
        simp only [hV] at kh hon hh
        clear hV
        obtain ⟨z, hz⟩ : ∃ z, decide (t < V) = z := ⟨_, rfl⟩
        rw [hz] at kh hon
        clear hz hh
        have hnn := Lib.hid (show ∀ i : Nat, i < j + 1 → F + i * sl ≤ t from fun i hi => by
          rcases Nat.lt_or_ge i j with h | h
          · exact hn.out i h
          · obtain rfl : i = j := by omega
            rw [← hU.out]; exact hUt)
        have hUn0 : U + sl = F + ((j + 1 : Nat) : Int) * sl := by rw [hU.out, Int.natCast_add, Int.add_mul]; simp [Int.add_assoc]
        obtain ⟨N, hN⟩ : ∃ N, U + sl = N := ⟨_, rfl⟩
        have m2 : IntKind.i64.wrap (U + sl) = N := by rw [IntKind.wrap_i64]; omega
        have hNb : (j : Int) + 1 ≤ N ∧ 0 ≤ N ∧ N ≤ 2199023255552 ∧ U < N := by omega
        rw [hN] at hUn0
        clear hN
        have hUn := Lib.hid hUn0
        clear hUn0
        clear hn hU
        unfold wdV wdC textV at kh
        simp only at kh
        have c1 := HM.cell 1 1 rfl rfl
        have HA : St (fun _ => False) w _ [_, _, _] := HM.allocAt rfl #[.string ⟨key.toArray⟩, .int .i64 U, .int .i64 V] 61
        go_upto_region 15 with (fail)
        obtain ⟨wb, hwb⟩ : ∃ wb, wr.alloc (.cells #[.string ⟨key.toArray⟩, .int .i64 U, .int .i64 V] 61) = wb := ⟨_, rfl⟩
        obtain ⟨yb, hyb⟩ : ∃ yb, wr.heap.size = yb := ⟨_, rfl⟩
        rw [hwb, hyb] at HA
        try rw [hwb]
        try simp only [hyb]
        have HA2 : St (fun _ => False) w wb [Blk yb #[.string ⟨key.toArray⟩, .int .i64 U, .int .i64 V] 61, Row 61 3 u9 (of j).length (wds (of j)), Blk b #[.int .i64 2, .int .i64 sz, .int .i64 sl, .int .i64 lt, .int .i64 ag, .int .i64 kk] 23] := HA
        clear hwb hyb c1 HM HA
        have d0 := HA2.cell 0 0 rfl rfl
        have d1 := HA2.cell 0 1 rfl rfl
        have d2 := HA2.cell 0 2 rfl rfl
        cases z with
        | false =>
          rw [if_neg (by simp), List.append_nil] at hon
          have honh := Lib.hid hon
          clear hon
          go_wp2_with (go_at_call 195; go_must (refine (St.callPast (kh _) HA2).mono ?_; rintro e w3 ⟨rfl, H3⟩; have c0 := H3.cell 2 0 rfl rfl))
          go_roundw
          case rel =>
            refine ⟨j + 1, N, rfl, Lib.hid hUn.out, by omega, by omega, by omega, Lib.hid hnn.out, ?_⟩
            rw [honh.out]
            exact H3.pick [1, 2]
          case measure => simp [intOf]; omega
        | true =>
          rw [if_pos rfl] at hon
          have honh := Lib.hid hon
          clear hon
          go_wp2_with (first
            | (go_at_call 195; go_must (refine (St.callPast (kh _) HA2).mono ?_; rintro e w3 ⟨rfl, H3⟩; have d0 := H3.cell 0 0 rfl rfl; have d1 := H3.cell 0 1 rfl rfl; have d2 := H3.cell 0 2 rfl rfl))
            | (at_builtin; go_must (refine St.list_app (H3.skip _) 1 rfl rfl (.tmp 71) (.tmp 73) 145 rfl Tryz.underlying145 Tryz.info61 (by decide) rfl [.string ⟨key.toArray⟩, .int .i64 U, .int .i64 V] rfl rfl (new_cells #[.string ⟨key.toArray⟩, .int .i64 U, .int .i64 V] _) (by simp [Value.oneCell']) (by omega) (by omega) ?_; intro g5 cap5 w6 H6 hz6; have c0 := H6.cell 2 0 rfl rfl)))
          go_roundw
          case rel =>
            refine ⟨j + 1, N, rfl, Lib.hid hUn.out, by omega, by omega, by omega, Lib.hid hnn.out, ?_⟩
            have H7 : St (fun _ => False) w w6 [_, _, _] := H6
            rw [honh.out, List.length_append, wds_app, wds_one]
            exact H7.pick [1, 2]
          case measure => simp [intOf]; omega
      · have hfin := hlawh.out j hn.out (by rw [← hU.out]; omega)
        rw [hfin] at HM
        go_wp2
        go_ret
        exact ⟨_, rfl, HM.pick [0]⟩

set_option maxHeartbeats 4000000 in
set_option maxRecDepth 100000 in
theorem wins_of_sess (q : Qry) (key : List UInt8) (t : Int) (w : World) (hl : key.length ≤ 9223372036854775807) (hq : q.right = true) (hk : nameB key = true) (ht : 0 ≤ t ∧ t ≤ 1099511627776) (h3 : q.kind = 3) :
    Calls Tryz.prog 138 #[qyV q, textV key, .int .i64 t] w fun e w' => ∃ v', e = .returned v' ∧ St (fun _ => False) w w' [Row 61 3 v' (winsOf q key t).length (wds (winsOf q key t))] := by
  obtain ⟨hkd, hsz, hsl, -, -⟩ := q_size hq
  have hh : (⟨key, t, t + q.size⟩ : Wd).has t = true := by
    rw [(wd_made hq hk ht.2 (u := t) (by omega)).2, decide_eq_true (by omega)]
  have hres : winsOf q key t = [⟨key, t, t + q.size⟩] := by
    unfold winsOf
    rw [if_pos ⟨hq, hk, ht⟩, if_pos h3]
  have kh := fun w' => wd_has ⟨key, t, t + q.size⟩ ⟨hl, by simp only; omega, by simp only; omega⟩ t w'
  rw [hh] at kh
  rw [hres]
  clear hh hres
  have kq := fun w' => query_right q w'
  have kn := fun w' => ev_name key hl w'
  rw [hq] at kq
  rw [hk] at kn
  clear hq hk
  obtain ⟨kd, sz, sl, lt, ag, kk⟩ := q
  simp only at hkd hsz hsl h3 kh ⊢
  subst h3
  obtain ⟨V, hV⟩ : ∃ V, t + sz = V := ⟨_, rfl⟩
  have m1 : IntKind.i64.wrap (t + sz) = V := by rw [IntKind.wrap_i64]; omega
  simp only [hV] at kh ⊢
  clear hV
  obtain ⟨b, hb⟩ : ∃ b, w.heap.size = b := ⟨_, rfl⟩
  have H0 : St (fun _ => False) w _ [_] := (St.nil _ w).allocAt hb #[.int .i64 3, .int .i64 sz, .int .i64 sl, .int .i64 lt, .int .i64 ag, .int .i64 kk] 23
  obtain ⟨w1, hw1⟩ : ∃ w1, w.alloc (.cells #[.int .i64 3, .int .i64 sz, .int .i64 sl, .int .i64 lt, .int .i64 ag, .int .i64 kk] 23) = w1 := ⟨_, rfl⟩
  unfold qyV qyC at kq
  unfold textV at kn
  unfold wdV wdC textV at kh
  simp only at kq kh
  unfold qyV qyC textV
  simp only
  have t0 : ¬ t < 0 := by omega
  have t1 : ¬ 1099511627776 < t := by omega
  go_enter Tryz.func138, Tryz.ntmps138
  go_upto_region 1 with (fail)
  rw [hw1] at H0
  try rw [hw1]
  try simp only [hb]
  have c0 := H0.cell 0 0 rfl rfl
  have c1 := H0.cell 0 1 rfl rfl
  have c2 := H0.cell 0 2 rfl rfl
  have c3 := H0.cell 0 3 rfl rfl
  have c4 := H0.cell 0 4 rfl rfl
  have c5 := H0.cell 0 5 rfl rfl
  have hbh := Lib.hid hb
  clear hw1 hb
  go_upto_region 5 with (first
    | (go_at_call 60; go_must (refine (St.callPast (kq _) H0).mono ?_; rintro e w2 ⟨rfl, H2⟩; clear c0 c1 c2 c3 c4 c5; have c0 := H2.cell 0 0 rfl rfl))
    | (go_at_call 104; go_must (refine (kn _).mono ?_; rintro e w7 ⟨rfl, rfl⟩)))
  clear H0 kq kn
  have c0 := H2.cell 0 0 rfl rfl
  have c1 := H2.cell 0 1 rfl rfl
  have H10 : St (fun _ => False) w w7 [Row 61 3 (.slice none 0 0) 0 (wds []), Blk b #[.int .i64 3, .int .i64 sz, .int .i64 sl, .int .i64 lt, .int .i64 ag, .int .i64 kk] 23] := H2.row_nil 61 3
  go_upto_block 3 with (fail)
  go_loopw [9, 10, 11] (fun u fr _ wr => u = .slice none 0 0 ∧ fr = .int .i64 t ∧ St (fun _ => False) w wr [Row 61 3 (.slice none 0 0) 0 (wds []), Blk b #[.int .i64 3, .int .i64 sz, .int .i64 sl, .int .i64 lt, .int .i64 ag, .int .i64 kk] 23]) (fun _ _ _ _ => 0)
  case atStart => exact ⟨rfl, rfl, H10⟩
  case round =>
    clear H10 H2 c0 c1
    obtain ⟨rfl, rfl, HM⟩ := hrel
    have c1 := HM.cell 1 1 rfl rfl
    have HA : St (fun _ => False) w _ [_, _, _] := HM.allocAt rfl #[.string ⟨key.toArray⟩, .int .i64 t, .int .i64 V] 61
    go_upto_region 15 with (fail)
    obtain ⟨wb, hwb⟩ : ∃ wb, wr.alloc (.cells #[.string ⟨key.toArray⟩, .int .i64 t, .int .i64 V] 61) = wb := ⟨_, rfl⟩
    obtain ⟨yb, hyb⟩ : ∃ yb, wr.heap.size = yb := ⟨_, rfl⟩
    rw [hwb, hyb] at HA
    try rw [hwb]
    try simp only [hyb]
    have HA2 : St (fun _ => False) w wb [Blk yb #[.string ⟨key.toArray⟩, .int .i64 t, .int .i64 V] 61, Row 61 3 (.slice none 0 0) 0 (wds []), Blk b #[.int .i64 3, .int .i64 sz, .int .i64 sl, .int .i64 lt, .int .i64 ag, .int .i64 kk] 23] := HA
    clear hwb hyb c1 HM HA
    have d0 := HA2.cell 0 0 rfl rfl
    have d1 := HA2.cell 0 1 rfl rfl
    have d2 := HA2.cell 0 2 rfl rfl
    go_wp2_with (first
      | (go_at_call 195; go_must (refine (St.callPast (kh _) HA2).mono ?_; rintro e w3 ⟨rfl, H3⟩; have d0 := H3.cell 0 0 rfl rfl; have d1 := H3.cell 0 1 rfl rfl; have d2 := H3.cell 0 2 rfl rfl))
      | (at_builtin; go_must (refine St.list_app (H3.skip _) 1 rfl rfl (.tmp 71) (.tmp 73) 145 rfl Tryz.underlying145 Tryz.info61 (by decide) rfl [.string ⟨key.toArray⟩, .int .i64 t, .int .i64 V] rfl rfl (new_cells #[.string ⟨key.toArray⟩, .int .i64 t, .int .i64 V] _) (by simp [Value.oneCell']) (by omega) (by omega) ?_; intro g5 cap5 w6 H6 hz6; have c0 := H6.cell 2 0 rfl rfl)))
    go_ret
    have H7 : St (fun _ => False) w w6 [_, _, _] := H6
    exact ⟨_, rfl, H7.pick [1]⟩
theorem wins_of (q : Qry) (key : List UInt8) (t : Int) (w : World) (hl : key.length ≤ 9223372036854775807) :
    Calls Tryz.prog 138 #[qyV q, textV key, .int .i64 t] w fun e w' => ∃ v', e = .returned v' ∧ St (fun _ => False) w w' [Row 61 3 v' (winsOf q key t).length (wds (winsOf q key t))] := by
  by_cases hg : q.right = true ∧ nameB key = true ∧ 0 ≤ t ∧ t ≤ 1099511627776
  · obtain ⟨hq, hk, ht⟩ := hg
    by_cases h3 : q.kind = 3
    · exact wins_of_sess q key t w hl hq hk ht h3
    · exact wins_of_good q key t w hl hq hk ht h3
  · refine (wins_of_bad q key t w hl hg).mono ?_
    rintro e w2 ⟨rfl, hb⟩
    have e0 : winsOf q key t = [] := by unfold winsOf; rw [if_neg hg]
    rw [e0]
    exact ⟨_, rfl, ((St.nil _ w).past hb).row_nil 61 3⟩

end Go.Proofs.YtiglgfonhdfpmaaGreat

/- The operator's fits. Condition: the window fits the machine. -/
set_option linter.unusedVariables false
set_option linter.unusedSimpArgs false
namespace Go.Proofs.YtiglgfonhdfpmaaGreat
open Go.RowKit

theorem fits_right {x : Wd} (h : x.right = true) : x.fits := by
  obtain ⟨h1, h2, h3, h4, h5⟩ := right_iff.1 h
  unfold nameB at h1
  simp only [Bool.and_eq_true, decide_eq_true_eq] at h1
  exact ⟨by omega, by omega, by omega⟩
theorem range_low {p : Nat → Bool} {lo : Nat} (h : ∀ k, p k = true → lo ≤ k) : ∀ n, ((List.range n).filter p).length ≤ n - lo
  | 0 => by simp
  | n + 1 => by
    have ih := range_low h n
    rw [List.range_succ, List.filter_append, List.length_append]
    by_cases hp : p n = true
    · have := h n hp
      simp [hp]
      omega
    · simp [hp]
      omega
theorem wins_right {q : Qry} {key : List UInt8} {t : Int} : ∀ x ∈ winsOf q key t, x.right = true ∧ x.key = key ∧ x.frm ≤ t ∧ t < x.to ∧ x.to = x.frm + q.size := by
  intro x hx
  unfold winsOf at hx
  split at hx
  · rename_i hg
    obtain ⟨hq, hk, ht⟩ := hg
    obtain ⟨hkd, hsz, hsl, -, -⟩ := q_size hq
    split at hx
    · rw [List.mem_singleton.1 hx]
      exact ⟨(wd_made hq hk ht.2 (u := t) (by omega)).1, rfl, by simp only; omega, by simp only; omega, rfl⟩
    · split at hx
      · rename_i h2
        have hs := hsl h2
        obtain ⟨k, hk2, rfl⟩ := List.mem_map.1 hx
        obtain ⟨h4, h5⟩ := List.mem_filter.1 hk2
        have h4 := List.mem_range.1 h4
        have h5 := of_decide_eq_true h5
        have hd0 : 0 ≤ t / q.slide := Int.ediv_nonneg ht.1 (by omega)
        have h6 : (k : Int) ≤ t / q.slide := by omega
        have h7 : (k : Int) * q.slide ≤ t := (Int.le_ediv_iff_mul_le (by omega)).1 h6
        have h8 : 0 ≤ (k : Int) * q.slide := Int.mul_nonneg (by omega) (by omega)
        exact ⟨(wd_made hq hk ht.2 (u := (k : Int) * q.slide) ⟨h8, h7⟩).1, rfl, h7, h5, rfl⟩
      · rw [List.mem_singleton.1 hx]
        have m0 := Int.emod_nonneg t (show q.size ≠ 0 by omega)
        have m1 := Int.emod_lt_of_pos t (show 0 < q.size by omega)
        have m2 := Int.mul_ediv_add_emod t q.size
        have m3 := Int.mul_nonneg (show 0 ≤ q.size by omega) (Int.ediv_nonneg ht.1 (show 0 ≤ q.size by omega))
        exact ⟨(wd_made hq hk ht.2 (u := t - t % q.size) (by omega)).1, rfl, by simp only; omega, by simp only; omega, rfl⟩
  · cases hx
theorem wins_len (q : Qry) (key : List UInt8) (t : Int) : (winsOf q key t).length ≤ 16 := by
  unfold winsOf
  split
  · rename_i hg
    obtain ⟨hq, hk, ht⟩ := hg
    obtain ⟨hkd, hsz, hsl, -, -⟩ := q_size hq
    split
    · simp
    · split
      · rename_i h2
        obtain ⟨hs, hs1, hs2⟩ := hsl h2
        unfold slideWs
        rw [List.length_map]
        have hd0 : 0 ≤ t / q.slide := Int.ediv_nonneg ht.1 (by omega)
        refine Nat.le_trans (range_low (lo := (t / q.slide).toNat - 15) (fun k hp => ?_) _) (by omega)
        have hp := of_decide_eq_true hp
        have h3 : t < ((k : Int) + 16) * q.slide := by rw [Int.add_mul]; omega
        have h4 : t / q.slide < (k : Int) + 16 := (Int.ediv_lt_iff_lt_mul (by omega)).2 h3
        omega
      · simp
  · simp

set_option maxHeartbeats 2000000 in
set_option maxRecDepth 100000 in
theorem oper_fits (q : Qry) (x : Wd) (hx : x.fits) (w : World) : Calls Tryz.prog 142 #[qyV q, wdV x] w fun e w' => e = .returned (.bool (fitsM q x)) ∧ Below w.heap.size w w' := by
  have kr := fun w' => wd_right x hx w'
  have kw := fun w' => wins_of q x.key x.frm w' hx.1
  have kc := fun w' v (hv : WdsRO w' v (winsOf q x.key x.frm)) => wds_contains x hv (by have := wins_len q x.key x.frm; omega)
  have hwf : ∀ y ∈ winsOf q x.key x.frm, y.fits := fun y hy => fits_right (wins_right y hy).1
  have hwl := wins_len q x.key x.frm
  by_cases h3 : q.kind = 3
  · have hf0 : fitsM q x = (x.right && decide (q.size ≤ x.to - x.frm)) := by unfold fitsM; rw [if_pos h3]
    obtain ⟨nm, hnm⟩ : ∃ nm, x.right = nm := ⟨_, rfl⟩
    have hw : nm = true → IntKind.i64.wrap (x.to - x.frm) = x.to - x.frm := fun h => by
      obtain ⟨-, a, b, c, d⟩ := right_iff.1 (hnm.trans h)
      rw [IntKind.wrap_i64]; omega
    rw [hnm] at kr hf0
    clear hnm kw kc hwf hwl
    obtain ⟨kd, sz, sl, lt, ag, kk⟩ := q
    obtain ⟨key, f, u⟩ := x
    simp only at h3 hf0 hw
    subst h3
    have hf := Lib.hid hf0
    clear hf0
    have H0 : St (fun _ => False) w _ [_] := (St.nil _ w).allocAt rfl #[.int .i64 3, .int .i64 sz, .int .i64 sl, .int .i64 lt, .int .i64 ag, .int .i64 kk] 23
    have H : St (fun _ => False) w _ [_, _] := H0.allocAt (B := w.heap.size + 1) (Array.size_push _) #[.string ⟨key.toArray⟩, .int .i64 f, .int .i64 u] 61
    unfold wdV wdC textV at kr
    simp only at kr
    unfold qyV qyC wdV wdC textV
    simp only
    have c0 := H.cell 0 0 rfl rfl
    have c1 := H.cell 0 1 rfl rfl
    have c2 := H.cell 0 2 rfl rfl
    have d0 := H.cell 1 0 rfl rfl
    go_enter Tryz.func142, Tryz.ntmps142
    cases nm with
    | false =>
      go_wp2_with (go_at_call 146; go_must (refine (St.callPast (kr _) H).mono ?_; rintro e w2 ⟨rfl, H2⟩))
      go_ret
      rw [hf.out]
      exact ⟨ret_bool (by simp), H2.below (Nat.le_refl _) (fun _ h => h.elim)⟩
    | true =>
      have hw := hw rfl
      go_wp2_with (go_at_call 146; go_must (refine (St.callPast (kr _) H).mono ?_; rintro e w2 ⟨rfl, H2⟩; clear c0 c1 c2 d0; have c1 := H2.cell 0 1 rfl rfl; have c2 := H2.cell 0 2 rfl rfl; have d1 := H2.cell 1 1 rfl rfl))
      go_ret
      rw [hf.out]
      exact ⟨ret_bool (by simp), H2.below (Nat.le_refl _) (fun _ h => h.elim)⟩
  · have hf0 : fitsM q x = (winsOf q x.key x.frm).contains x := by unfold fitsM; rw [if_neg h3]
    rw [hf0]
    obtain ⟨ws, hws⟩ : ∃ ws, winsOf q x.key x.frm = ws := ⟨_, rfl⟩
    rw [hws] at hwf hwl ⊢
    simp only [hws] at kw kc
    obtain ⟨z, hz⟩ : ∃ z, ws.contains x = z := ⟨_, rfl⟩
    simp only [hz] at kc ⊢
    have hwfh := Lib.hid hwf
    clear hf0 hws hz kr hx hwf
    obtain ⟨kd, sz, sl, lt, ag, kk⟩ := q
    obtain ⟨key, f, u⟩ := x
    have h3' : (kd == 3) = false := by simpa using h3
    have H0 : St (fun _ => False) w _ [_] := (St.nil _ w).allocAt rfl #[.int .i64 kd, .int .i64 sz, .int .i64 sl, .int .i64 lt, .int .i64 ag, .int .i64 kk] 23
    have H : St (fun _ => False) w _ [_, _] := H0.allocAt (B := w.heap.size + 1) (Array.size_push _) #[.string ⟨key.toArray⟩, .int .i64 f, .int .i64 u] 61
    unfold qyV qyC textV at kw
    unfold wdV wdC textV at kc
    simp only at kw kc
    unfold qyV qyC wdV wdC textV
    simp only
    have d0 := H.cell 1 0 rfl rfl
    go_enter Tryz.func142, Tryz.ntmps142
    go_upto_region 3 with (fail)
    obtain ⟨b, hb⟩ : ∃ b, w.heap.size = b := ⟨_, rfl⟩
    obtain ⟨b2, hb2⟩ : ∃ b2, b + 1 = b2 := ⟨_, rfl⟩
    obtain ⟨w1, hw1⟩ : ∃ w1, (w.alloc (.cells #[.int .i64 kd, .int .i64 sz, .int .i64 sl, .int .i64 lt, .int .i64 ag, .int .i64 kk] 23)).alloc (.cells #[.string ⟨key.toArray⟩, .int .i64 f, .int .i64 u] 61) = w1 := ⟨_, rfl⟩
    rw [hw1, hb, hb2] at H
    try rw [hw1]
    try simp only [hb, hb2]
    have hbh := Lib.hid hb
    clear hw1 hb hb2 d0 H0
    refine wp_script [(0, false), (1, false), (2, false), (3, false), (4, false), (6, false), (5, true), (7, true), (8, false)] (Fam fun w' => St (fun _ => False) w w' [Blk b2 #[.string ⟨key.toArray⟩, .int .i64 f, .int .i64 u] 61, Blk b #[.int .i64 kd, .int .i64 sz, .int .i64 sl, .int .i64 lt, .int .i64 ag, .int .i64 kk] 23]) (fun w' => St (fun _ => False) w w' [Blk b2 #[.string ⟨key.toArray⟩, .int .i64 f, .int .i64 u] 61, Blk b #[.int .i64 kd, .int .i64 sz, .int .i64 sl, .int .i64 lt, .int .i64 ag, .int .i64 kk] 23]) (by kernel_rfl) (by rfl) (by kernel_rfl) (by kernel_rfl) H.drew (Fam.st (fun _ h => h)) ?_
    iterate 6 first
      | (apply script_pass
         · rfl
         · rfl
         intro K hK
         go_simp
         refine hK _ ?_
         clear hK K)
      | (apply script_step
         · rfl
         · rfl
         · intro I hI w1 h1'
           have h1 := hI.2 _ h1'
           have c0 := h1.cell 0 0 rfl rfl
           have c1 := h1.cell 0 1 rfl rfl
           have c2 := h1.cell 0 2 rfl rfl
           have d0 := h1.cell 1 0 rfl rfl
           have d1 := h1.cell 1 1 rfl rfl
           have d2 := h1.cell 1 2 rfl rfl
           have d3 := h1.cell 1 3 rfl rfl
           have d4 := h1.cell 1 4 rfl rfl
           have d5 := h1.cell 1 5 rfl rfl
           first
             | (go_simp
                first
                  | rfl
                  | exact ⟨rfl, h1'⟩
               )
         intro K hK
         go_simp
         refine hK _ ?_
         clear hK K)
    refine script_alone rfl rfl ?_
    intro V hV w1 h1
    go_simp
    refine (kw w1).mono ?_
    rintro e w2 ⟨hs, rfl, G1⟩
    have H2 := h1.call0 G1
    refine ⟨_, rfl, fun w' => St (fun _ => False) w w' [Row 61 3 hs ws.length (wds ws), Blk b2 #[.string ⟨key.toArray⟩, .int .i64 f, .int .i64 u] 61, Blk b #[.int .i64 kd, .int .i64 sz, .int .i64 sl, .int .i64 lt, .int .i64 ag, .int .i64 kk] 23], hV _ _ _ (fun _ h => h) (Fam.st (fun _ h => h.pick [1, 2])) ?_, H2⟩
    intro K hK
    go_simp
    refine hK _ ?_
    clear hK K hV V
    clear H2 h1 G1 w1 w2
    refine script_alone rfl rfl ?_
    intro V hV w1 h1
    go_simp
    refine (kc w1 hs (wds_own (h1.row 0 rfl) hwfh.out)).mono ?_
    rintro e w2 ⟨rfl, hb⟩
    have H2 := h1.past hb
    refine ⟨_, rfl, fun w' => St (fun _ => False) w w' [Row 61 3 hs ws.length (wds ws), Blk b2 #[.string ⟨key.toArray⟩, .int .i64 f, .int .i64 u] 61, Blk b #[.int .i64 kd, .int .i64 sz, .int .i64 sl, .int .i64 lt, .int .i64 ag, .int .i64 kk] 23], hV _ _ _ (fun _ h => h) (Fam.st (fun _ h => h.pick [1, 2])) ?_, H2⟩
    intro K hK
    go_simp
    refine hK _ ?_
    clear hK K hV V
    clear H2 h1 hb w1 w2
    iterate 1 first
      | (apply script_pass
         · rfl
         · rfl
         intro K hK
         go_simp
         refine hK _ ?_
         clear hK K)
      | (apply script_step
         · rfl
         · rfl
         · intro I hI w1 h1'
           have h1 := hI.2 _ h1'
           first
             | (go_simp
                first
                  | rfl
                  | exact ⟨rfl, h1'⟩
               )
         intro K hK
         go_simp
         refine hK _ ?_
         clear hK K)
    refine script_nil ?_
    intro w9 H9
    go_wp2
    go_ret
    exact ⟨rfl, H9.below (Nat.le_refl _) (fun _ h => h.elim)⟩

end Go.Proofs.YtiglgfonhdfpmaaGreat

/- The operator's pane. Condition: the pane fits the machine. -/
set_option linter.unusedVariables false
set_option linter.unusedSimpArgs false
namespace Go.Proofs.YtiglgfonhdfpmaaGreat
open Go.RowKit

/-- A pane whose numbers the machine can hold. -/
def Pn.fits (p : Pn) : Prop := p.w.fits ∧ p.g.top.length ≤ 1073741824 ∧ p.g.x.natAbs < 2 ^ 53 ∧ p.g.y.natAbs < 2 ^ 53
theorem ok_eq (q : Qry) (mark : Int) (p : Pn) : p.ok q mark = (fitsM q p.w && !p.w.gone q mark && decide (0 ≤ p.round) && decide (p.round ≤ 1073741824) && p.g.right q && decide (0 < p.g.n) && (decide (0 < p.round) == p.w.ripe mark)) := rfl

set_option maxHeartbeats 4000000 in
set_option maxRecDepth 100000 in
theorem oper_pane (q : Qry) (m : Pm) (mark : Int) (w : World) (hf : m.p.fits) (hro : IntsRO w m.hd m.p.g.top) : Calls Tryz.prog 76 #[qyV q, pnV m, .int .i64 mark] w fun e w' => e = .returned (.bool (m.p.ok q mark)) ∧ Below w.heap.size w w' := by
  have kf := fun w' => oper_fits q m.p.w hf.1 w'
  have kg := fun w' => wd_gone q m.p.w hf.1 mark w'
  have kr := fun w' => wd_ripe m.p.w hf.1 mark w'
  have ka := fun w' (h : IntsRO w' m.hd m.p.g.top) => agg_right q m.p.g w' h (by have := hf.2.1; omega) hf.2.2.1 hf.2.2.2
  have hok := ok_eq q mark m.p
  obtain ⟨res, hres⟩ : ∃ r, m.p.ok q mark = r := ⟨_, rfl⟩
  obtain ⟨nf, hnf⟩ : ∃ r, fitsM q m.p.w = r := ⟨_, rfl⟩
  obtain ⟨ng, hng⟩ : ∃ r, m.p.w.gone q mark = r := ⟨_, rfl⟩
  obtain ⟨nr, hnr⟩ : ∃ r, m.p.w.ripe mark = r := ⟨_, rfl⟩
  obtain ⟨na, hna⟩ : ∃ r, m.p.g.right q = r := ⟨_, rfl⟩
  rw [hres, hnf, hng, hnr, hna] at hok
  rw [hres]
  simp only [hnf] at kf
  simp only [hng] at kg
  simp only [hnr] at kr
  simp only [hna] at ka
  clear hres hnf hng hnr hna hf
  obtain ⟨⟨⟨xk, xf, xt⟩, ⟨gn, ga, gt, gx, gy⟩, xr⟩, xa, xc⟩ := m
  obtain ⟨kd, sz, sl, lt, ag, kk⟩ := q
  unfold qyV qyC wdV wdC textV at kf kg
  unfold wdV wdC textV at kr
  unfold qyV qyC agV agC at ka
  unfold Pm.hd at hro ka
  simp only at kf kg kr ka hok hro
  unfold qyV qyC pnV pnC Pm.hd textV
  simp only
  obtain ⟨X, hX⟩ : ∃ X, ib gx = X := ⟨_, rfl⟩
  obtain ⟨Y, hY⟩ : ∃ Y, ib gy = Y := ⟨_, rfl⟩
  simp only [hX, hY] at ka ⊢
  clear hX hY
  obtain ⟨TL, hTL⟩ : ∃ n, gt.length = n := ⟨_, rfl⟩
  simp only [hTL] at ka hro ⊢
  clear hTL
  have H0 : St (fun _ => False) w _ [_] := (St.nil _ w).allocAt rfl #[.int .i64 kd, .int .i64 sz, .int .i64 sl, .int .i64 lt, .int .i64 ag, .int .i64 kk] 23
  have H : St (fun _ => False) w _ [_, _] := H0.allocAt (B := w.heap.size + 1) (Array.size_push _) #[.string ⟨xk.toArray⟩, .int .i64 xf, .int .i64 xt, .int .i64 gn, .int .i64 ga, .slice xa TL xc, .complex .f64 X Y, .int .i64 xr] 68
  obtain ⟨b, hb⟩ : ∃ b, w.heap.size = b := ⟨_, rfl⟩
  obtain ⟨b2, hb2⟩ : ∃ b2, b + 1 = b2 := ⟨_, rfl⟩
  obtain ⟨w1, hw1⟩ : ∃ w1, (w.alloc (.cells #[.int .i64 kd, .int .i64 sz, .int .i64 sl, .int .i64 lt, .int .i64 ag, .int .i64 kk] 23)).alloc (.cells #[.string ⟨xk.toArray⟩, .int .i64 xf, .int .i64 xt, .int .i64 gn, .int .i64 ga, .slice xa TL xc, .complex .f64 X Y, .int .i64 xr] 68) = w1 := ⟨_, rfl⟩
  go_enter Tryz.func76, Tryz.ntmps76
  go_upto_region 1 with (fail)
  rw [hw1, hb, hb2] at H
  try rw [hw1]
  try simp only [hb, hb2]
  have hbh := Lib.hid hb
  have hokh := Lib.hid hok
  clear hw1 hb hb2 H0 hok
  have c0 := H.cell 0 0 rfl rfl
  have c1 := H.cell 0 1 rfl rfl
  have c2 := H.cell 0 2 rfl rfl
  have c7 := H.cell 0 7 rfl rfl
  have d0 := H.cell 1 0 rfl rfl
  have d1 := H.cell 1 1 rfl rfl
  have d2 := H.cell 1 2 rfl rfl
  have d3 := H.cell 1 3 rfl rfl
  have d4 := H.cell 1 4 rfl rfl
  have d5 := H.cell 1 5 rfl rfl
  have hc : (nf = false) ∨ (nf = true ∧ ng = true) ∨ (nf = true ∧ ng = false ∧ xr < 0) ∨ (nf = true ∧ ng = false ∧ ¬ xr < 0 ∧ 1073741824 < xr) ∨ (nf = true ∧ ng = false ∧ ¬ xr < 0 ∧ ¬ 1073741824 < xr) := by
    cases nf
    · exact .inl rfl
    · cases ng
      · by_cases h1 : xr < 0
        · exact .inr (.inr (.inl ⟨rfl, rfl, h1⟩))
        · by_cases h2 : 1073741824 < xr
          · exact .inr (.inr (.inr (.inl ⟨rfl, rfl, h1, h2⟩)))
          · exact .inr (.inr (.inr (.inr ⟨rfl, rfl, h1, h2⟩)))
      · exact .inr (.inl ⟨rfl, rfl⟩)
  rcases hc with rfl | ⟨rfl, rfl⟩ | ⟨rfl, rfl, h1⟩ | ⟨rfl, rfl, h1, h2⟩ | ⟨rfl, rfl, h1, h2⟩
  case inl =>
    go_wp2_with (go_at_call 142; go_must (refine (St.callPast (kf _) H).mono ?_; rintro e w2 ⟨rfl, H2⟩))
    go_ret
    have hr : res = false := by rw [hokh.out]; simp
    exact ⟨ret_bool (by rw [hr]), H2.below (Nat.le_refl _) (fun _ h => h.elim)⟩
  case inr.inl =>
    go_wp2_with (first
      | (go_at_call 142; go_must (refine (St.callPast (kf _) H).mono ?_; rintro e w2 ⟨rfl, H2⟩; clear c0 c1 c2 c7 d0 d1 d2 d3 d4 d5; have c0 := H2.cell 0 0 rfl rfl; have c1 := H2.cell 0 1 rfl rfl; have c2 := H2.cell 0 2 rfl rfl; have d0 := H2.cell 1 0 rfl rfl; have d1 := H2.cell 1 1 rfl rfl; have d2 := H2.cell 1 2 rfl rfl; have d3 := H2.cell 1 3 rfl rfl; have d4 := H2.cell 1 4 rfl rfl; have d5 := H2.cell 1 5 rfl rfl))
      | (go_at_call 136; go_must (refine (St.callPast (kg _) H2).mono ?_; rintro e w3 ⟨rfl, H3⟩)))
    go_ret
    have hr : res = false := by rw [hokh.out]; simp
    exact ⟨ret_bool (by rw [hr]), H3.below (Nat.le_refl _) (fun _ h => h.elim)⟩
  case' inr.inr.inl => have hr : res = false := by rw [hokh.out]; simp; omega
  case' inr.inr.inr.inl => have hr : res = false := by rw [hokh.out]; simp; omega
  case' inr.inr.inr.inr => go_upto_region 3 with (first
      | (go_at_call 142; go_must (refine (St.callPast (kf _) H).mono ?_; rintro e w2 ⟨rfl, H2⟩; clear c0 c1 c2 c7 d0 d1 d2 d3 d4 d5; have c0 := H2.cell 0 0 rfl rfl; have c1 := H2.cell 0 1 rfl rfl; have c2 := H2.cell 0 2 rfl rfl; have d0 := H2.cell 1 0 rfl rfl; have d1 := H2.cell 1 1 rfl rfl; have d2 := H2.cell 1 2 rfl rfl; have d3 := H2.cell 1 3 rfl rfl; have d4 := H2.cell 1 4 rfl rfl; have d5 := H2.cell 1 5 rfl rfl))
      | (go_at_call 136; go_must (refine (St.callPast (kg _) H2).mono ?_; rintro e w3 ⟨rfl, H3⟩; clear c0 c1 c2 d0 d1 d2 d3 d4 d5; have c7 := H3.cell 0 7 rfl rfl)))
  case inr.inr.inl | inr.inr.inr.inl =>
    go_wp2_with (first
      | (go_at_call 142; go_must (refine (St.callPast (kf _) H).mono ?_; rintro e w2 ⟨rfl, H2⟩; clear c0 c1 c2 c7 d0 d1 d2 d3 d4 d5; have c0 := H2.cell 0 0 rfl rfl; have c1 := H2.cell 0 1 rfl rfl; have c2 := H2.cell 0 2 rfl rfl; have d0 := H2.cell 1 0 rfl rfl; have d1 := H2.cell 1 1 rfl rfl; have d2 := H2.cell 1 2 rfl rfl; have d3 := H2.cell 1 3 rfl rfl; have d4 := H2.cell 1 4 rfl rfl; have d5 := H2.cell 1 5 rfl rfl))
      | (go_at_call 136; go_must (refine (St.callPast (kg _) H2).mono ?_; rintro e w3 ⟨rfl, H3⟩; clear c0 c1 c2 d0 d1 d2 d3 d4 d5; have c7 := H3.cell 0 7 rfl rfl)))
    go_ret
    exact ⟨ret_bool (by rw [hr]), H3.below (Nat.le_refl _) (fun _ h => h.elim)⟩
  case inr.inr.inr.inr =>
    have hr0 : res = (na && decide (0 < gn) && (decide (0 < xr) == nr)) := by
      have e1 : decide (0 ≤ xr) = true := by simpa using h1
      have e2 : decide (xr ≤ 1073741824) = true := by simpa using h2
      rw [hokh.out, e1, e2]
      simp
    have hr := Lib.hid hr0
    clear hr0 c7 H2 H
    have hcc : na = false ∨ (na = true ∧ ¬ 0 < gn) ∨ (na = true ∧ 0 < gn) := by
      cases na
      · exact .inl rfl
      · by_cases h : 0 < gn
        · exact .inr (.inr ⟨rfl, h⟩)
        · exact .inr (.inl ⟨rfl, h⟩)
    rcases hcc with rfl | ⟨rfl, h3⟩ | ⟨rfl, h3⟩
    all_goals
      refine wp_calm (fun w' => St (fun _ => False) w w' [Blk b2 #[.string ⟨xk.toArray⟩, .int .i64 xf, .int .i64 xt, .int .i64 gn, .int .i64 ga, .slice xa TL xc, .complex .f64 X Y, .int .i64 xr] 68, Blk b #[.int .i64 kd, .int .i64 sz, .int .i64 sl, .int .i64 lt, .int .i64 ag, .int .i64 kk] 23]) (by kernel_rfl) (by kernel_rfl) (H3.drew) ?_
      iterate 21 first
        | (apply calm_pass
           · rfl
           intro K hK
           go_simp
           refine hK _ ?_
           clear hK K)
        | (apply calm_step
           · rfl
           · intro w1 h1
             have c0 := h1.cell 0 0 rfl rfl
             have c1 := h1.cell 0 1 rfl rfl
             have c2 := h1.cell 0 2 rfl rfl
             have c3 := h1.cell 0 3 rfl rfl
             have c4 := h1.cell 0 4 rfl rfl
             have c5 := h1.cell 0 5 rfl rfl
             have c6 := h1.cell 0 6 rfl rfl
             have c7 := h1.cell 0 7 rfl rfl
             have d0 := h1.cell 1 0 rfl rfl
             have d1 := h1.cell 1 1 rfl rfl
             have d2 := h1.cell 1 2 rfl rfl
             have d3 := h1.cell 1 3 rfl rfl
             have d4 := h1.cell 1 4 rfl rfl
             have d5 := h1.cell 1 5 rfl rfl
             first
               | (go_simp
                  first
                    | rfl
                    | exact ⟨rfl, h1⟩
                    | (go_at_call 80; with_reducible exact St.callPast (ka w1 (hro.later h1.kept)) h1)
                    | (go_at_call 129; with_reducible exact St.callPast (kr w1) h1)
                 )
           intro K hK
           go_simp
           refine hK _ ?_
           clear hK K)
      refine calm_nil ?_
      intro w9 H9
      go_wp2
      go_ret
      rw [hr.out]
      exact ⟨ret_bool (by first | (simp; done) | (simp [h3]; done) | (simp; intro h; omega)), H9.below (Nat.le_refl _) (fun _ h => h.elim)⟩

end Go.Proofs.YtiglgfonhdfpmaaGreat
