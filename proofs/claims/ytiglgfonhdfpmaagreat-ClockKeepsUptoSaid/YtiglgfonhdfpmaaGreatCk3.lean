import Derived.Test.YtiglgfonhdfpmaaGreatCk1
import Derived.Test.YtiglgfonhdfpmaaGreatCk2
import Derived.Lib.SliceRun
import Derived.Shelf.Small.Strs
import Derived.Shelf.Small.Wraps
import Derived.Deep.DeepAppendWide
import Derived.ProofKit
import Derived.OpenShut
import Derived.Deep.MidRow
/- A clock as plain data, and the walks of New, Good, See, Last, Tide. No condition but that numbers are such. -/
set_option linter.unusedVariables false
set_option linter.unusedSimpArgs false
namespace Go.Proofs.YtiglgfonhdfpmaaGreat
open Go.RowKit

structure Clk where
  slack : Int
  step : Int
  top : Int
  last : Int
def clkC (c : Clk) : Array Value := #[.int .i64 c.slack, .int .i64 c.step, .int .i64 c.top, .int .i64 c.last]
def clkGood (slack step : Int) : Bool := decide (0 ≤ slack) && decide (slack ≤ 1073741824) && decide (1 ≤ step) && decide (step ≤ 1073741824)
def timeOk (t : Int) : Bool := decide (0 ≤ t) && decide (t ≤ 1099511627776)
/-- A time is seen: the mark and whether there is one. -/
def Clk.see (c : Clk) (t : Int) : Clk × Int × Bool :=
  if timeOk t = false then (c, 0, false)
  else if max c.top t - c.slack < 0 ∨ (0 ≤ c.last ∧ max c.top t - c.slack < c.last + c.step) then ({ c with top := max c.top t }, 0, false)
  else ({ c with top := max c.top t, last := max c.top t - c.slack }, max c.top t - c.slack, true)
def Clk.ok (c : Clk) : Prop := (0 ≤ c.slack ∧ c.slack ≤ 1073741824) ∧ (1 ≤ c.step ∧ c.step ≤ 1073741824) ∧ (-1 ≤ c.top ∧ c.top ≤ 1099511627776) ∧ (-1 ≤ c.last ∧ c.last ≤ 1099511627776)
theorem see_ok {c : Clk} (h : c.ok) (t : Int) : (c.see t).1.ok := by
  obtain ⟨h1, h2, h3, h4⟩ := h
  unfold Clk.see
  split
  · exact ⟨h1, h2, h3, h4⟩
  · rename_i ht
    simp [timeOk] at ht
    split
    · exact ⟨h1, h2, by simp only; omega, h4⟩
    · exact ⟨h1, h2, by simp only; omega, by simp only; omega⟩
def newClk (slack step : Int) : Clk := ⟨slack, step, -1, -1⟩
theorem newClk_ok {slack step : Int} (h : clkGood slack step = true) : (newClk slack step).ok := by
  simp [clkGood] at h
  simp [Clk.ok, newClk]
  omega

theorem clk_bad {slack step : Int} (h : clkGood slack step = false) (w : World) : Calls Tryz.prog 88 #[.int .i64 slack, .int .i64 step] w fun e w' => e = .returned (.tuple #[.pointer none, .int .i64 2]) ∧ w' = w := by
  have hc : slack < 0 ∨ (¬ slack < 0 ∧ 1073741824 < slack) ∨ (¬ slack < 0 ∧ ¬ 1073741824 < slack ∧ step < 1) ∨ (¬ slack < 0 ∧ ¬ 1073741824 < slack ∧ ¬ step < 1 ∧ 1073741824 < step) := by
    simp [clkGood] at h
    omega
  clear h
  rcases hc with h1 | ⟨h1, h2⟩ | ⟨h1, h2, h3⟩ | ⟨h1, h2, h3, h4⟩
  all_goals
    go_enter Tryz.func88, Tryz.ntmps88
    go_wp2
    go_ret2
    exact ⟨rfl, rfl⟩
theorem clk_new {slack step : Int} (h : clkGood slack step = true) (w : World) : Calls Tryz.prog 88 #[.int .i64 slack, .int .i64 step] w fun e w' => ∃ b, e = .returned (.tuple #[.pointer (some ⟨b, 0, none⟩), .int .i64 0]) ∧ St (fun _ => False) w w' [Blk b (clkC (newClk slack step)) 218] := by
  have hc : ¬ slack < 0 ∧ ¬ 1073741824 < slack ∧ ¬ step < 1 ∧ ¬ 1073741824 < step := by
    simp [clkGood] at h
    omega
  obtain ⟨h1, h2, h3, h4⟩ := hc
  clear h
  go_enter Tryz.func88, Tryz.ntmps88
  go_wp2
  go_ret2
  exact ⟨_, rfl, (St.nil (fun _ => False) w).alloc _ _⟩
set_option maxHeartbeats 2000000 in
set_option maxRecDepth 100000 in
theorem clk_see {b : Nat} {c : Clk} {t : Int} {w : World} {S : Nat → Prop} (hc : c.ok) (H : Sep w [Blk b (clkC c) 218] S) :
    Calls Tryz.prog 90 #[.pointer (some ⟨b, 0, none⟩), .int .i64 t] w fun e w' => e = .returned (.tuple #[.int .i64 (c.see t).2.1, .bool (c.see t).2.2]) ∧ St S w w' [Blk b (clkC (c.see t).1) 218] := by
  have H0 : St S w w [Blk b (clkC c) 218] := St.refl H
  have hs : c.see t = if timeOk t = false then (c, 0, false) else if max c.top t - c.slack < 0 ∨ (0 ≤ c.last ∧ max c.top t - c.slack < c.last + c.step) then ({ c with top := max c.top t }, 0, false) else ({ c with top := max c.top t, last := max c.top t - c.slack }, max c.top t - c.slack, true) := rfl
  obtain ⟨⟨a1, a2⟩, ⟨a3, a4⟩, ⟨a5, a6⟩, ⟨a7, a8⟩⟩ := hc
  obtain ⟨slack, step, top, last⟩ := c
  simp only at hs a1 a2 a3 a4 a5 a6 a7 a8
  unfold clkC at H0
  simp only at H0
  have c0 := H0.cell 0 0 rfl rfl
  have c1 := H0.cell 0 1 rfl rfl
  have c2 := H0.cell 0 2 rfl rfl
  have c3 := H0.cell 0 3 rfl rfl
  have f2 := H0.free 0 2 rfl
  have f3 := H0.free 0 3 rfl
  have hb := H0.blk_lt 0 rfl
  by_cases h1 : t < 0
  · have z1 : decide (t < 0) = true := by simpa using h1
    have hsh := Lib.hid (hs.trans (if_pos (show timeOk t = false by simp [timeOk]; omega)))
    clear hs
    go_enter Tryz.func90, Tryz.ntmps90
    go_wp2
    go_ret2
    rw [hsh.out]
    exact ⟨rfl, H0⟩
  · have z1 : decide (t < 0) = false := by simpa using h1
    by_cases h2 : 1099511627776 < t
    · have z2 : decide (1099511627776 < t) = true := by simpa using h2
      have hsh := Lib.hid (hs.trans (if_pos (show timeOk t = false by simp [timeOk]; omega)))
      clear hs
      go_enter Tryz.func90, Tryz.ntmps90
      go_wp2
      go_ret2
      rw [hsh.out]
      exact ⟨rfl, H0⟩
    · have z2 : decide (1099511627776 < t) = false := by simpa using h2
      have hs := hs.trans (if_neg (show ¬ timeOk t = false by simp [timeOk]; omega))
      obtain ⟨mx, hmx⟩ : ∃ mx, max top t = mx := ⟨_, rfl⟩
      have hm1 : mx ≤ 1099511627776 ∧ 0 ≤ mx := by omega
      rw [hmx] at hs
      have hmx2 : (if top < t then t else top) = mx := by rw [← hmx]; split <;> omega
      have H1 : St S w _ [_] := H0.set 0 rfl 2 (.int .i64 mx)
      have hw1 : IntKind.i64.wrap (mx - slack) = mx - slack := by rw [IntKind.wrap_i64]; omega
      have hw2 : IntKind.i64.wrap (last + step) = last + step := by rw [IntKind.wrap_i64]; omega
      go_enter Tryz.func90, Tryz.ntmps90
      go_upto_region 4 with (fail)
      obtain ⟨w1, hw1'⟩ : ∃ w1, w.setCell ⟨b, 2, none⟩ (.int .i64 mx) = w1 := ⟨_, rfl⟩
      rw [hw1'] at H1
      try rw [hw1']
      have H1 : St S w w1 [Blk b #[.int .i64 slack, .int .i64 step, .int .i64 mx, .int .i64 last] 218] := H1
      clear hmx hw1' c0 c1 c2 c3 f2 f3 hb H0 hmx2
      refine wp_calm (fun w' => St S w w' [Blk b #[.int .i64 slack, .int .i64 step, .int .i64 mx, .int .i64 last] 218]) (by kernel_rfl) (by kernel_rfl) (H1.drew) ?_
      iterate 10 first
        | (apply calm_pass
           · rfl
           intro K hK
           go_simp
           refine hK _ ?_
           clear hK K)
        | (apply calm_step
           · rfl
           · intro w1 h1
             have c0 := h1.cell 0 0 rfl rfl
             have c2 := h1.cell 0 2 rfl rfl
             first
               | (go_simp
                  first
                    | rfl
                    | exact ⟨rfl, h1⟩
                 )
           intro K hK
           go_simp
           refine hK _ ?_
           clear hK K)
      refine calm_nil ?_
      intro w2 H2
      clear H1
      by_cases g1 : mx - slack < 0
      · have y1 : decide (mx - slack < 0) = true := by simpa using g1
        have hsh := Lib.hid (hs.trans (if_pos (.inl g1)))
        clear hs g1 h1 h2
        go_upto_region 5 with (fail)
        refine wp_calm (fun w' => St S w w' [Blk b #[.int .i64 slack, .int .i64 step, .int .i64 mx, .int .i64 last] 218]) (by kernel_rfl) (by kernel_rfl) (H2.drew) ?_
        iterate 22 first
          | (apply calm_pass
             · rfl
             intro K hK
             go_simp
             refine hK _ ?_
             clear hK K)
          | (apply calm_step
             · rfl
             · intro w1 h1
               first
                 | (go_simp
                    first
                      | rfl
                      | exact ⟨rfl, h1⟩
                   )
             intro K hK
             go_simp
             refine hK _ ?_
             clear hK K)
        refine calm_nil ?_
        intro w3 H3
        go_wp2
        go_ret2
        rw [hsh.out]
        exact ⟨rfl, H3⟩
      · have y1 : decide (mx - slack < 0) = false := by simpa using g1
        by_cases g2 : 0 ≤ last
        · have y2 : decide (0 ≤ last) = true := by simpa using g2
          by_cases g3 : mx - slack < last + step
          · have y3 : decide (mx - slack < last + step) = true := by simpa using g3
            have hsh := Lib.hid (hs.trans (if_pos (.inr ⟨g2, g3⟩)))
            clear hs g1 g2 g3 h1 h2
            go_upto_region 5 with (fail)
            refine wp_calm (fun w' => St S w w' [Blk b #[.int .i64 slack, .int .i64 step, .int .i64 mx, .int .i64 last] 218]) (by kernel_rfl) (by kernel_rfl) (H2.drew) ?_
            iterate 22 first
              | (apply calm_pass
                 · rfl
                 intro K hK
                 go_simp
                 refine hK _ ?_
                 clear hK K)
              | (apply calm_step
                 · rfl
                 · intro w1 h1
                   have c1 := h1.cell 0 1 rfl rfl
                   have c3 := h1.cell 0 3 rfl rfl
                   first
                     | (go_simp
                        first
                          | rfl
                          | exact ⟨rfl, h1⟩
                       )
                 intro K hK
                 go_simp
                 refine hK _ ?_
                 clear hK K)
            refine calm_nil ?_
            intro w3 H3
            go_wp2
            go_ret2
            rw [hsh.out]
            exact ⟨rfl, H3⟩
          · have y3 : decide (mx - slack < last + step) = false := by simpa using g3
            have hsh := Lib.hid (hs.trans (if_neg (fun h => h.elim g1 (fun h => g3 h.2))))
            clear hs g1 g2 g3 h1 h2
            go_upto_region 5 with (fail)
            refine wp_calm (fun w' => St S w w' [Blk b #[.int .i64 slack, .int .i64 step, .int .i64 mx, .int .i64 last] 218]) (by kernel_rfl) (by kernel_rfl) (H2.drew) ?_
            iterate 22 first
              | (apply calm_pass
                 · rfl
                 intro K hK
                 go_simp
                 refine hK _ ?_
                 clear hK K)
              | (apply calm_step
                 · rfl
                 · intro w1 h1
                   have c1 := h1.cell 0 1 rfl rfl
                   have c3 := h1.cell 0 3 rfl rfl
                   first
                     | (go_simp
                        first
                          | rfl
                          | exact ⟨rfl, h1⟩
                       )
                 intro K hK
                 go_simp
                 refine hK _ ?_
                 clear hK K)
            refine calm_nil ?_
            intro w3 H3
            have c3 := H3.cell 0 3 rfl rfl
            have f3 := H3.free 0 3 rfl
            have H4 : St S w _ [_] := H3.set 0 rfl 3 (.int .i64 (mx - slack))
            go_wp2
            go_ret2
            rw [hsh.out]
            exact ⟨rfl, H4⟩
        · have y2 : decide (0 ≤ last) = false := by simpa using g2
          have hsh := Lib.hid (hs.trans (if_neg (fun h => h.elim g1 (fun h => g2 h.1))))
          clear hs g1 g2 h1 h2
          go_upto_region 5 with (fail)
          refine wp_calm (fun w' => St S w w' [Blk b #[.int .i64 slack, .int .i64 step, .int .i64 mx, .int .i64 last] 218]) (by kernel_rfl) (by kernel_rfl) (H2.drew) ?_
          iterate 22 first
            | (apply calm_pass
               · rfl
               intro K hK
               go_simp
               refine hK _ ?_
               clear hK K)
            | (apply calm_step
               · rfl
               · intro w1 h1
                 have c3 := h1.cell 0 3 rfl rfl
                 first
                   | (go_simp
                      first
                        | rfl
                        | exact ⟨rfl, h1⟩
                     )
               intro K hK
               go_simp
               refine hK _ ?_
               clear hK K)
          refine calm_nil ?_
          intro w3 H3
          have c3 := H3.cell 0 3 rfl rfl
          have f3 := H3.free 0 3 rfl
          have H4 : St S w _ [_] := H3.set 0 rfl 3 (.int .i64 (mx - slack))
          go_wp2
          go_ret2
          rw [hsh.out]
          exact ⟨rfl, H4⟩

set_option maxHeartbeats 1000000 in
theorem clk_last {b : Nat} {c : Clk} {w : World} (hb : w.heap[b]? = some (.cells (clkC c) 218 (0, 0))) :
    Calls Tryz.prog 91 #[.pointer (some ⟨b, 0, none⟩)] w fun e w' => e = .returned (.tuple #[.int .i64 (if c.last < 0 then 0 else c.last), .bool (!decide (c.last < 0))]) ∧ Below w.heap.size w w' := by
  have c3 : w.cell? ⟨b, 3, none⟩ = some (.int .i64 c.last) := cell_blk' hb rfl
  have hlt := blk_lt hb
  have H0 : St (fun _ => False) w w [] := St.nil _ w
  clear hb
  obtain ⟨l, hl⟩ : ∃ l, c.last = l := ⟨_, rfl⟩
  rw [hl] at c3 ⊢
  by_cases h : l < 0
  · have z : decide (l < 0) = true := by simpa using h
    go_enter Tryz.func91, Tryz.ntmps91
    go_wp2
    go_ret2
    exact ⟨by simp [h], H0.below (Nat.le_refl _) (fun _ h => h.elim)⟩
  · have z : decide (l < 0) = false := by simpa using h
    go_enter Tryz.func91, Tryz.ntmps91
    go_wp2
    go_ret2
    exact ⟨by simp [h], H0.below (Nat.le_refl _) (fun _ h => h.elim)⟩
set_option maxHeartbeats 1000000 in
theorem clk_tide {b : Nat} {c : Clk} {w : World} (hc : c.ok) (hb : w.heap[b]? = some (.cells (clkC c) 218 (0, 0))) :
    Calls Tryz.prog 89 #[.pointer (some ⟨b, 0, none⟩)] w fun e w' => e = .returned (.tuple #[.int .i64 (if c.top < 0 then 0 else c.top - c.slack), .bool (!decide (c.top < 0))]) ∧ Below w.heap.size w w' := by
  have c2 : w.cell? ⟨b, 2, none⟩ = some (.int .i64 c.top) := cell_blk' hb rfl
  have c0 : w.cell? ⟨b, 0, none⟩ = some (.int .i64 c.slack) := cell_blk' hb rfl
  have hlt := blk_lt hb
  have H0 : St (fun _ => False) w w [] := St.nil _ w
  obtain ⟨⟨a1, a2⟩, _, ⟨a5, a6⟩, _⟩ := hc
  obtain ⟨l, hl⟩ : ∃ l, c.top = l := ⟨_, rfl⟩
  obtain ⟨k, hk⟩ : ∃ k, c.slack = k := ⟨_, rfl⟩
  rw [hl] at c2 a5 a6 ⊢
  rw [hk] at c0 a1 a2 ⊢
  clear hb hl hk
  by_cases h : l < 0
  · have z : decide (l < 0) = true := by simpa using h
    go_enter Tryz.func89, Tryz.ntmps89
    go_wp2
    go_ret2
    exact ⟨by simp [h], H0.below (Nat.le_refl _) (fun _ h => h.elim)⟩
  · have z : decide (l < 0) = false := by simpa using h
    have hw : IntKind.i64.wrap (l - k) = l - k := by rw [IntKind.wrap_i64]; omega
    go_enter Tryz.func89, Tryz.ntmps89
    go_upto_region 3 with (fail)
    refine wp_calm (fun w' => St (fun _ => False) w w' []) (by kernel_rfl) (by kernel_rfl) (H0.drew) ?_
    iterate 11 first
      | (apply calm_pass
         · rfl
         intro K hK
         go_simp
         refine hK _ ?_
         clear hK K)
      | (apply calm_step
         · rfl
         · intro w1 h1
           have q2 := (World.cell?_of_block (w := w) (a := ⟨b, 2, none⟩) (h1.kept.block b hlt id)).trans c2
           have q0 := (World.cell?_of_block (w := w) (a := ⟨b, 0, none⟩) (h1.kept.block b hlt id)).trans c0
           first
             | (go_simp
                first
                  | rfl
                  | exact ⟨rfl, h1⟩
               )
         intro K hK
         go_simp
         refine hK _ ?_
         clear hK K)
    refine calm_nil ?_
    intro w3 H3
    go_wp2
    go_ret2
    exact ⟨by simp [h], H3.below (Nat.le_refl _) (fun _ h => h.elim)⟩

end Go.Proofs.YtiglgfonhdfpmaaGreat

/- slices.Clone, IndexFunc, DeleteFunc at items with clock's predicate; clock's events. Condition: so many items. -/
set_option linter.unusedVariables false
set_option linter.unusedSimpArgs false
namespace Go.Proofs.YtiglgfonhdfpmaaGreat
open Go.RowKit

set_option maxHeartbeats 1000000 in
set_option maxRecDepth 100000 in
theorem clk_not (x : Itm) (hx : x.fits) (w : World) : Calls Tryz.prog 154 #[itmV x] w fun e w' => e = .returned (.bool (!x.counts)) ∧ Below w.heap.size w w' := by
  have kr := fun w' => ev_right x hx w'
  have hc : x.counts = (decide (x.kind = 1) && x.right) := rfl
  obtain ⟨rt, hrt⟩ : ∃ rt, x.right = rt := ⟨_, rfl⟩
  rw [hrt] at kr hc
  clear hrt
  have hch := Lib.hid hc
  clear hc
  obtain ⟨k, key, t, v⟩ := x
  have H : St (fun _ => False) w (w.alloc (.cells #[.int .i64 k, textV key, .int .i64 t, .int .i64 v] 56)) [Blk w.heap.size #[.int .i64 k, textV key, .int .i64 t, .int .i64 v] 56] := (St.nil (fun _ => False) w).alloc _ _
  unfold itmV textV at kr
  unfold textV at H
  unfold itmV
  simp only at kr hch
  obtain ⟨w1, hw1⟩ : ∃ w1, w.alloc (.cells #[.int .i64 k, .string ⟨key.toArray⟩, .int .i64 t, .int .i64 v] 56) = w1 := ⟨_, rfl⟩
  obtain ⟨b, hb⟩ : ∃ b, w.heap.size = b := ⟨_, rfl⟩
  unfold textV
  simp only
  go_enter Tryz.func154, Tryz.ntmps154
  go_upto_region 1 with (fail)
  rw [hw1, hb] at H
  try rw [hw1]
  try rw [hb]
  clear hw1 hb
  have c0 := H.cell 0 0 rfl rfl
  have c1 := H.cell 0 1 rfl rfl
  have c2 := H.cell 0 2 rfl rfl
  have c3 := H.cell 0 3 rfl rfl
  cases rt with
  | false =>
    go_wp2_with (go_at_call 71; go_must (refine (St.callPast (kr _) H).mono ?_; rintro e w2 ⟨rfl, H2⟩))
    go_ret
    rw [hch.out]
    exact ⟨by simp, H2.below (Nat.le_refl _) (fun _ h => h.elim)⟩
  | true =>
    by_cases h1 : k = 1
    · subst h1
      go_wp2_with (go_at_call 71; go_must (refine (St.callPast (kr _) H).mono ?_; rintro e w2 ⟨rfl, H2⟩; have d0 := H2.cell 0 0 rfl rfl))
      go_ret
      rw [hch.out]
      exact ⟨by simp, H2.below (Nat.le_refl _) (fun _ h => h.elim)⟩
    · have y1 : (k == 1) = false := by simpa using h1
      have hf := Lib.hid (show decide (k = 1) = false by simpa using h1)
      go_wp2_with (go_at_call 71; go_must (refine (St.callPast (kr _) H).mono ?_; rintro e w2 ⟨rfl, H2⟩; have d0 := H2.cell 0 0 rfl rfl))
      go_ret
      rw [hch.out, hf.out]
      exact ⟨by simp [h1], H2.below (Nat.le_refl _) (fun _ h => h.elim)⟩

set_option maxHeartbeats 1000000 in
set_option maxRecDepth 100000 in
theorem itms_clone {v : Value} {l : List Itm} {w : World} (hv : ItmsRO w v l) (hl : l.length ≤ 3518437208880) :
    Calls Tryz.prog 86 #[v] w fun e w' => ∃ v', e = .returned v' ∧ St (fun _ => False) w w' [Row 56 4 v' l.length (itms l)] := by
  obtain ⟨ad, cap, rfl, h0, hcell⟩ := hv.cells
  cases ad with
  | none =>
    obtain rfl := h0 rfl
    have hq := fun w => Lib.run_eql_slice_nil (P := Tryz.prog) w 41 56 none 0 cap 0 0 Tryz.underlying41
    go_enter Tryz.func86, Tryz.ntmps86
    go_wp2
    go_ret
    exact ⟨_, rfl, (St.nil _ w).row_nil 56 4⟩
  | some a =>
    have hnew : St (fun _ => False) w (w.alloc (.cells #[] 56)) [Row 56 4 (.slice (some ⟨w.heap.size, 0, none⟩) 0 0) 0 []] := by
      refine ⟨(Kept.refl _ _).alloc _, fun k => k = w.heap.size, ⟨?_, fun k => by simp [Value.ownBlock, eq_comm]⟩, fun k h => .inr (by omega), trivial⟩
      exact World.ownsRow_lit w #[] 0 (Nat.zero_le _) (by simp [maxLen]) rfl
    have hnews : ∀ p, some a = some p → ∀ j u, (itms l)[j]? = some u → (w.alloc (.cells #[] 56)).cell? (p.add j) = some u := fun p hp j u hj => Lib.cell?_alloc_some _ (hcell p hp j u hj)
    have hlen := itms_len l
    have hb : (0 + l.length) * 40 ≤ 140737488355328 := by omega
    have h1 := itms_one1 l
    clear hcell h0
    have hq := fun w => Lib.run_eql_slice_nil (P := Tryz.prog) w 41 56 (some a) l.length cap 0 0 Tryz.underlying41
    go_enter Tryz.func86, Tryz.ntmps86
    go_wp2_with (at_builtin; go_must (refine St.list_add hnew 0 rfl rfl (.tmp 5) (.tmp 6) 41 rfl Tryz.underlying41 Tryz.info56 (by decide) rfl (itms l) rfl hlen (by intro h; cases h) hnews h1 hb ?_; intro v' w1 H1 hz))
    go_ret
    exact ⟨v', rfl, by simpa using H1⟩

def notV : Value := .func (.func 154) #[] #[]
set_option maxHeartbeats 1000000 in
set_option maxRecDepth 100000 in
theorem itms_index {v : Value} {l : List Itm} {w : World} (hv : ItmsRO w v l) (hl : l.length ≤ 3518437208880) :
    Calls Tryz.prog 205 #[v, notV] w fun e w' => ∃ r : Int, e = .returned (.int .i64 r) ∧ ((r = -1 ∧ ∀ x ∈ l, x.counts = true) ∨ ∃ k : Nat, r = k ∧ (∃ x, l[k]? = some x ∧ x.counts = false) ∧ ∀ x ∈ l.take k, x.counts = true) ∧ Below w.heap.size w w' := by
  obtain ⟨ao, cap, rfl, hcap, hfit, hic⟩ := hv
  have H0 : St (fun _ => False) w w [] := St.nil _ w
  unfold notV
  go_enter Tryz.func205, Tryz.ntmps205
  go_upto_block 1 with (fail)
  go_loopw [5, 8] (fun _ j wr => ∃ (k : Nat), k ≤ l.length ∧ j = .int .i64 k ∧ (∀ x ∈ l.take k, x.counts = true) ∧ St (fun _ => False) w wr []) (fun _ j _ => l.length - (intOf j).toNat)
  case atStart => exact ⟨0, by omega, rfl, by simp, H0⟩
  case round =>
    clear H0
    obtain ⟨k, hk, rfl, hall, HM⟩ := hrel
    by_cases hkl : k < l.length
    · obtain ⟨b2, o2, rfl, hb2, hc2⟩ := hic (by intro e; rw [e] at hkl; simp at hkl)
      obtain ⟨x, hx⟩ : ∃ x, l[k]? = some x := ⟨_, List.getElem?_eq_getElem hkl⟩
      have hxf := hfit x (List.mem_of_getElem? hx)
      obtain ⟨q0, q1, q2, q3⟩ := itm_cells (hc2 k x hx) (HM.kept.block b2 hb2 id)
      have kr := fun w' => clk_not x hxf w'
      have hxh := Lib.hid hx
      have hallh := Lib.hid hall
      obtain ⟨ct, hcv⟩ : ∃ ct, x.counts = ct := ⟨_, rfl⟩
      rw [hcv] at kr
      have hcvh := Lib.hid hcv
      clear hx hc2 hic hfit hcv hall
      obtain ⟨xk, xy, xt, xv⟩ := x
      unfold itmV textV at kr
      simp only at q0 q1 q2 q3 kr
      unfold textV at q1
      cases ct with
      | true =>
        go_wp2_with (go_at_call 154; go_must (refine (St.callPast (kr _) HM).mono ?_; rintro e w3 ⟨rfl, H3⟩))
        go_roundw
        case rel =>
          refine ⟨k + 1, by omega, by go_num, fun y hy => ?_, H3⟩
          rw [take_snoc' hxh.out] at hy
          rcases List.mem_append.1 hy with hy | hy
          · exact hallh.out y hy
          · obtain rfl := List.mem_singleton.1 hy
            exact hcvh.out
        case measure => simp [intOf]; omega
      | false =>
        go_wp2_with (go_at_call 154; go_must (refine (St.callPast (kr _) HM).mono ?_; rintro e w3 ⟨rfl, H3⟩))
        go_ret
        exact ⟨_, rfl, .inr ⟨k, rfl, ⟨_, hxh.out, hcvh.out⟩, hallh.out⟩, H3.below (Nat.le_refl _) (fun _ h => h.elim)⟩
    · obtain rfl : k = l.length := by omega
      rw [List.take_length] at hall
      have hallh := Lib.hid hall
      clear hall
      go_wp2
      go_ret
      exact ⟨_, rfl, .inl ⟨rfl, hallh.out⟩, HM.below (Nat.le_refl _) (fun _ h => h.elim)⟩
end Go.Proofs.YtiglgfonhdfpmaaGreat

/- slices.DeleteFunc at items with clock's predicate; clock's events. Condition: so many items. -/
set_option linter.unusedVariables false
set_option linter.unusedSimpArgs false
namespace Go.Proofs.YtiglgfonhdfpmaaGreat
open Go.RowKit

theorem run_storeItm {w : World} {a : Act} {dst : Option Tmp} {ty' : TypeId} {pos : String} {after : Array Edge} {g : Option (Nat × Bool)} {x y : Operand}
    (hp : plainPtr (a.eval x) = true) (hr : mayCells w (blockOf (a.eval x)) (placeOf (a.eval x)) 4 = true) (hv : isAggV (a.eval y) = true) (hs : (aggOf (a.eval y)).size = 4) (h1 : allOne (aggOf (a.eval y)) = true) :
    (execOp a.eval ⟨dst, .store 56 x y, ty', pos, after, g⟩).run Tryz.prog w = .ok .skip (w.setCells (blockOf (a.eval x)) (placeOf (a.eval x)) (aggOf (a.eval y)).toList) :=
  run_store_mid (by kernel_rfl) hp hr hv hs h1

theorem run_clear_any {P : Program} (w : World) (t e ty : TypeId) (z : Value) (ht : P.underlying t = some (.slice e)) (hv : ∀ w, (zeroValue e).run P w = .ok z w) (b o n c m : Nat) (hn : 0 < n)
    (hm : (Builtin.zeroCells z.cells n).size = m) (hc : mayCells w b o m = true) (h1 : ∀ v ∈ (Builtin.zeroCells z.cells n).toList, v.oneCell' = true) :
    (Builtin.clear_ #[t] ty #[.slice (some ⟨b, o, none⟩) n c]).run P w = .ok (.tuple #[]) (w.setCells b o (Builtin.zeroCells z.cells n).toList) := by
  have hth := mayCells_there hc
  have hst := run_storeCells_cells (P := P) b o (Builtin.zeroCells z.cells n).toList 0 w (fun j hj => by simpa using (hth j (by rw [← hm]; simpa using hj)).1) (fun j hj => by simpa using (hth j (by rw [← hm]; simpa using hj)).2) h1
  simp only [Nat.add_zero] at hst
  obtain ⟨k, rfl⟩ : ∃ k, n = k + 1 := ⟨n - 1, by omega⟩
  simp [Builtin.clear_, run_underlying ht, hv, hst]
theorem zero_itms (n : Nat) : (Builtin.zeroCells (Value.agg #[.int .i64 0, .string ⟨#[]⟩, .int .i64 0, .int .i64 0]).cells n).size = n * 4 ∧ ∀ v ∈ (Builtin.zeroCells (Value.agg #[.int .i64 0, .string ⟨#[]⟩, .int .i64 0, .int .i64 0]).cells n).toList, v.oneCell' = true := by
  refine ⟨by simp [Builtin.zeroCells, Value.cells], fun v hv => ?_⟩
  simp only [Builtin.zeroCells, Value.cells, Array.toList_map, List.mem_map] at hv
  obtain ⟨i, _, rfl⟩ := hv
  have : i % 4 < 4 := by omega
  show (#[Value.int .i64 0, .string ⟨#[]⟩, .int .i64 0, .int .i64 0][i % 4]!).oneCell' = true
  have h : i % 4 = 0 ∨ i % 4 = 1 ∨ i % 4 = 2 ∨ i % 4 = 3 := by omega
  rcases h with h | h | h | h <;> rw [h] <;> rfl

theorem filt_snoc {l : List Itm} {j : Nat} {x : Itm} (h : l[j]? = some x) : (l.take (j + 1)).filter Itm.counts = if x.counts = true then (l.take j).filter Itm.counts ++ [x] else (l.take j).filter Itm.counts := by
  rw [take_snoc' h, List.filter_append]
  by_cases hx : x.counts = true
  · rw [if_pos hx]; simp [hx]
  · rw [if_neg hx]; simp [hx]
theorem blk_itms {w : World} {g : Nat} {L : List Itm} {R : List Value} {t : TypeId} (h : w.heap[g]? = some (.cells (itms L ++ R).toArray t (0, 0))) {j : Nat} {x : Itm} (hx : L[j]? = some x) :
    w.cell? ⟨g, j * 4, none⟩ = some (.int .i64 x.kind) ∧ w.cell? ⟨g, j * 4 + 1, none⟩ = some (textV x.key) ∧ w.cell? ⟨g, j * 4 + 2, none⟩ = some (.int .i64 x.time) ∧ w.cell? ⟨g, j * 4 + 3, none⟩ = some (.int .i64 x.value) := by
  have key : ∀ c v, (itmC x).toList[c]? = some v → w.cell? ⟨g, j * 4 + c, none⟩ = some v := fun c v hv => by
    have h2 := itms_get hx hv
    have hlt := (List.getElem?_eq_some_iff.1 h2).1
    refine cell_blk' h ?_
    rw [List.getElem?_toArray, List.getElem?_append_left hlt]
    exact h2
  exact ⟨key 0 _ rfl, key 1 _ rfl, key 2 _ rfl, key 3 _ rfl⟩

theorem take_set1 {α : Type} {L : List α} {i : Nat} (x : α) (hi : i < L.length) : (L.set i x).take (i + 1) = L.take i ++ [x] := by
  rw [take_snoc' (l := L.set i x) (x := x) (by simp [hi]), List.take_set, List.set_eq_of_length_le (by rw [List.length_take]; omega)]
/-- An item is stored into a row, as an operation of a plain list. -/
theorem St.list_storeItm {S : Nat → Prop} {w0 w : World} {l : List SP} (H : St S w0 w l) (i : Nat) {g : Nat} {L : List Itm} {R : List Value} {t : TypeId} (hi : l[i]? = some (Blk g (itms L ++ R).toArray t)) (k : Nat) (hk : k < L.length) (x : Itm)
    {ops : Array Oper} {rest : List Oper} {o : Oper} {a : Act} {Q : Exit → Act → World → Prop} (hgd : o.guard = none) (y z : Operand) (ho : o.op = .store 56 y z)
    (hy : a.eval y = .pointer (some ⟨g, k * 4, none⟩)) (hz : a.eval z = itmV x)
    (h : ∀ w', St S w0 w' (l.set i (Blk g (itms (L.set k x) ++ R).toArray t)) → w.heap.size ≤ w'.heap.size → wpList Tryz.prog ops Q rest (a.put o.dst undef) w') : wpList Tryz.prog ops Q (o :: rest) a w := by
  have hlen := itms_len L
  have hm : mayCells w g (k * 4) 4 = true := mayCells_blk (H.blk i hi) (by simp only [List.size_toArray, List.length_append]; omega)
  have h2 := St.setCells i (itmC x).toList (k * 4) (itms L ++ R) w l H hi (by simp only [List.length_append]; show k * 4 + 4 ≤ _; omega)
  rw [itms_set R x hk] at h2
  obtain ⟨dst, op, ty', pos, after, gd⟩ := o
  simp only at ho hgd
  subst ho hgd
  refine wpList_plain rfl fun _ hK => ?_
  unfold Oper.wp
  have hr := run_storeItm (w := w) (a := a) (dst := dst) (ty' := ty') (pos := pos) (after := after) (g := none) (x := y) (y := z) (by rw [hy]; rfl) (by rw [hy]; exact hm) (by rw [hz]; rfl) (by rw [hz]; rfl) (by rw [hz]; simp [allOne, aggOf, Value.oneCell', textV])
  rw [hr, hy, hz]
  exact hK _ _ (h _ h2 (by
    have hsz : ∀ (vs : List Value) (o : Nat) (w : World), (w.setCells g o vs).heap.size = w.heap.size := by
      intro vs
      induction vs with
      | nil => intros; rfl
      | cons v r ih => intro o w; show ((w.setCell _ v).setCells g (o + 1) r).heap.size = _; rw [ih]; simp
    show _ ≤ (w.setCells g (k * 4) (itmC x).toList).heap.size
    rw [hsz]
    exact Nat.le_refl _))

section
set_option maxHeartbeats 4000000 in
set_option maxRecDepth 100000 in
theorem itms_delete {v : Value} {l : List Itm} {w : World} {S : Nat → Prop} (hfit : ∀ x ∈ l, x.fits) (hl : l.length ≤ 3518437208880) (H : Sep w [Row 56 4 v l.length (itms l)] S) :
    Calls Tryz.prog 153 #[v, notV] w fun e w' => ∃ v', e = .returned v' ∧ St S w w' [Row 56 4 v' (l.filter Itm.counts).length (itms (l.filter Itm.counts))] := by
  have H0 := St.refl H
  have ki := itms_index (itms_own (H0.row 0 rfl) hfit) hl
  unfold notV at ki
  obtain ⟨ua, uc, rfl, huc, _⟩ := slice_form' (H0.row 0 rfl)
  by_cases hall : ∀ x ∈ l, x.counts = true
  · have hfe : l.filter Itm.counts = l := List.filter_eq_self.2 hall
    have hfh := Lib.hid hfe
    have hah := Lib.hid hall
    clear hfe hall H
    have ki2 := ki.mono (fun e w' (h : ∃ r : Int, e = .returned (.int .i64 r) ∧ ((r = -1 ∧ ∀ x ∈ l, x.counts = true) ∨ ∃ k : Nat, r = k ∧ (∃ x, l[k]? = some x ∧ x.counts = false) ∧ ∀ x ∈ l.take k, x.counts = true) ∧ Below w.heap.size w w') => show e = .returned (.int .i64 (-1)) ∧ Below w.heap.size w w' by
      obtain ⟨r, rfl, h | ⟨k, _, ⟨x, hx, hx2⟩, _⟩, hb⟩ := h
      · rw [h.1]; exact ⟨rfl, hb⟩
      · rw [hah.out x (List.mem_of_getElem? hx)] at hx2; cases hx2)
    clear ki
    unfold notV
    go_enter Tryz.func153, Tryz.ntmps153
    go_wp2_with (go_at_call 205; go_must (refine ki2.mono ?_; rintro e w3 ⟨rfl, hb3⟩))
    go_ret
    rw [hfh.out]
    exact ⟨_, rfl, H0.past hb3⟩
  · have hah := Lib.hid hall
    have ki2 := ki.mono (fun e w' (h : ∃ r : Int, e = .returned (.int .i64 r) ∧ ((r = -1 ∧ ∀ x ∈ l, x.counts = true) ∨ ∃ k : Nat, r = k ∧ (∃ x, l[k]? = some x ∧ x.counts = false) ∧ ∀ x ∈ l.take k, x.counts = true) ∧ Below w.heap.size w w') => show ∃ k : Nat, e = .returned (.int .i64 k) ∧ (∃ x, l[k]? = some x ∧ x.counts = false) ∧ (∀ x ∈ l.take k, x.counts = true) ∧ Below w.heap.size w w' by
      obtain ⟨r, rfl, h | ⟨k, rfl, h⟩, hb⟩ := h
      · exact absurd h.2 hah.out
      · exact ⟨k, rfl, h.1, h.2, hb⟩)
    clear ki hall
    have hln : l.length ≠ 0 := by
      intro h
      obtain rfl := List.eq_nil_of_length_eq_zero h
      exact hah.out (by simp)
    obtain ⟨g, cap, R, hv, hnc, hcm, hxl, hcs, HB⟩ := H0.row_blk 0 rfl hln
    obtain ⟨rfl, rfl⟩ : ua = some ⟨g, 0, none⟩ ∧ uc = cap := by injection hv with h1 _ h2; exact ⟨h1, h2⟩
    have HB : St S w w [Blk g (itms l ++ R).toArray 56] := HB
    clear hv H hah H0
    unfold notV
    go_enter Tryz.func153, Tryz.ntmps153
    go_upto_block 1 with (go_at_call 205; go_must (refine ki2.mono ?_; rintro e w3 ⟨k0, rfl, ⟨x0, hx0, hx02⟩, hk2, hb3⟩; have hk0 := (List.getElem?_eq_some_iff.1 hx0).1; have hk1 : ((k0 : Int) == -1) = false := beq_eq_false_iff_ne.2 (by omega)))
    have HB2 := HB.past hb3
    have hf0 : (l.take k0).filter Itm.counts = l.take k0 := List.filter_eq_self.2 hk2
    have hstart := Lib.hid (show (l.take (k0 + 1)).filter Itm.counts = l.take k0 by rw [filt_snoc hx0, if_neg (by rw [hx02]; simp), hf0])
    clear hb3 HB ki2 hx0 hx02 hk2 hf0
    go_loopw [5, 6, 7] (fun s5 s6 _ wr => ∃ (i j : Nat) (L : List Itm), s5 = .int .i64 i ∧ s6 = .int .i64 j ∧ i < j ∧ j ≤ l.length ∧ L.length = l.length ∧ Hid (L.take i = (l.take j).filter Itm.counts) ∧ Hid (L.drop j = l.drop j) ∧ St S w wr [Blk g (itms L ++ R).toArray 56]) (fun _ s6 _ _ => l.length - (intOf s6).toNat)
    case atStart => exact ⟨k0, k0 + 1, l, rfl, by go_num, by omega, by omega, rfl, Lib.hid hstart.out.symm, Lib.hid rfl, HB2⟩
    case round =>
      clear HB2 hstart
      obtain ⟨i, j, L, rfl, rfl, hij, hj, hL, hF, hD, HM⟩ := hrel
      by_cases hlt : j < l.length
      · have hil : i < l.length := by omega
        have hil2 : (i : Int) < (l.length : Int) := by omega
        obtain ⟨x, hx⟩ : ∃ x, l[j]? = some x := ⟨_, List.getElem?_eq_getElem hlt⟩
        have hxL : L[j]? = some x := by
          have e1 : (L.drop j)[0]? = L[j]? := by simp
          have e2 : (l.drop j)[0]? = l[j]? := by simp
          rw [← e1, hD.out, e2, hx]
        have hxf := hfit x (List.mem_of_getElem? hx)
        obtain ⟨q0, q1, q2, q3⟩ := blk_itms (HM.blk 0 rfl) hxL
        have kr := fun w' => clk_not x hxf w'
        have hxh := Lib.hid hx
        obtain ⟨ct, hcv⟩ : ∃ ct, x.counts = ct := ⟨_, rfl⟩
        rw [hcv] at kr
        have hcvh := Lib.hid hcv
        clear hx hcv hxL
        obtain ⟨xk, xy, xt, xv⟩ := x
        unfold itmV textV at kr
        simp only at q0 q1 q2 q3 kr
        unfold textV at q1
        have HA : St S w _ [_, _] := HM.allocAt rfl #[.int .i64 xk, .string ⟨xy.toArray⟩, .int .i64 xt, .int .i64 xv] 56
        go_upto_region 8 with (fail)
        obtain ⟨wb, hwb⟩ : ∃ wb, wr.alloc (.cells #[.int .i64 xk, .string ⟨xy.toArray⟩, .int .i64 xt, .int .i64 xv] 56) = wb := ⟨_, rfl⟩
        obtain ⟨xb, hxb⟩ : ∃ xb, wr.heap.size = xb := ⟨_, rfl⟩
        rw [hwb, hxb] at HA
        try rw [hwb]
        try simp only [hxb]
        have HA2 : St S w wb [Blk xb #[.int .i64 xk, .string ⟨xy.toArray⟩, .int .i64 xt, .int .i64 xv] 56, Blk g (itms L ++ R).toArray 56] := HA
        clear hwb hxb q0 q1 q2 q3 HM HA
        have d0 := HA2.cell 0 0 rfl rfl
        have d1 := HA2.cell 0 1 rfl rfl
        have d2 := HA2.cell 0 2 rfl rfl
        have d3 := HA2.cell 0 3 rfl rfl
        cases ct with
        | true =>
          have hiL : i < L.length := by omega
          go_wp2_with (first
            | (go_at_call 154; go_must (refine (St.callPast (kr _) HA2).mono ?_; rintro e w3 ⟨rfl, H3⟩; have d0 := H3.cell 0 0 rfl rfl; have d1 := H3.cell 0 1 rfl rfl; have d2 := H3.cell 0 2 rfl rfl; have d3 := H3.cell 0 3 rfl rfl))
            | (with_reducible refine St.list_storeItm H3 1 rfl i hiL ⟨xk, xy, xt, xv⟩ rfl (.tmp 33) (.tmp 32) rfl rfl rfl ?_; intro w5 H5 hz5))
          go_roundw
          case rel =>
            refine ⟨i + 1, j + 1, L.set i ⟨xk, xy, xt, xv⟩, by go_num, by go_num, by omega, by omega, by rw [List.length_set]; exact hL, Lib.hid ?_, Lib.hid ?_, St.tail H5⟩
            · rw [filt_snoc hxh.out, if_pos hcvh.out, ← hF.out]
              exact take_set1 _ hiL
            · rw [List.drop_set_of_lt (by omega), ← List.drop_drop, hD.out, List.drop_drop]
          case measure => simp [intOf]; omega
        | false =>
          go_wp2_with (go_at_call 154; go_must (refine (St.callPast (kr _) HA2).mono ?_; rintro e w3 ⟨rfl, H3⟩; have d0 := H3.cell 0 0 rfl rfl; have d1 := H3.cell 0 1 rfl rfl; have d2 := H3.cell 0 2 rfl rfl; have d3 := H3.cell 0 3 rfl rfl))
          go_roundw
          case rel =>
            refine ⟨i, j + 1, L, rfl, by go_num, by omega, by omega, hL, Lib.hid ?_, Lib.hid ?_, St.tail H3⟩
            · rw [filt_snoc hxh.out, if_neg (by rw [hcvh.out]; simp)]; exact hF.out
            · rw [← List.drop_drop, hD.out, List.drop_drop]
          case measure => simp [intOf]; omega
      · obtain rfl : j = l.length := by omega
        rw [List.take_length] at hF
        have hFh := Lib.hid hF.out
        have hlenF : (l.filter Itm.counts).length = i := by rw [← hF.out, List.length_take]; omega
        have hlenF := Lib.hid hlenF
        obtain ⟨zl, zo⟩ := zero_itms (l.length - i)
        have hsz := itms_len L
        have hmm : mayCells wr g (i * 4) ((l.length - i) * 4) = true := mayCells_blk (HM.blk 0 rfl) (by simp only [List.size_toArray, List.length_append]; omega)
        have hcl : ∀ ty, (Builtin.clear_ #[41] ty #[.slice (some ⟨g, i * 4, none⟩) (l.length - i) (uc - i)]).run Tryz.prog wr = _ := fun ty => run_clear_any wr _ _ ty _ Tryz.underlying41 Tryz.zeroValue56 g (i * 4) _ _ _ (by omega) zl hmm zo
        have H5 := St.setCells 0 (Builtin.zeroCells (Value.agg #[.int .i64 0, .string ⟨#[]⟩, .int .i64 0, .int .i64 0]).cells (l.length - i)).toList (i * 4) (itms L ++ R) wr _ HM rfl (by simp only [List.length_append, Array.length_toList, zl]; omega)
        go_wp2
        go_ret
        rw [hFh.out] at hF
        have H6 := H5.blk_row 0 (e := 56) (size := 4) (cap := uc) (n := i) (xs := itms (L.take i)) rfl (by omega) hcm (by
          have h3 : (itms L ++ R).length = uc * 4 := by rw [List.length_append, itms_len, hL]; simpa [itms_len] using hcs
          rw [length_splice _ _ _ (by simp only [List.length_append, Array.length_toList, zl]; omega)]
          exact h3) (by
          unfold splice
          have e1 : itms (L.take i) = (itms L ++ R).take (i * 4) := by
            have e2 : itms L = itms (L.take i) ++ itms (L.drop i) := by rw [← itms_app, List.take_append_drop]
            have e3 : (itms (L.take i)).length = i * 4 := by rw [itms_len, List.length_take]; omega
            rw [e2, List.append_assoc, List.take_append_of_le_length (by omega), List.take_of_length_le (l := itms (L.take i)) (by omega)]
          rw [e1, List.take_append_of_le_length (by rw [List.length_take, List.length_append]; omega), List.take_of_length_le (by rw [List.length_take]; omega)])
        rw [hFh.out] at H6
        refine ⟨_, rfl, ?_⟩
        rw [hlenF.out]
        exact H6
end
end Go.Proofs.YtiglgfonhdfpmaaGreat

/- Windows in rows: laws. -/
set_option linter.unusedVariables false
set_option linter.unusedSimpArgs false
namespace Go.Proofs.YtiglgfonhdfpmaaGreat
open Go.RowKit

abbrev wdC (x : Wd) : Array Value := #[textV x.key, .int .i64 x.frm, .int .i64 x.to]
abbrev wdV (x : Wd) : Value := .agg (wdC x)
theorem Tryz.info61 : (Tryz.prog.info? 61).map (fun i => (i.zero, i.size, i.bytes)) = some (some (.agg #[.string ⟨#[]⟩, .int .i64 0, .int .i64 0]), 3, 32) := by kernel_rfl
def wds (l : List Wd) : List Value := (l.map fun x => (wdC x).toList).flatten
theorem wds_app (l m : List Wd) : wds (l ++ m) = wds l ++ wds m := by simp [wds]
theorem wds_one (x : Wd) : wds [x] = [textV x.key, .int .i64 x.frm, .int .i64 x.to] := by simp [wds]
theorem wds_len (l : List Wd) : (wds l).length = l.length * 3 := by
  induction l with
  | nil => rfl
  | cons x l ih => simp only [wds, List.map_cons, List.flatten_cons, List.length_append, List.length_cons] at ih ⊢; rw [ih]; simp; omega
theorem wds_get {l : List Wd} {i j : Nat} {x : Wd} {v : Value} (hi : l[i]? = some x) (hj : (wdC x).toList[j]? = some v) : (wds l)[i * 3 + j]? = some v := by
  have hk : ∀ y ∈ l.map fun x => (wdC x).toList, y.length = 3 := by
    intro y hy
    obtain ⟨x, _, rfl⟩ := List.mem_map.1 hy
    rfl
  have hi2 : (l.map fun x => (wdC x).toList)[i]? = some (wdC x).toList := by rw [List.getElem?_map, hi]; rfl
  have hj4 : j < 3 := (List.getElem?_eq_some_iff.1 hj).1
  exact (flat_get hk hi2 hj4).trans hj
theorem wds_one1 (l : List Wd) : ∀ u ∈ wds l, u.oneCell' = true := by
  intro u hu
  obtain ⟨y, hy, hu⟩ := List.mem_flatten.1 hu
  obtain ⟨x, _, rfl⟩ := List.mem_map.1 hy
  simp at hu
  rcases hu with rfl | rfl | rfl <;> rfl

/-- Items that can be read. -/
def WdsRO (w : World) (v : Value) (l : List Wd) : Prop :=
  ∃ ad cap, v = .slice ad l.length cap ∧ l.length ≤ cap ∧ (∀ x ∈ l, x.fits) ∧ (l ≠ [] → ∃ b o, ad = some ⟨b, o, none⟩ ∧ b < w.heap.size ∧ ∀ i x, l[i]? = some x → w.rangeAt b (o + i * 3) (wdC x).toList)
theorem WdsRO.later {w w' : World} {v : Value} {l : List Wd} (hv : WdsRO w v l) (hk : Kept (fun _ => False) w w') : WdsRO w' v l := by
  obtain ⟨ad, cap, e1, e2, e3, e4⟩ := hv
  refine ⟨ad, cap, e1, e2, e3, fun hl => ?_⟩
  obtain ⟨b, o, g1, g2, g4⟩ := e4 hl
  exact ⟨b, o, g1, Nat.lt_of_lt_of_le g2 hk.size, fun i x hi j v hj => (World.cell?_of_block (w := w) (hk.block b g2 id)).trans (g4 i x hi j v hj)⟩
theorem wd_cells {w w' : World} {b o i : Nat} {x : Wd} (h : w.rangeAt b (o + i * 3) (wdC x).toList) (hb : w'.heap[b]? = w.heap[b]?) :
    w'.cell? ⟨b, o + i * 3, none⟩ = some (textV x.key) ∧ w'.cell? ⟨b, o + i * 3 + 1, none⟩ = some (.int .i64 x.frm) ∧ w'.cell? ⟨b, o + i * 3 + 2, none⟩ = some (.int .i64 x.to) :=
  ⟨(World.cell?_of_block hb).trans (h 0 _ rfl), (World.cell?_of_block hb).trans (h 1 _ rfl), (World.cell?_of_block hb).trans (h 2 _ rfl)⟩
theorem wds_own {w : World} {v : Value} {n : Nat} {l : List Wd} (h : w.ownsRow 0 61 3 v n (wds l)) (hf : ∀ x ∈ l, x.fits) : WdsRO w v l := by
  have hn : n = l.length := by
    have := h.1
    have e := wds_len l
    omega
  subst hn
  rcases own_shape h with ⟨rfl, h0⟩ | ⟨g, cap, rfl, hc, hg⟩
  · obtain rfl : l = [] := List.eq_nil_of_length_eq_zero h0
    exact ⟨none, 0, rfl, Nat.le_refl _, by simp, fun h => absurd rfl h⟩
  · refine ⟨_, cap, rfl, hc, hf, fun _ => ⟨g, 0, rfl, hg, fun i x hi j z hj => ?_⟩⟩
    show w.cell? ⟨g, 0 + i * 3 + j, none⟩ = some z
    rw [Nat.zero_add]
    exact own_cell h (wds_get hi hj)
/-- All cells of readable items, one by one. -/
theorem WdsRO.cells {w : World} {v : Value} {l : List Wd} (hv : WdsRO w v l) : ∃ ad cap, v = .slice ad l.length cap ∧ (ad = none → l = []) ∧ ∀ p, ad = some p → ∀ j u, (wds l)[j]? = some u → w.cell? (p.add j) = some u := by
  obtain ⟨ad, cap, rfl, _, _, h⟩ := hv
  refine ⟨ad, cap, rfl, fun e => ?_, fun p hp j u hj => ?_⟩
  · refine Classical.byContradiction fun hl => ?_
    obtain ⟨b, o, e2, _⟩ := h hl
    rw [e] at e2
    cases e2
  · by_cases hl : l = []
    · subst hl; simp [wds] at hj
    · obtain ⟨b, o, e2, _, h4⟩ := h hl
      rw [hp] at e2
      obtain rfl := Option.some.inj e2
      have hlt := (List.getElem?_eq_some_iff.1 hj).1
      rw [wds_len] at hlt
      obtain ⟨x, hx⟩ : ∃ x, l[j / 3]? = some x := ⟨_, List.getElem?_eq_getElem (by omega)⟩
      have hm : j % 3 < (wdC x).toList.length := by show j % 3 < 3; omega
      have hj2 := wds_get hx (List.getElem?_eq_getElem hm)
      rw [show j / 3 * 3 + j % 3 = j by omega, hj] at hj2
      rw [Addr.add_lit]
      have := h4 (j / 3) x hx (j % 3) u ((List.getElem?_eq_getElem hm).trans hj2.symm)
      rw [show o + j / 3 * 3 + j % 3 = o + j by omega] at this
      exact this

theorem row_wds {w : World} {base g n cap : Nat} {L : List Wd} {e : TypeId} (h : w.ownsRow base e 3 (.slice (some ⟨g, 0, none⟩) n cap) n (wds L)) {j : Nat} {x : Wd} (hx : L[j]? = some x) :
    w.cell? ⟨g, j * 3, none⟩ = some (textV x.key) ∧ w.cell? ⟨g, j * 3 + 1, none⟩ = some (.int .i64 x.frm) ∧ w.cell? ⟨g, j * 3 + 2, none⟩ = some (.int .i64 x.to) :=
  ⟨own_cell h (wds_get (j := 0) hx rfl), own_cell h (wds_get (j := 1) hx rfl), own_cell h (wds_get (j := 2) hx rfl)⟩
end Go.Proofs.YtiglgfonhdfpmaaGreat

/- strings.Compare and cmp.Compare at int as the library's shelf lays them at this program (the text was written by the kit's lay-shelf.mjs and lay-plain.mjs). -/
set_option linter.unusedVariables false
set_option linter.unusedSimpArgs false
namespace Go.Proofs.YtiglgfonhdfpmaaGreat
open Go.Shelf
def scmpRen : Go.Shelf.Ren := ⟨fun | 106 => 144 | 213 => 200 | 265 => 257 | n => n, fun | 9 => 9 | 3 => 3 | n => n, fun | n => n⟩
theorem scmpLays : Go.Proofs.Lays.n106 Tryz.prog scmpRen := {
  mixed := by kernel_rfl
  f106 := Tryz.func144.trans (congrArg some (by kernel_rfl))
  f213 := Tryz.func200.trans (congrArg some (by kernel_rfl))
  f265 := Tryz.func257.trans (congrArg some (by kernel_rfl))
  t3 := Tryz.underlying3
  a3 := Tryz.isAgg3
  z3 := Tryz.sizeOf3
  v3 := Tryz.zeroValue3
  t9 := Tryz.underlying9
  a9 := Tryz.isAgg9
  z9 := Tryz.sizeOf9
  v9 := Tryz.zeroValue9 }
def icmpRen : Go.Shelf.Ren := ⟨fun | 122 => 145 | 215 => 201 | n => n, fun | 3 => 3 | 4 => 4 | n => n, fun | n => n⟩
theorem icmpLays : Go.Proofs.Lays.n122 Tryz.prog icmpRen := {
  mixed := by kernel_rfl
  f122 := Tryz.func145.trans (congrArg some (by kernel_rfl))
  f215 := Tryz.func201.trans (congrArg some (by kernel_rfl))
  t3 := Tryz.underlying3
  a3 := Tryz.isAgg3
  z3 := Tryz.sizeOf3
  v3 := Tryz.zeroValue3
  t4 := Tryz.underlying4
  a4 := Tryz.isAgg4
  z4 := Tryz.sizeOf4
  v4 := Tryz.zeroValue4 }
open Go.RowKit in
theorem strings_Compare (a b : ByteArray) (w : World) :
    Calls Tryz.prog 144 #[.string a, .string b] w fun e w' => e = .returned (.int .i64 (Lib.compareBytes a.data.toList b.data.toList)) ∧ w' = w := Any.strings_Compare scmpLays a b w
open Go.RowKit in
theorem cmp_Compare_int (x y : Int) (w : World) :
    Calls Tryz.prog 145 #[.int .i64 x, .int .i64 y] w fun e w' => e = .returned (.int .i64 (Lib.compareInt x y)) ∧ w' = w := Any.cmp_Compare_int icmpLays x y w
end Go.Proofs.YtiglgfonhdfpmaaGreat

/- The document's Marks: what a clock gives, time by time. Conditions: so many times. -/
set_option linter.unusedVariables false
set_option linter.unusedSimpArgs false
namespace Go.Proofs.YtiglgfonhdfpmaaGreat
open Go.RowKit

theorem Tryz.info3 : (Tryz.prog.info? 3).map (fun i => (i.zero, i.size, i.bytes)) = some (some (.int .i64 0), 1, 8) := by kernel_rfl
def IntsRO (w : World) (v : Value) (l : List Int) : Prop :=
  ∃ ad cap, v = .slice ad l.length cap ∧ l.length ≤ cap ∧ (∀ x ∈ l, -9223372036854775808 ≤ x ∧ x ≤ 9223372036854775807) ∧ (l ≠ [] → ∃ b o, ad = some ⟨b, o, none⟩ ∧ b < w.heap.size ∧ ∀ i x, l[i]? = some x → w.cell? ⟨b, o + i, none⟩ = some (.int .i64 x))
theorem IntsRO.later {w w' : World} {v : Value} {l : List Int} (hv : IntsRO w v l) (hk : Kept (fun _ => False) w w') : IntsRO w' v l := by
  obtain ⟨ad, cap, e1, e2, e3, e4⟩ := hv
  refine ⟨ad, cap, e1, e2, e3, fun hl => ?_⟩
  obtain ⟨b, o, g1, g2, g4⟩ := e4 hl
  exact ⟨b, o, g1, Nat.lt_of_lt_of_le g2 hk.size, fun i x hi => (World.cell?_of_block (w := w) (hk.block b g2 id)).trans (g4 i x hi)⟩
theorem ints_own {w : World} {v : Value} {n : Nat} {l : List Int} (h : w.ownsRow 0 3 1 v n (intCells l)) (hf : ∀ x ∈ l, -9223372036854775808 ≤ x ∧ x ≤ 9223372036854775807) : IntsRO w v l := by
  have hn : n = l.length := by have := h.1; simp [intCells] at this; omega
  subst hn
  rcases own_shape h with ⟨rfl, h0⟩ | ⟨g, cap, rfl, hc, hg⟩
  · obtain rfl : l = [] := List.eq_nil_of_length_eq_zero h0
    exact ⟨none, 0, rfl, Nat.le_refl _, by simp, fun h => absurd rfl h⟩
  · refine ⟨_, cap, rfl, hc, hf, fun _ => ⟨g, 0, rfl, hg, fun i x hi => ?_⟩⟩
    rw [Nat.zero_add]
    exact own_cell h (by simp [intCells, hi])
def Clk.run (c : Clk) (l : List Int) : Clk := l.foldl (fun c t => (c.see t).1) c
def Clk.mark (c : Clk) (t : Int) : Int := if (c.see t).2.2 = true then (c.see t).2.1 else -1
theorem run_snoc (c : Clk) (l : List Int) (t : Int) : c.run (l ++ [t]) = ((c.run l).see t).1 := by simp [Clk.run]
theorem run_ok {c : Clk} (h : c.ok) (l : List Int) : (c.run l).ok := by
  induction l generalizing c with
  | nil => exact h
  | cons x l ih => exact ih (see_ok h x)
theorem see_same (c : Clk) (t : Int) : (c.see t).1.slack = c.slack ∧ (c.see t).1.step = c.step ∧ (c.see t).1.top = if timeOk t = true then max c.top t else c.top := by
  unfold Clk.see
  cases h : timeOk t with
  | false => simp
  | true =>
    simp only [Bool.true_eq_false, if_false, if_true]
    split <;> exact ⟨rfl, rfl, rfl⟩
end Go.Proofs.YtiglgfonhdfpmaaGreat

/- append onto a row of the call's own, up to what Go's growth itself allows. Laws over any program. -/
set_option linter.unusedVariables false
set_option linter.unusedSimpArgs false
namespace Go.Proofs.YtiglgfonhdfpmaaGreat
open Go.RowKit

section
variable {P : Program} {S : Nat → Prop} {w0 w : World} {l : List SP}
theorem append_at_wide {base : Nat} {t ty e : TypeId} {i : TypeInfo} {z : Value} (ht : P.underlying t = some (.slice e)) (hi : P.info? e = some i) (hz : i.zero = some z) (hzs : z.cells.size = i.size) (hsz : 0 < i.size)
    {v : Value} {n : Nat} {xs : List Value} (hown : w.ownsRow base e i.size v n xs) {a : Addr} {m c : Nat} {news : List Value} (hl : news.length = m * i.size) (hnews : ∀ j u, news[j]? = some u → w.cell? (a.add j) = some u)
    (h1 : ∀ u ∈ news, u.oneCell' = true) (hm : 0 < m) (h63 : n + m ≤ maxLen) (hb : ((n + m) + (n + m) / 4 + 192) * i.bytes ≤ 281474976710656) (hbase : base ≤ w.heap.size) :
    ∃ v' w', (Builtin.append_ #[t, t] ty #[v, .slice (some a) m c]).run P w = .ok v' w' ∧ w'.ownsRow base e i.size v' (n + m) (xs ++ news) ∧ w.grownBy w' v.ownBlock ∧ (v'.ownBlock = v.ownBlock ∨ v'.ownBlock = some w.heap.size) := by
  obtain ⟨v', w', hr, h2, h3, _⟩ := run_append_own_wide w base t ty e i z i.size i.bytes ht hi hz rfl rfl hzs hsz v n xs hown a m c news hl hnews h1 h63 hb hbase
  refine ⟨v', w', hr, h2, h3, ?_⟩
  have hsmall : n + m ≤ 9223372036854775807 := by simp only [maxLen] at h63; omega
  rcases hown.2 with ⟨rfl, rfl⟩ | ⟨g, cap, cur, rfl, hbg, hg, hnc, hcm, hcs, htake⟩
  · have hr2 := run_append_nil (P := P) w t ty e i z ht hi hz a m c news hl hnews hm (by omega) (by
      simp only [Nat.zero_add] at hb
      exact Nat.le_trans (Nat.mul_le_mul_right _ (by omega)) hb)
    have e1 := hr.symm.trans hr2
    injection e1 with e1 e2
    rw [e1]
    exact .inr rfl
  · by_cases hroom : n + m ≤ cap
    · have hr2 := run_append_room (P := P) w t ty e i ht hi g n cap cur hg a m c news hl hnews h1 hroom (by rw [hl, hcs, ← Nat.add_mul]; exact Nat.mul_le_mul_right _ hroom)
      have e1 := hr.symm.trans hr2
      injection e1 with e1 e2
      rw [e1]
      exact .inl rfl
    · have hr2 := run_append_grow (P := P) w t ty e i z ht hi hz ⟨g, 0, none⟩ n cap xs hown.1 (hown.cells (g := g) rfl) a m c news hl hnews (by omega) (by omega) (growslice_fits_wide (by omega) hb)
      have e1 := hr.symm.trans hr2
      injection e1 with e1 e2
      rw [e1]
      exact .inr rfl
/-- As St.list_app, with room for what Go's growth allows. -/
theorem St.list_appw (H : St S w0 w l) (i : Nat) {e : TypeId} {size : Nat} {v : Value} {n : Nat} {xs : List Value} (hi : l[i]? = some (Row e size v n xs))
    {ops : Array Oper} {rest : List Oper} {o : Oper} {a : Act} {Q : Exit → Act → World → Prop} (hgd : o.guard = none) (s x : Operand) (t : TypeId)
    (ho : o.op = .call { callee := .builtin .append, args := #[s, x], argTypes := #[t, t] }) {z : Value} {bytes : Nat} (ht : P.underlying t = some (.slice e))
    (hinfo : (P.info? e).map (fun i => (i.zero, i.size, i.bytes)) = some (some z, size, bytes)) (hzs : z.cells.size = size ∧ 0 < size ∧ 0 < bytes)
    (hs : a.eval s = v) {ad : Addr} {c m : Nat} (news : List Value) (hx : a.eval x = .slice (some ad) m c) (hl : news.length = m * size) (hnews : ∀ j u, news[j]? = some u → w.cell? (ad.add j) = some u) (h1 : ∀ u ∈ news, u.oneCell' = true)
    (hm : 0 < m) (hbytes : ((n + m) + (n + m) / 4 + 192) * bytes ≤ 281474976710656)
    (h : ∀ g cap w', St S w0 w' (l.set i (Row e size (.slice (some ⟨g, 0, none⟩) (n + m) cap) (n + m) (xs ++ news))) → w.heap.size ≤ w'.heap.size → wpList P ops Q rest (a.put o.dst (.slice (some ⟨g, 0, none⟩) (n + m) cap)) w') :
    wpList P ops Q (o :: rest) a w := by
  obtain ⟨ti, hti, hz, rfl, rfl⟩ := info_parts hinfo
  have hle : n + m ≤ 281474976710656 := by
    have := Nat.le_mul_of_pos_right ((n + m) + (n + m) / 4 + 192) hzs.2.2
    omega
  obtain ⟨v', w', hr, h2, h3, h4⟩ := append_at_wide (ty := o.type) (c := c) ht hti hz hzs.1 hzs.2.1 (H.row i hi) hl hnews h1 hm (by unfold maxLen; omega) hbytes (Nat.zero_le _)
  obtain ⟨ao, cap, rfl, _, hg⟩ := slice_form' h2
  obtain ⟨g, rfl⟩ := hg (by omega)
  have H2 := H.grown' i hi h2 h3 h4
  refine wpList_plain hgd fun _ hK => ?_
  unfold Oper.wp execOp
  simp only [ho, resolve, invoke, builtin, Sem.run_bind, Sem.run_pure, Result.andThen_ok, List.map_toArray, List.map_cons, List.map_nil, hs, hx, hr]
  exact hK _ _ (h g cap w' H2 h3.size)
end
end Go.Proofs.YtiglgfonhdfpmaaGreat

/- clock's events, Weave, Disorder. Condition: so many items. -/
set_option linter.unusedVariables false
set_option linter.unusedSimpArgs false
namespace Go.Proofs.YtiglgfonhdfpmaaGreat
open Go.RowKit

theorem row_itms {w : World} {base g n cap : Nat} {L : List Itm} {e : TypeId} (h : w.ownsRow base e 4 (.slice (some ⟨g, 0, none⟩) n cap) n (itms L)) {j : Nat} {x : Itm} (hx : L[j]? = some x) :
    w.cell? ⟨g, j * 4, none⟩ = some (.int .i64 x.kind) ∧ w.cell? ⟨g, j * 4 + 1, none⟩ = some (textV x.key) ∧ w.cell? ⟨g, j * 4 + 2, none⟩ = some (.int .i64 x.time) ∧ w.cell? ⟨g, j * 4 + 3, none⟩ = some (.int .i64 x.value) :=
  ⟨own_cell h (itms_get (j := 0) hx rfl), own_cell h (itms_get (j := 1) hx rfl), own_cell h (itms_get (j := 2) hx rfl), own_cell h (itms_get (j := 3) hx rfl)⟩

set_option maxHeartbeats 1000000 in
set_option maxRecDepth 100000 in
theorem clk_events {v : Value} {l : List Itm} {w : World} (hv : ItmsRO w v l) (hl : l.length ≤ 3518437208880) :
    Calls Tryz.prog 92 #[v] w fun e w' => ∃ v', e = .returned v' ∧ St (fun _ => False) w w' [Row 56 4 v' (l.filter Itm.counts).length (itms (l.filter Itm.counts))] := by
  have kc := itms_clone hv (by omega)
  have hf : ∀ x ∈ l, x.fits := by obtain ⟨_, _, _, _, h, _⟩ := hv; exact h
  go_enter Tryz.func92, Tryz.ntmps92
  go_wp2_with (first
    | (go_at_call 86; go_must (refine kc.mono ?_; rintro e w1 ⟨v1, rfl, H1⟩; obtain ⟨S1, K1, G1⟩ := St.call (l1 := [_]) (l2 := []) H1))
    | (go_at_call 153; go_must (refine (itms_delete hf (by omega) K1).mono ?_; rintro e w2 ⟨v2, rfl, H2⟩; have H3 := G1 _ _ H2)))
  go_ret
  exact ⟨_, rfl, H3⟩

def Clk.weave (c : Clk) : List Itm → List Itm
  | [] => []
  | x :: l => x :: ((if (c.see x.time).2.2 = true then [⟨2, [], (c.see x.time).2.1, 0⟩] else []) ++ (c.see x.time).1.weave l)
theorem weave_snoc (x : Itm) : ∀ (l : List Itm) (c : Clk), c.weave (l ++ [x]) = c.weave l ++ (x :: (if ((c.run (l.map Itm.time)).see x.time).2.2 = true then [⟨2, [], ((c.run (l.map Itm.time)).see x.time).2.1, 0⟩] else []))
  | [], c => by simp [Clk.weave, Clk.run]
  | y :: l, c => by
    simp only [List.cons_append, Clk.weave, weave_snoc x l, List.map_cons]
    simp only [List.append_assoc]
    rfl
theorem weave_len : ∀ (l : List Itm) (c : Clk), (c.weave l).length ≤ 2 * l.length
  | [], c => by simp [Clk.weave]
  | x :: l, c => by
    have := weave_len l (c.see x.time).1
    simp only [Clk.weave, List.length_cons, List.length_append]
    split <;> simp <;> omega

theorem see_last {c : Clk} (h : c.ok) (t : Int) : ((c.see t).2.2 = true → c.last + 1 ≤ (c.see t).1.last) ∧ ((c.see t).2.2 = false → (c.see t).1.last = c.last) := by
  obtain ⟨_, ⟨h1, _⟩, _, ⟨h2, _⟩⟩ := h
  unfold Clk.see
  by_cases e1 : timeOk t = false
  · rw [if_pos e1]; exact ⟨fun h => absurd h (by simp), fun _ => rfl⟩
  · rw [if_neg e1]
    by_cases e2 : max c.top t - c.slack < 0 ∨ (0 ≤ c.last ∧ max c.top t - c.slack < c.last + c.step)
    · rw [if_pos e2]; exact ⟨fun h => absurd h (by simp), fun _ => rfl⟩
    · rw [if_neg e2]
      refine ⟨fun _ => ?_, fun h => absurd h (by simp)⟩
      simp only
      omega
theorem weave_room : ∀ (l : List Itm) (c : Clk), c.ok → ((c.weave l).length : Int) + c.last ≤ l.length + (c.run (l.map Itm.time)).last
  | [], c, _ => by simp [Clk.weave, Clk.run]
  | x :: l, c, h => by
    have ih := weave_room l (c.see x.time).1 (see_ok h x.time)
    obtain ⟨k1, k2⟩ := see_last h x.time
    have e : (c.run ((x :: l).map Itm.time)).last = ((c.see x.time).1.run (l.map Itm.time)).last := rfl
    rw [e]
    cases hb : (c.see x.time).2.2 with
    | false =>
      have := k2 hb
      simp only [Clk.weave, hb, List.length_cons, List.length_append, Bool.false_eq_true, if_false, List.length_nil]
      omega
    | true =>
      have := k1 hb
      simp only [Clk.weave, hb, List.length_cons, List.length_append, if_true, List.length_nil]
      omega
theorem weave_len2 {slack step : Int} (hg : clkGood slack step = true) (l : List Itm) : ((newClk slack step).weave l).length ≤ l.length + 1099511627777 := by
  have h1 := weave_room l _ (newClk_ok hg)
  have h2 := (run_ok (newClk_ok hg) (l.map Itm.time)).2.2.2.2
  have h3 : (newClk slack step).last = -1 := rfl
  omega

theorem clk_weave_bad {v : Value} {slack step : Int} (h : clkGood slack step = false) (w : World) : Calls Tryz.prog 48 #[.int .i64 slack, .int .i64 step, v] w fun e w' => e = .returned (.tuple #[.slice none 0 0, .int .i64 2]) ∧ w' = w := by
  have kn := clk_bad h w
  go_enter Tryz.func48, Tryz.ntmps48
  go_wp2_with (go_at_call 88; go_must (refine kn.mono ?_; rintro e w1 ⟨rfl, rfl⟩))
  go_ret2
  exact ⟨rfl, rfl⟩

set_option maxHeartbeats 4000000 in
set_option maxRecDepth 100000 in
theorem clk_weave {v : Value} {l : List Itm} {w : World} {slack step : Int} (hgood : clkGood slack step = true) (hv : ItmsRO w v l) (hl : l.length ≤ 3518437208880) :
    Calls Tryz.prog 48 #[.int .i64 slack, .int .i64 step, v] w fun e w' => ∃ v', e = .returned (.tuple #[v', .int .i64 0]) ∧ St (fun _ => False) w w' [Row 56 4 v' ((newClk slack step).weave (l.filter Itm.counts)).length (itms ((newClk slack step).weave (l.filter Itm.counts)))] := by
  have kn := clk_new hgood w
  have hok0 := newClk_ok hgood
  have hf : ∀ x ∈ l, x.fits := by obtain ⟨_, _, _, _, h, _⟩ := hv; exact h
  have hEf : ∀ x ∈ l.filter Itm.counts, x.fits := fun x hx => hf x (List.mem_filter.1 hx).1
  have hEl : (l.filter Itm.counts).length ≤ 3518437208880 := Nat.le_trans (List.length_filter_le _ _) hl
  have ke := fun (w' : World) (hk : Kept (fun _ => False) w w') => clk_events (hv.later hk) hl
  obtain ⟨E, hE⟩ : ∃ E, l.filter Itm.counts = E := ⟨_, rfl⟩
  rw [hE] at hEf hEl ke ⊢
  clear hE hf
  go_enter Tryz.func48, Tryz.ntmps48
  go_upto_block 1 with (first
    | (go_at_call 88; go_must (refine kn.mono ?_; rintro e w1 ⟨bc, rfl, H1⟩))
    | (go_at_call 92; go_must (refine (ke _ H1.kept).mono ?_; rintro e w2 ⟨ve, rfl, H2⟩; obtain ⟨ea, ec, rfl, hec, hea⟩ := slice_form' (H2.row 0 rfl); have H3 : St (fun _ => False) w w2 [Row 56 4 (.slice ea E.length ec) E.length (itms E), Blk bc (clkC (newClk slack step)) 218] := H1.call0 H2)))
  have H4 : St (fun _ => False) w w2 [Row 56 4 (.slice none 0 0) 0 (itms []), Row 56 4 (.slice ea E.length ec) E.length (itms E), Blk bc (clkC (newClk slack step)) 218] := H3.row_nil 56 4
  clear H1 H2 H3 ke kn
  go_loopw [10, 12, 13, 14, 27] (fun u _ _ _ j wr => ∃ (k : Nat) (c : Clk) (W : List Itm), k ≤ E.length ∧ j = .int .i64 k ∧ c = (newClk slack step).run ((E.take k).map Itm.time) ∧ W = (newClk slack step).weave (E.take k) ∧ St (fun _ => False) w wr [Row 56 4 u W.length (itms W), Row 56 4 (.slice ea E.length ec) E.length (itms E), Blk bc (clkC c) 218]) (fun _ _ _ _ j _ => E.length - (intOf j).toNat)
  case atStart => exact ⟨0, newClk slack step, [], by omega, rfl, rfl, rfl, H4⟩
  case round =>
    clear H4
    obtain ⟨k, c, W, hk, rfl, hc, hW, HM⟩ := hrel
    by_cases hkl : k < E.length
    · obtain ⟨ge, rfl⟩ := hea (by omega)
      obtain ⟨x, hx⟩ : ∃ x, E[k]? = some x := ⟨_, List.getElem?_eq_getElem hkl⟩
      obtain ⟨q0, q1, q2, q3⟩ := row_itms (HM.row 1 rfl) hx
      have hok : c.ok := by rw [hc]; exact run_ok hok0 _
      have hWl : W.length ≤ k + 1099511627777 := by
        have := weave_len2 hgood (E.take k)
        rw [hW]
        rw [List.length_take] at this
        omega
      have hcn := Lib.hid (show (newClk slack step).run ((E.take (k + 1)).map Itm.time) = (c.see x.time).1 by rw [take_snoc' hx, List.map_append, List.map_cons, List.map_nil, run_snoc, ← hc])
      have hwn := Lib.hid (show (newClk slack step).weave (E.take (k + 1)) = W ++ (x :: (if (c.see x.time).2.2 = true then [⟨2, [], (c.see x.time).2.1, 0⟩] else [])) by rw [take_snoc' hx, weave_snoc, ← hc, ← hW])
      have ks := fun (S' : Nat → Prop) (w' : World) (K : Sep w' [Blk bc (clkC c) 218] S') => clk_see (t := x.time) hok K
      obtain ⟨c', hc'⟩ : ∃ c', (c.see x.time).1 = c' := ⟨_, rfl⟩
      obtain ⟨mk, hmk⟩ : ∃ mk, (c.see x.time).2.1 = mk := ⟨_, rfl⟩
      obtain ⟨ok, hok'⟩ : ∃ ok, (c.see x.time).2.2 = ok := ⟨_, rfl⟩
      rw [hmk, hok'] at hwn ks
      simp only [hc'] at ks
      rw [hc'] at hcn
      clear hc hW hx hc' hmk hok' hok
      obtain ⟨xk, xy, xt, xv⟩ := x
      simp only at q0 q1 q2 q3 ks hwn
      unfold textV at q1
      have HA : St (fun _ => False) w _ [_, _, _, _] := HM.allocAt rfl #[.int .i64 xk, .string ⟨xy.toArray⟩, .int .i64 xt, .int .i64 xv] 56
      go_upto_region 8 with (fail)
      obtain ⟨wb, hwb⟩ : ∃ wb, wr.alloc (.cells #[.int .i64 xk, .string ⟨xy.toArray⟩, .int .i64 xt, .int .i64 xv] 56) = wb := ⟨_, rfl⟩
      obtain ⟨xb, hxb⟩ : ∃ xb, wr.heap.size = xb := ⟨_, rfl⟩
      rw [hwb, hxb] at HA
      try rw [hwb]
      try simp only [hxb]
      have HA2 : St (fun _ => False) w wb [Blk xb #[.int .i64 xk, .string ⟨xy.toArray⟩, .int .i64 xt, .int .i64 xv] 56, Row 56 4 u10 W.length (itms W), Row 56 4 (.slice (some ⟨ge, 0, none⟩) E.length ec) E.length (itms E), Blk bc (clkC c) 218] := HA
      clear hwb hxb q0 q1 q2 q3 HM HA
      have d0 := HA2.cell 0 0 rfl rfl
      have d1 := HA2.cell 0 1 rfl rfl
      have d2 := HA2.cell 0 2 rfl rfl
      have d3 := HA2.cell 0 3 rfl rfl
      go_upto_region 9 with (at_builtin; go_must (refine St.list_appw (HA2.skip _) 1 rfl rfl (.tmp 31) (.tmp 33) 41 rfl Tryz.underlying41 Tryz.info56 (by decide) rfl [.int .i64 xk, .string ⟨xy.toArray⟩, .int .i64 xt, .int .i64 xv] rfl rfl (new_cells #[.int .i64 xk, .string ⟨xy.toArray⟩, .int .i64 xt, .int .i64 xv] _) (by simp [Value.oneCell']) (by omega) (by omega) ?_; intro g5 cap5 w5 H5 hz5; have d2 := H5.cell 0 2 rfl rfl))
      clear d0 d1 d3 HA2
      cases ok with
      | false =>
        go_wp2_with (go_at_call 90; go_must (obtain ⟨S1, K1, G1⟩ := St.call (l1 := [_]) (H5.pick [3, 0, 1, 2]); refine (ks _ _ K1).mono ?_; rintro e w6 ⟨rfl, H6⟩; have H7 : St (fun _ => False) w w6 [_, _, _, _] := G1 _ _ H6))
        go_roundw
        case rel =>
          refine ⟨k + 1, c', W ++ [⟨xk, xy, xt, xv⟩], by omega, by go_num, hcn.out.symm, by rw [hwn.out]; rfl, ?_⟩
          rw [itms_app, itms_one, List.length_append]
          exact H7.pick [2, 3, 0]
        case measure => simp [intOf]; omega
      | true =>
        go_wp2_with (first
          | (go_at_call 90; go_must (obtain ⟨S1, K1, G1⟩ := St.call (l1 := [_]) (H5.pick [3, 0, 1, 2]); refine (ks _ _ K1).mono ?_; rintro e w6 ⟨rfl, H6⟩; have H7 : St (fun _ => False) w w6 [_, _, _, _] := G1 _ _ H6))
          | (at_builtin; go_must (refine St.list_appw (H7.skip _) 2 rfl rfl (.tmp 43) (.tmp 46) 41 rfl Tryz.underlying41 Tryz.info56 (by decide) rfl [.int .i64 2, .string ⟨#[]⟩, .int .i64 mk, .int .i64 0] rfl rfl (new_cells #[.int .i64 2, .string ⟨#[]⟩, .int .i64 mk, .int .i64 0] _) (by simp [Value.oneCell']) (by omega) (by omega) ?_; intro g8 cap8 w8 H8 hz8)))
        go_roundw
        case rel =>
          refine ⟨k + 1, c', W ++ [⟨xk, xy, xt, xv⟩, ⟨2, [], mk, 0⟩], by omega, by go_num, hcn.out.symm, by rw [hwn.out]; rfl, ?_⟩
          have e1 : itms (W ++ [⟨xk, xy, xt, xv⟩, ⟨2, [], mk, 0⟩]) = itms W ++ [.int .i64 xk, .string ⟨xy.toArray⟩, .int .i64 xt, .int .i64 xv] ++ [.int .i64 2, .string ⟨#[]⟩, .int .i64 mk, .int .i64 0] := by rw [itms_app]; simp [itms, textV]
          rw [e1, List.length_append]
          exact H8.pick [2, 3, 0]
        case measure => simp [intOf]; omega
    · obtain rfl : k = E.length := by omega
      rw [List.take_length] at hW
      have hWh := Lib.hid hW
      clear hW
      obtain ⟨ua, uc, rfl, _, _⟩ := slice_form' (HM.row 0 rfl)
      go_wp2
      go_ret2
      rw [← hWh.out]
      exact ⟨_, rfl, St.take (l1 := [_]) HM⟩
end Go.Proofs.YtiglgfonhdfpmaaGreat

/- clock's Disorder. Condition: so many items. -/
set_option linter.unusedVariables false
set_option linter.unusedSimpArgs false
namespace Go.Proofs.YtiglgfonhdfpmaaGreat
open Go.RowKit

def disS (p : Int × Int) (x : Itm) : Int × Int := (max p.1 x.time, max p.2 (p.1 - x.time))
def disF (l : List Itm) : Int × Int := l.foldl disS (0, 0)
theorem disF_snoc (l : List Itm) (x : Itm) : disF (l ++ [x]) = disS (disF l) x := by simp [disF]
theorem counts_time {x : Itm} (h : x.counts = true) : x.kind = 1 ∧ 0 ≤ x.time ∧ x.time ≤ 1099511627776 := by
  have h2 : (decide (x.kind = 1) && x.right) = true := h
  rw [Bool.and_eq_true, decide_eq_true_eq] at h2
  obtain ⟨h1, h3⟩ := h2
  unfold Itm.right at h3
  simp only [Bool.and_eq_true, decide_eq_true_eq] at h3
  exact ⟨h1, h3.1⟩
theorem disF_le {l : List Itm} (h : ∀ x ∈ l, x.counts = true) : (0 ≤ (disF l).1 ∧ (disF l).1 ≤ 1099511627776) ∧ (0 ≤ (disF l).2 ∧ (disF l).2 ≤ 1099511627776) := by
  have key : ∀ (l : List Itm), (∀ x ∈ l, x.counts = true) → ∀ p : Int × Int, (0 ≤ p.1 ∧ p.1 ≤ 1099511627776) ∧ (0 ≤ p.2 ∧ p.2 ≤ 1099511627776) → (0 ≤ (l.foldl disS p).1 ∧ (l.foldl disS p).1 ≤ 1099511627776) ∧ (0 ≤ (l.foldl disS p).2 ∧ (l.foldl disS p).2 ≤ 1099511627776) := by
    intro l
    induction l with
    | nil => exact fun _ p h => h
    | cons x l ih =>
      intro hl p hp
      obtain ⟨_, h1, h2⟩ := counts_time (hl x (by simp))
      refine ih (fun y hy => hl y (by simp [hy])) _ ?_
      simp only [disS]
      omega
  exact key l h (0, 0) (by decide)

set_option maxHeartbeats 4000000 in
set_option maxRecDepth 100000 in
theorem clk_disorder {v : Value} {l : List Itm} {w : World} (hv : ItmsRO w v l) (hl : l.length ≤ 3518437208880) :
    Calls Tryz.prog 47 #[v] w fun e w' => e = .returned (.int .i64 (disF (l.filter Itm.counts)).2) ∧ Below w.heap.size w w' := by
  have ke := clk_events hv hl
  have hEl : (l.filter Itm.counts).length ≤ 3518437208880 := Nat.le_trans (List.length_filter_le _ _) hl
  have hEc : ∀ x ∈ l.filter Itm.counts, x.counts = true := fun x hx => (List.mem_filter.1 hx).2
  obtain ⟨E, hE⟩ : ∃ E, l.filter Itm.counts = E := ⟨_, rfl⟩
  rw [hE] at hEl ke hEc ⊢
  clear hE
  go_enter Tryz.func47, Tryz.ntmps47
  go_upto_block 1 with (go_at_call 92; go_must (refine ke.mono ?_; rintro e w2 ⟨ve, rfl, H4⟩; obtain ⟨ea, ec, rfl, hec, hea⟩ := slice_form' (H4.row 0 rfl)))
  clear ke
  go_loopw [3, 4, 6, 10] (fun tv dv _ j wr => ∃ (k : Nat) (top worst : Int), k ≤ E.length ∧ j = .int .i64 k ∧ tv = .int .i64 top ∧ dv = .int .i64 worst ∧ Hid (disF (E.take k) = (top, worst)) ∧ St (fun _ => False) w wr [Row 56 4 (.slice ea E.length ec) E.length (itms E)]) (fun _ _ _ j _ => E.length - (intOf j).toNat)
  case atStart => exact ⟨0, 0, 0, by omega, rfl, rfl, rfl, Lib.hid rfl, H4⟩
  case round =>
    clear H4
    obtain ⟨k, top, worst, hk, rfl, rfl, rfl, hD, HM⟩ := hrel
    have hbd := disF_le (l := E.take k) (fun x hx => hEc x (List.mem_of_mem_take hx))
    rw [hD.out] at hbd
    obtain ⟨⟨hb1, hb2⟩, hb3, hb4⟩ := hbd
    simp only at hb1 hb2 hb3 hb4
    by_cases hkl : k < E.length
    · obtain ⟨ge, rfl⟩ := hea (by omega)
      obtain ⟨x, hx⟩ : ∃ x, E[k]? = some x := ⟨_, List.getElem?_eq_getElem hkl⟩
      obtain ⟨q0, q1, q2, q3⟩ := row_itms (HM.row 0 rfl) hx
      obtain ⟨_, ht1, ht2⟩ := counts_time (hEc x (List.mem_of_getElem? hx))
      have hDn := Lib.hid (show disF (E.take (k + 1)) = (max top x.time, max worst (top - x.time)) by rw [take_snoc' hx, disF_snoc, hD.out]; rfl)
      obtain ⟨xk, xy, xt, xv⟩ := x
      simp only at q0 q1 q2 q3 hDn ht1 ht2
      unfold textV at q1
      clear hx
      obtain ⟨m1, hm1⟩ : ∃ m1, max top xt = m1 := ⟨_, rfl⟩
      obtain ⟨m2, hm2⟩ : ∃ m2, max worst (top - xt) = m2 := ⟨_, rfl⟩
      have hDm := Lib.hid (show disF (E.take (k + 1)) = (m1, m2) by rw [hDn.out, hm1, hm2])
      clear hDn
      have hw1 : IntKind.i64.wrap (top - xt) = top - xt := by rw [IntKind.wrap_i64]; omega
      have HA : St (fun _ => False) w _ [_, _] := HM.allocAt rfl #[.int .i64 xk, .string ⟨xy.toArray⟩, .int .i64 xt, .int .i64 xv] 56
      go_wp2
      go_roundw
      case rel => exact ⟨k + 1, m1, m2, by omega, by go_num, rfl, rfl, hDm, St.tail HA⟩
      case measure => simp [intOf]; omega
    · obtain rfl : k = E.length := by omega
      rw [List.take_length] at hD
      go_wp2
      go_ret
      rw [hD.out]
      exact ⟨rfl, HM.below (Nat.le_refl _) (fun _ h => h.elim)⟩
end Go.Proofs.YtiglgfonhdfpmaaGreat

/- The insertion sort at items by clock's order. Condition: times within bounds. -/
set_option linter.unusedVariables false
set_option linter.unusedSimpArgs false
namespace Go.Proofs.YtiglgfonhdfpmaaGreat
open Go.RowKit

def Itm.mild (x : Itm) : Prop := -1099511627776 ≤ x.time ∧ x.time ≤ 1099511627776
set_option maxHeartbeats 1000000 in
set_option maxRecDepth 100000 in
theorem clk_cmp (x y : Itm) (hx : x.mild) (hy : y.mild) (w : World) : Calls Tryz.prog 94 #[itmV x, itmV y] w fun e w' => e = .returned (.int .i64 (x.time - y.time)) ∧ Below w.heap.size w w' := by
  obtain ⟨xk, xy, xt, xv⟩ := x
  obtain ⟨yk, yy, yt, yv⟩ := y
  unfold Itm.mild at hx hy
  simp only at hx hy
  have hw : IntKind.i64.wrap (xt - yt) = xt - yt := by rw [IntKind.wrap_i64]; omega
  have H : St (fun _ => False) w _ [_] := (St.nil (fun _ => False) w).allocAt rfl #[.int .i64 xk, textV xy, .int .i64 xt, .int .i64 xv] 56
  have H2 : St (fun _ => False) w _ [_, _] := H.allocAt (B := w.heap.size + 1) (Array.size_push _) #[.int .i64 yk, textV yy, .int .i64 yt, .int .i64 yv] 56
  unfold textV at H2
  unfold itmV textV
  simp only
  go_enter Tryz.func94, Tryz.ntmps94
  go_upto_region 1 with (fail)
  obtain ⟨b, hb⟩ : ∃ b, w.heap.size = b := ⟨_, rfl⟩
  obtain ⟨w2, hw2⟩ : ∃ w2, (w.alloc (.cells #[.int .i64 xk, .string ⟨xy.toArray⟩, .int .i64 xt, .int .i64 xv] 56)).alloc (.cells #[.int .i64 yk, .string ⟨yy.toArray⟩, .int .i64 yt, .int .i64 yv] 56) = w2 := ⟨_, rfl⟩
  rw [hw2, hb] at H2
  rw [hw2]
  simp only [hb]
  have c0 := H2.cell 0 2 rfl rfl
  have c1 := H2.cell 1 2 rfl rfl
  have hbl := H2.below (B := w.heap.size) (Nat.le_refl _) (fun _ h => h.elim)
  clear hw2 hb H H2
  go_wp2
  go_ret
  exact ⟨rfl, hbl⟩

def cmpV : Value := .func (.func 94) #[] #[]
theorem St.setItm {S : Nat → Prop} {w0 w : World} {l : List SP} (H : St S w0 w l) (i : Nat) {g : Nat} {L : List Itm} {R : List Value} {t : TypeId} (hi : l[i]? = some (Blk g (itms L ++ R).toArray t)) (k : Nat) (hk : k < L.length) (x : Itm) :
    St S w0 (w.setCells g (k * 4) (itmC x).toList) (l.set i (Blk g (itms (L.set k x) ++ R).toArray t)) := by
  have hlen := itms_len L
  have h2 := St.setCells i (itmC x).toList (k * 4) (itms L ++ R) w l H hi (by simp only [List.length_append]; show k * 4 + 4 ≤ _; omega)
  rw [itms_set R x hk] at h2
  exact h2


def insR : List Itm → Itm → List Itm
  | [], x => [x]
  | y :: r, x => if x.time < y.time then y :: insR r x else x :: y :: r
def isr (l : List Itm) : List Itm := l.foldl insR []
theorem isr_snoc (l : List Itm) (x : Itm) : isr (l ++ [x]) = insR (isr l) x := by simp [isr]
theorem insR_len : ∀ (r : List Itm) (x : Itm), (insR r x).length = r.length + 1
  | [], x => rfl
  | y :: r, x => by unfold insR; split <;> simp [insR_len r x]
theorem isr_len (l : List Itm) : (isr l).length = l.length := by
  have key : ∀ (l r : List Itm), (l.foldl insR r).length = r.length + l.length := by
    intro l
    induction l with
    | nil => intro r; rfl
    | cons x l ih => intro r; rw [List.foldl_cons, ih, insR_len]; simp; omega
  have := key l []
  unfold isr
  simpa using this
theorem insR_all {p : Itm → Prop} : ∀ (r : List Itm) (x : Itm), (∀ z ∈ r, p z) → p x → ∀ z ∈ insR r x, p z
  | [], x, _, hx => by intro z hz; obtain rfl := List.mem_singleton.1 hz; exact hx
  | y :: r, x, hr, hx => by
    unfold insR
    split
    · intro z hz
      rcases List.mem_cons.1 hz with rfl | hz
      · exact hr _ (by simp)
      · exact insR_all r x (fun z h => hr z (by simp [h])) hx z hz
    · intro z hz
      rcases List.mem_cons.1 hz with rfl | hz
      · exact hx
      · exact hr z hz
theorem isr_all {p : Itm → Prop} {l : List Itm} (h : ∀ z ∈ l, p z) : ∀ z ∈ isr l, p z := by
  have key : ∀ (l r : List Itm), (∀ z ∈ l, p z) → (∀ z ∈ r, p z) → ∀ z ∈ l.foldl insR r, p z := by
    intro l
    induction l with
    | nil => exact fun r _ hr => hr
    | cons x l ih => exact fun r hl hr => ih _ (fun z hz => hl z (by simp [hz])) (insR_all r x hr (hl x (by simp)))
  exact key l [] h (by simp)
/-- The part from a to i sorted. -/
def srt (L : List Itm) (a i : Nat) : List Itm := L.take a ++ ((isr ((L.drop a).take (i - a))).reverse ++ L.drop i)
theorem srt_one {L : List Itm} {a : Nat} (h : a < L.length) : srt L a (a + 1) = L := by
  unfold srt
  rw [show a + 1 - a = 1 by omega]
  have e : L.drop a = L[a] :: L.drop (a + 1) := List.drop_eq_getElem_cons h
  rw [e, List.take_succ_cons, List.take_zero]
  show L.take a ++ ([L[a]] ++ L.drop (a + 1)) = L
  rw [List.singleton_append, ← e, List.take_append_drop]
theorem srt_none {L : List Itm} {a : Nat} : srt L a a = L := by
  unfold srt
  rw [Nat.sub_self, List.take_zero]
  exact List.take_append_drop a L
section
attribute [local go_sem ↓] run_storeItm
set_option maxHeartbeats 8000000 in
set_option maxRecDepth 100000 in
theorem ins_sort {g n cap a b : Nat} {L : List Itm} {R : List Value} {w : World} {S : Nat → Prop} (hn : L.length = n) (hnb : n ≤ 3518437208880) (hm : ∀ z ∈ L, z.mild) (hab : a ≤ b) (hb : b ≤ n) (H : Sep w [Blk g (itms L ++ R).toArray 56] S) :
    Calls Tryz.prog 206 #[.slice (some ⟨g, 0, none⟩) n cap, .int .i64 a, .int .i64 b, cmpV] w fun e w' => e = .returned (.tuple #[]) ∧ St S w w' [Blk g (itms (srt L a b) ++ R).toArray 56] := by
  have H0 := St.refl H
  unfold cmpV
  by_cases hab2 : a = b
  · subst hab2
    rw [srt_none]
    go_enter Tryz.func206, Tryz.ntmps206
    go_upto_block 1 with (fail)
    go_loopw [8] (fun s8 wr => s8 = .int .i64 ((a : Int) + 1) ∧ St S w wr [Blk g (itms L ++ R).toArray 56]) (fun _ _ => 0)
    case atStart => exact ⟨by go_num, H0⟩
    case round =>
      obtain ⟨rfl, HL⟩ := hrel
      have hlt : ¬ (a : Int) + 1 < (a : Int) := by omega
      go_wp2
      go_end0
      exact ⟨rfl, HL⟩
  · have hab3 : a < b := by omega
    have hs1 := srt_one (L := L) (a := a) (by omega)
    go_enter Tryz.func206, Tryz.ntmps206
    go_upto_block 1 with (fail)
    go_loopw [8, 9] (fun s8 _ wr => ∃ (i : Nat), a < i ∧ i ≤ b ∧ s8 = .int .i64 i ∧ St S w wr [Blk g (itms (srt L a i) ++ R).toArray 56]) (fun s8 _ _ => b - (intOf s8).toNat)
    case atStart => exact ⟨a + 1, by omega, by omega, by go_num, by rw [hs1]; exact H0⟩
    case round =>
      clear H0
      obtain ⟨i, hai, hib, rfl, HL⟩ := hrel
      by_cases hlt : i < b
      · obtain ⟨x, hx⟩ : ∃ x, L[i]? = some x := ⟨_, List.getElem?_eq_getElem (by omega)⟩
        have hxm := hm x (List.mem_of_getElem? hx)
        obtain ⟨r0, hr0⟩ : ∃ r0, isr ((L.drop a).take (i - a)) = r0 := ⟨_, rfl⟩
        have hr0l : r0.length = i - a := by rw [← hr0, isr_len, List.length_take, List.length_drop]; omega
        have hr0m : ∀ z ∈ r0, z.mild := by rw [← hr0]; exact isr_all (fun z hz => hm z (List.mem_of_mem_drop (List.mem_of_mem_take hz)))
        have hnext := Lib.hid (show srt L a (i + 1) = L.take a ++ ((insR r0 x).reverse ++ L.drop (i + 1)) by
          unfold srt
          rw [show i + 1 - a = (i - a) + 1 by omega, take_snoc' (l := L.drop a) (x := x) (by rw [List.getElem?_drop, show a + (i - a) = i by omega]; exact hx), isr_snoc, hr0])
        have hd : L.drop i = x :: L.drop (i + 1) := by
          rw [List.drop_eq_getElem_cons (by omega)]
          rw [List.getElem?_eq_getElem (by omega)] at hx
          rw [Option.some.inj hx]
        have hAl : (L.take a).length = a := by rw [List.length_take]; omega
        have hDl : (L.drop (i + 1)).length = n - (i + 1) := by rw [List.length_drop, hn]
        have HL2 : St S w wr [Blk g (itms (L.take a ++ (r0.reverse ++ x :: ([] ++ L.drop (i + 1)))) ++ R).toArray 56] := by
          have e : srt L a i = L.take a ++ (r0.reverse ++ x :: ([] ++ L.drop (i + 1))) := by unfold srt; rw [hr0, hd]; rfl
          rw [← e]
          exact HL
        obtain ⟨A, hA⟩ : ∃ A, L.take a = A := ⟨_, rfl⟩
        obtain ⟨D, hD⟩ : ∃ D, L.drop (i + 1) = D := ⟨_, rfl⟩
        rw [hA] at hAl HL2 hnext
        rw [hD] at hDl HL2 hnext
        clear hx hr0 hd hA hD HL
        go_upto_block 3 with (fail)
        go_loopw [9] (fun s9 wr => ∃ (r q : List Itm), s9 = .int .i64 ((a + r.length : Nat) : Int) ∧ a + r.length + q.length = i ∧ (∀ z ∈ r, z.mild) ∧ Hid (insR r0 x = q.reverse ++ insR r x) ∧ St S w wr [Blk g (itms (A ++ (r.reverse ++ x :: (q ++ D))) ++ R).toArray 56]) (fun s9 _ => (intOf s9).toNat)
        case atStart => exact ⟨r0, [], by rw [hr0l, show a + (i - a) = i by omega], by simp; omega, hr0m, Lib.hid rfl, HL2⟩
        case round =>
          clear HL2 hr0m hr0l
          obtain ⟨r, q, rfl, hrq, hrm, hI, HM⟩ := hrel
          obtain ⟨j, hj⟩ : ∃ j, a + r.length = j := ⟨_, rfl⟩
          rw [hj] at hrq
          simp only [hj]
          cases r with
          | nil =>
            obtain rfl : j = a := by simpa using hj.symm
            have z1 : decide ((j : Int) < (j : Int)) = false := by simp
            have z2 : decide (j < j) = false := by simp
            clear hj
            go_upto_region 4 with (fail)
            refine wp_calm (fun w' => St S w w' [Blk g (itms (A ++ (List.reverse [] ++ x :: (q ++ D))) ++ R).toArray 56]) (by kernel_rfl) (by kernel_rfl) (HM.drew) ?_
            iterate 17 first
              | (apply calm_pass
                 · rfl
                 intro K hK
                 go_simp
                 refine hK _ ?_
                 clear hK K)
              | (apply calm_step
                 · rfl
                 · intro w1 h1
                   first
                     | (go_simp
                        first
                          | rfl
                          | exact ⟨rfl, h1⟩
                       )
                 intro K hK
                 go_simp
                 refine hK _ ?_
                 clear hK K)
            refine calm_nil ?_
            intro w2 H2
            go_wp2
            go_roundw
            case rel =>
              refine ⟨i + 1, by omega, by omega, by go_num, ?_⟩
              rw [hnext.out, hI.out]
              simpa [insR] using H2
            case measure => simp [intOf]; omega
          | cons y r =>
            obtain ⟨m, hm'⟩ : ∃ m, a + r.length = m := ⟨_, rfl⟩
            have hjm : j = m + 1 := by simp at hj; omega
            have ham : a ≤ m := by omega
            have hAr : (A ++ r.reverse).length = m := by simp; omega
            have hTe : A ++ ((y :: r).reverse ++ x :: (q ++ D)) = (A ++ r.reverse) ++ (y :: x :: (q ++ D)) := by simp
            rw [hTe] at HM
            have hT2 : ((A ++ r.reverse) ++ (y :: x :: (q ++ D))).length = n := by
              simp only [List.length_append, List.length_cons] at hAr ⊢
              omega
            have hTx : ((A ++ r.reverse) ++ (y :: x :: (q ++ D)))[j]? = some x := by rw [List.getElem?_append_right (by omega), hAr, hjm]; simp
            have hTy : ((A ++ r.reverse) ++ (y :: x :: (q ++ D)))[m]? = some y := by rw [List.getElem?_append_right (by omega), hAr]; simp
            have hswap : (((A ++ r.reverse) ++ (y :: x :: (q ++ D))).set j y).set m x = (A ++ r.reverse) ++ (x :: y :: (q ++ D)) := by
              rw [List.set_append_right _ _ (by omega), hAr, hjm, show m + 1 - m = 1 by omega, List.set_append_right _ _ (by omega), hAr, Nat.sub_self]
              rfl
            have hym := hrm y (by simp)
            have hrm2 : ∀ z ∈ r, z.mild := fun z hz => hrm z (by simp [hz])
            have hwj : IntKind.i64.wrap ((j : Int) - 1) = (m : Int) := by rw [IntKind.wrap_i64]; omega
            have hjn : (j : Int) < (n : Int) := by omega
            have hmn : (m : Int) < (n : Int) := by omega
            have hjn' : j < n := by omega
            have hmn' : m < n := by omega
            have z1 : decide ((a : Int) < (j : Int)) = true := by simp; omega
            have z2 : decide (a < j) = true := by simp; omega
            have hIc : x.time < y.time → Hid (insR r0 x = (y :: q).reverse ++ insR r x) := fun h => Lib.hid (by rw [hI.out, insR, if_pos h]; simp)
            have hIs : ¬ x.time < y.time → Hid (srt L a (i + 1) = (A ++ r.reverse) ++ (y :: x :: (q ++ D))) := fun h => Lib.hid (by rw [hnext.out, hI.out, insR, if_neg h]; simp)
            have kc := clk_cmp x y hxm hym
            have hrq2 : m + (q.length + 1) = i := by omega
            obtain ⟨B, hB⟩ : ∃ B, A ++ r.reverse = B := ⟨_, rfl⟩
            rw [hB] at HM hT2 hTx hTy hswap hIs
            have hBh := Lib.hid hB
            have hmh := Lib.hid hm'
            clear hB hAr hTe hI hnext hj hm' hrm
            have hjmh := Lib.hid hjm
            clear hjm
            obtain ⟨xk, xy, xt, xv⟩ := x
            obtain ⟨yk, yy, yt, yv⟩ := y
            unfold itmV textV at kc
            simp only at kc hIc hIs
            obtain ⟨T, hT⟩ : ∃ T, B ++ (⟨yk, yy, yt, yv⟩ :: ⟨xk, xy, xt, xv⟩ :: (q ++ D)) = T := ⟨_, rfl⟩
            rw [hT] at HM hT2 hTx hTy hswap hIs
            have hTh := Lib.hid hT
            clear hT
            go_upto_region 4 with (fail)
            refine wp_calm (fun w' => St S w w' [Blk g (itms T ++ R).toArray 56]) (by kernel_rfl) (by kernel_rfl) (HM.drew) ?_
            iterate 17 first
              | (apply calm_pass
                 · rfl
                 intro K hK
                 go_simp
                 refine hK _ ?_
                 clear hK K)
              | (apply calm_step
                 · rfl
                 · intro w1 h1
                   obtain ⟨q0, q1, q2, q3⟩ := blk_itms (h1.blk 0 rfl) hTx
                   obtain ⟨p0, p1, p2, p3⟩ := blk_itms (h1.blk 0 rfl) hTy
                   unfold textV at q1 p1
                   simp only at q0 q1 q2 q3 p0 p1 p2 p3
                   first
                     | (go_simp
                        first
                          | rfl
                          | exact ⟨rfl, h1⟩
                          | (go_at_call 94; with_reducible exact St.callPast (kc w1) h1)
                       )
                 intro K hK
                 go_simp
                 refine hK _ ?_
                 clear hK K)
            refine calm_nil ?_
            intro w2 H2
            by_cases hlt2 : xt < yt
            · have hIc2 := hIc hlt2
              clear hIc hIs kc
              have e1 : decide (xt < yt) = true := by simpa using hlt2
              have e3 : xt - yt < 0 := by omega
              clear hlt2 e1
              obtain ⟨q0, q1, q2, q3⟩ := blk_itms (H2.drew.blk 0 rfl) hTx
              obtain ⟨p0, p1, p2, p3⟩ := blk_itms (H2.drew.blk 0 rfl) hTy
              unfold textV at q1 p1
              simp only at q0 q1 q2 q3 p0 p1 p2 p3
              have m1 : mayCells w2 g (j * 4) 4 = true := mayCells_blk (H2.blk 0 rfl) (by
                have := itms_len T
                simp only [List.size_toArray, List.length_append]
                omega)
              have H3 : St S w _ [Blk g (itms (T.set j ⟨yk, yy, yt, yv⟩) ++ R).toArray 56] := H2.drew.setItm 0 rfl j (by omega) ⟨yk, yy, yt, yv⟩
              have m2 : mayCells (w2.drew.setCells g (j * 4) (itmC ⟨yk, yy, yt, yv⟩).toList) g (m * 4) 4 = true := mayCells_blk (H3.blk 0 rfl) (by
                have := itms_len (T.set j ⟨yk, yy, yt, yv⟩)
                simp only [List.size_toArray, List.length_append, List.length_set] at this ⊢
                omega)
              have H4 : St S w _ [Blk g (itms ((T.set j ⟨yk, yy, yt, yv⟩).set m ⟨xk, xy, xt, xv⟩) ++ R).toArray 56] := H3.setItm 0 rfl m (by rw [List.length_set]; omega) ⟨xk, xy, xt, xv⟩
              rw [hswap] at H4
              have H4h := Lib.hid H4
              clear H4 H3 HM
              have m2' : mayCells (w2.drew.setCells g (j * 4) [.int .i64 yk, .string ⟨yy.toArray⟩, .int .i64 yt, .int .i64 yv]) g (m * 4) 4 = true := m2
              clear m2
              have a1 : allOne #[.int .i64 yk, .string ⟨yy.toArray⟩, .int .i64 yt, .int .i64 yv] = true := by simp [allOne, Value.oneCell']
              have a2 : allOne #[.int .i64 xk, .string ⟨xy.toArray⟩, .int .i64 xt, .int .i64 xv] = true := by simp [allOne, Value.oneCell']
              go_upto_region 6 with (fail)
              go_region
              clear q0 q1 q2 q3 p0 p1 p2 p3 m1 m2' a1 a2
              go_wp2
              go_roundw
              case rel =>
                refine ⟨r, ⟨yk, yy, yt, yv⟩ :: q, by rw [hmh.out], by rw [hmh.out]; simpa using hrq2, hrm2, hIc2, ?_⟩
                have H5 := H4h.out
                rw [← hBh.out, List.append_assoc] at H5
                exact H5
              case measure => simp [intOf]; omega
            · have hIs2 := hIs hlt2
              clear hIc hIs kc
              have e3 : ¬ (xt - yt < 0) := by omega
              clear hlt2
              go_wp2
              go_roundw
              case rel =>
                refine ⟨i + 1, by omega, by omega, by go_num, ?_⟩
                rw [hIs2.out]
                exact H2
              case measure => simp [intOf]; omega
      · obtain rfl : i = b := by omega
        go_wp2
        go_end0
        exact ⟨rfl, HL⟩
end
end Go.Proofs.YtiglgfonhdfpmaaGreat

/- clock's Sorted where there are few events (the stable sort's one block). Condition: fewer than 20 events. -/
set_option linter.unusedVariables false
set_option linter.unusedSimpArgs false
namespace Go.Proofs.YtiglgfonhdfpmaaGreat
open Go.RowKit

set_option maxHeartbeats 4000000 in
set_option maxRecDepth 100000 in
theorem stable_few {g n cap : Nat} {L : List Itm} {R : List Value} {w : World} {S : Nat → Prop} (hn : L.length = n) (hnb : n < 20) (hm : ∀ z ∈ L, z.mild) (H : Sep w [Blk g (itms L ++ R).toArray 56] S) :
    Calls Tryz.prog 155 #[.slice (some ⟨g, 0, none⟩) n cap, .int .i64 n, cmpV] w fun e w' => e = .returned (.tuple #[]) ∧ St S w w' [Blk g (itms (isr L).reverse ++ R).toArray 56] := by
  have k0 := fun (S' : Nat → Prop) (w' : World) (K : Sep w' [Blk g (itms L ++ R).toArray 56] S') => ins_sort (cap := cap) (a := 0) (b := n) hn (by omega) hm (by omega) (by omega) K
  have e : srt L 0 n = (isr L).reverse := by
    have e1 : L.drop n = [] := List.drop_of_length_le (by omega)
    have e2 : L.take n = L := List.take_of_length_le (by omega)
    unfold srt
    rw [e1, List.append_nil, List.drop_zero, Nat.sub_zero, e2, List.take_zero, List.nil_append]
  simp only [e] at k0
  unfold cmpV at k0 ⊢
  have z1 : ¬ (20 : Int) ≤ (n : Int) := by omega
  have z2 : ¬ (20 : Int) < (n : Int) := by omega
  have k1 := k0 S w H
  clear k0 hm hn e
  go_enter Tryz.func155, Tryz.ntmps155
  go_upto_block 1 with (fail)
  go_loopw [7, 8] (fun s7 s8 wr => s7 = .int .i64 0 ∧ s8 = .int .i64 20 ∧ wr = w) (fun _ _ _ => 0)
  case atStart => exact ⟨rfl, rfl, rfl⟩
  case round =>
    obtain ⟨rfl, rfl, rfl⟩ := hrel
    go_upto_block 3 with (go_at_call 206; go_must (refine k1.mono ?_; rintro e w1 ⟨rfl, H1⟩))
    clear k1
    go_loopw [6] (fun s6 wr => s6 = .int .i64 20 ∧ wr = w1) (fun _ _ => 0)
    case atStart => exact ⟨rfl, rfl⟩
    case round =>
      obtain ⟨rfl, rfl⟩ := hrel
      go_wp2
      go_end0
      exact ⟨rfl, H1⟩

set_option maxHeartbeats 1000000 in
set_option maxRecDepth 100000 in
theorem sort_few {v : Value} {L : List Itm} {w : World} {S : Nat → Prop} (hnb : L.length < 20) (hn0 : L ≠ []) (hm : ∀ z ∈ L, z.mild) (H : Sep w [Row 56 4 v L.length (itms L)] S) :
    Calls Tryz.prog 93 #[v, cmpV] w fun e w' => e = .returned (.tuple #[]) ∧ St S w w' [Row 56 4 v L.length (itms (isr L).reverse)] := by
  obtain ⟨g, cap, R, rfl, hnc, hcm, hxl, hcs, HB⟩ := (St.refl H).row_blk 0 rfl (by intro h; exact hn0 (List.eq_nil_of_length_eq_zero h))
  have HB : St S w w [Blk g (itms L ++ R).toArray 56] := HB
  obtain ⟨S1, K1, G1⟩ := St.call (l1 := [_]) (l2 := []) HB
  have k1 := stable_few (cap := cap) rfl hnb hm K1
  have hend : ∀ w', St S w w' [Blk g (itms (isr L).reverse ++ R).toArray 56] → St S w w' [Row 56 4 (.slice (some ⟨g, 0, none⟩) L.length cap) L.length (itms (isr L).reverse)] := fun w' H' => by
    have hl2 : (itms (isr L).reverse).length = L.length * 4 := by rw [itms_len, List.length_reverse, isr_len]
    exact H'.blk_row 0 (e := 56) (size := 4) (cap := cap) (n := L.length) (xs := itms (isr L).reverse) rfl hnc hcm (by
      rw [List.length_append, hl2, ← hxl, ← List.length_append]; exact hcs) (by
      rw [List.take_append_of_le_length (by omega), List.take_of_length_le (by omega)])
  unfold cmpV at k1 ⊢
  clear H HB
  go_enter Tryz.func93, Tryz.ntmps93
  go_wp2_with (go_at_call 155; go_must (refine k1.mono ?_; rintro e w1 ⟨rfl, H1⟩; have H2 := G1 _ _ H1))
  go_end0
  exact ⟨rfl, hend _ H2⟩

set_option maxHeartbeats 1000000 in
set_option maxRecDepth 100000 in
theorem clk_sorted_few {v : Value} {l : List Itm} {w : World} (hv : ItmsRO w v l) (hl : l.length ≤ 3518437208880) (hnb : (l.filter Itm.counts).length < 20) (hn0 : l.filter Itm.counts ≠ []) :
    Calls Tryz.prog 50 #[v] w fun e w' => ∃ v', e = .returned v' ∧ St (fun _ => False) w w' [Row 56 4 v' (l.filter Itm.counts).length (itms (isr (l.filter Itm.counts)).reverse)] := by
  have ke := clk_events hv hl
  have hm : ∀ z ∈ l.filter Itm.counts, z.mild := fun z hz => by
    obtain ⟨_, h1, h2⟩ := counts_time (List.mem_filter.1 hz).2
    exact ⟨by omega, h2⟩
  have ks := fun (S' : Nat → Prop) (w' : World) (v' : Value) (K : Sep w' [Row 56 4 v' (l.filter Itm.counts).length (itms (l.filter Itm.counts))] S') => sort_few hnb hn0 hm K
  unfold cmpV at ks
  go_enter Tryz.func50, Tryz.ntmps50
  go_wp2_with (first
    | (go_at_call 92; go_must (refine ke.mono ?_; rintro e w2 ⟨ve, rfl, H4⟩; obtain ⟨ea, ec, rfl, hec, hea⟩ := slice_form' (H4.row 0 rfl); obtain ⟨S1, K1, G1⟩ := St.call (l1 := [_]) (l2 := []) H4))
    | (go_at_call 93; go_must (refine (ks _ _ _ K1).mono ?_; rintro e w3 ⟨rfl, H5⟩; have H6 := G1 _ _ H5)))
  go_ret
  exact ⟨_, rfl, H6⟩
end Go.Proofs.YtiglgfonhdfpmaaGreat

/- What came in, read by its type: integers, texts, structs, arrays, slices of these. Laws over any program. No condition of its own. -/
set_option linter.unusedVariables false
set_option linter.unusedSimpArgs false
namespace Go.Proofs.YtiglgfonhdfpmaaGreat
open Go.RowKit

/-- These cells read as a value of this type. -/
def R (P : Program) (w : World) (t : TypeId) (cs : List Value) : Prop :=
  ∃ (H : Type) (enc : TypeId × Value → H) (spare : Nat → Bool) (held : Bool) (fuel : Nat) (x : DataW H × List MemPlace), DataW.trod enc P w 0 spare held fuel t cs = some x

section
variable {P : Program} {w : World} {t e : TypeId} {cs : List Value}
theorem R.int {k : IntKind} (ht : P.underlying t = some (.int k)) (h : R P w t cs) : ∃ n, cs = [.int k n] ∧ (Lit.int k n).wf = true := by
  obtain ⟨H, enc, spare, held, fuel, x, h⟩ := h
  obtain ⟨n, h1, _, h2⟩ := DataW.trod_int ht h
  exact ⟨n, h1, h2⟩
theorem R.bool (ht : P.underlying t = some .bool) (h : R P w t cs) : ∃ b, cs = [.bool b] := by
  obtain ⟨H, enc, spare, held, fuel, x, h⟩ := h
  obtain ⟨n, h1, _⟩ := DataW.trod_bool ht h
  exact ⟨n, h1⟩
theorem R.text (ht : P.underlying t = some .string) (h : R P w t cs) : ∃ s : ByteArray, cs = [.string s] ∧ s.size ≤ maxLen := by
  obtain ⟨H, enc, spare, held, fuel, x, h⟩ := h
  obtain ⟨n, h1, _, h2⟩ := DataW.trod_string ht h
  exact ⟨n, h1, h2⟩
theorem R.struct {fs : Array Field} (ht : P.underlying t = some (.struct fs)) (h : R P w t cs) : cs.length = P.cellsOf t ∧ ∀ (i : Nat) (f : Field), fs[i]? = some f → R P w f.type ((cs.drop f.offset).take (P.cellsOf f.type)) := by
  obtain ⟨H, enc, spare, held, fuel, x, h⟩ := h
  obtain ⟨xs, n, rfl, rfl, h1, h2, h3⟩ := DataW.trod_struct ht h
  refine ⟨h1, fun i f hf => ?_⟩
  have hi : i < xs.length := by rw [h2]; exact (Array.getElem?_eq_some_iff.1 hf).1
  exact ⟨H, enc, spare, held, n, xs[i], by rw [h3 i f hf, List.getElem?_eq_getElem hi]⟩
theorem cells_range {b o n : Nat} {cs' : List Value} (h : w.cells? 0 ⟨b, o, none⟩ n = some cs') : cs'.length = n ∧ w.rangeAt b o cs' := by
  obtain ⟨_, h1, h2⟩ := World.cells?_some h
  refine ⟨h1, fun j v hj => ?_⟩
  have hjl : j < n := by rw [← h1]; exact (List.getElem?_eq_some_iff.1 hj).1
  have := h2 j hjl
  rw [Addr.add_mid] at this
  rw [this, hj]
theorem R.slice {size : Nat} (ht : P.underlying t = some (.slice e)) (hs : P.cellsOf e = size) (hp : 0 < size) (h : R P w t cs) :
    ∃ ao len cap, cs = [.slice ao len cap] ∧ len ≤ cap ∧ cap ≤ maxLen ∧ (0 < len → ∃ b o, ao = some ⟨b, o, none⟩ ∧ b < w.heap.size ∧ ∀ i, i < len → ∃ cs', cs'.length = size ∧ w.rangeAt b (o + i * size) cs' ∧ R P w e cs') := by
  obtain ⟨H, enc, spare, held, fuel, x, h⟩ := h
  rcases DataW.trod_slice ht h with ⟨h0, _⟩ | ⟨a, len, cap, elems, rest, n, rfl, hcs, _, hb, hl, hm, hlen, hel, _⟩
  · exact ⟨none, 0, 0, h0, by omega, by simp, fun h => absurd h (by omega)⟩
  · refine ⟨some a, len, cap, hcs, hl, hm, fun h0 => ?_⟩
    obtain ⟨b, o, spot⟩ := a
    have hspot : spot = none := by
      have h1 := hel 0 h0
      rw [List.getElem?_eq_getElem (by omega)] at h1
      obtain ⟨cs', hc, _⟩ := Option.bind_eq_some_iff.1 h1
      rw [hs] at hc
      obtain ⟨_, g1, g2⟩ := World.cells?_some hc
      have g3 := g2 0 hp
      rw [List.getElem?_eq_getElem (by omega)] at g3
      have := World.cell?_spot g3
      simpa [Addr.add] using this
    subst hspot
    have hall : ∀ i, i < len → ∃ cs', cs'.length = size ∧ w.rangeAt b (o + i * size) cs' ∧ R P w e cs' := by
      intro i hi
      have h1 := hel i hi
      rw [List.getElem?_eq_getElem (by omega)] at h1
      obtain ⟨cs', hc, hx⟩ := Option.bind_eq_some_iff.1 h1
      rw [hs, Addr.add_mid] at hc
      obtain ⟨g1, g2⟩ := cells_range hc
      exact ⟨cs', g1, g2, H, enc, spare, held, n, _, hx⟩
    obtain ⟨cs', g1, g2, _⟩ := hall 0 h0
    refine ⟨b, o, rfl, ?_, hall⟩
    have := g2 0 _ (List.getElem?_eq_getElem (by omega))
    exact World.block_lt_of_cell? _ _ this
end

end Go.Proofs.YtiglgfonhdfpmaaGreat
