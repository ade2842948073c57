/- A clock as plain data, and the walks of New, Good, See, Last, Tide. No condition but that numbers are such. -/
import Derived.Test.YtoffcoegghigoaaStoreM
import Derived.Test.YtoffcoegghigoaaCalm
import Derived.Test.YtoffcoegghigoaaRet
import Derived.Test.YtoffcoegghigoaaGen
import Derived.Test.YtoffcoegghigoaaApp
import Derived.Test.YtoffcoegghigoaaScript
namespace Go.Proofs.Ytoffcoegghigoaa
open Go.RowKit

structure Clk where
  slack : Int
  step : Int
  top : Int
  last : Int
def clkC (c : Clk) : Array Value := #[.int .i64 c.slack, .int .i64 c.step, .int .i64 c.top, .int .i64 c.last]
def clkGood (slack step : Int) : Bool := decide (0 ≤ slack) && decide (slack ≤ 1073741824) && decide (1 ≤ step) && decide (step ≤ 1073741824)
def timeOk (t : Int) : Bool := decide (0 ≤ t) && decide (t ≤ 1099511627776)
/-- A time is seen: the mark and whether there is one. -/
def Clk.see (c : Clk) (t : Int) : Clk × Int × Bool :=
  if timeOk t = false then (c, 0, false)
  else if max c.top t - c.slack < 0 ∨ (0 ≤ c.last ∧ max c.top t - c.slack < c.last + c.step) then ({ c with top := max c.top t }, 0, false)
  else ({ c with top := max c.top t, last := max c.top t - c.slack }, max c.top t - c.slack, true)
def Clk.ok (c : Clk) : Prop := (0 ≤ c.slack ∧ c.slack ≤ 1073741824) ∧ (1 ≤ c.step ∧ c.step ≤ 1073741824) ∧ (-1 ≤ c.top ∧ c.top ≤ 1099511627776) ∧ (-1 ≤ c.last ∧ c.last ≤ 1099511627776)
theorem see_ok {c : Clk} (h : c.ok) (t : Int) : (c.see t).1.ok := by
  obtain ⟨h1, h2, h3, h4⟩ := h
  unfold Clk.see
  split
  · exact ⟨h1, h2, h3, h4⟩
  · rename_i ht
    simp [timeOk] at ht
    split
    · exact ⟨h1, h2, by simp only; omega, h4⟩
    · exact ⟨h1, h2, by simp only; omega, by simp only; omega⟩
def newClk (slack step : Int) : Clk := ⟨slack, step, -1, -1⟩
theorem newClk_ok {slack step : Int} (h : clkGood slack step = true) : (newClk slack step).ok := by
  simp [clkGood] at h
  simp [Clk.ok, newClk]
  omega

theorem ref_good (slack step : Int) (w : World) : Calls Try.prog 36 #[.int .i64 slack, .int .i64 step] w fun e w' => e = .returned (.bool (clkGood slack step)) ∧ w' = w := by
  have hd : clkGood slack step = (decide (0 ≤ slack) && decide (slack ≤ 1073741824) && decide (1 ≤ step) && decide (step ≤ 1073741824)) := rfl
  have hdh := Lib.hid hd
  clear hd
  by_cases h1 : 0 ≤ slack
  · have z1 : decide (0 ≤ slack) = true := by simpa using h1
    by_cases h2 : slack ≤ 1073741824
    · have z2 : decide (slack ≤ 1073741824) = true := by simpa using h2
      by_cases h3 : 1 ≤ step
      · have z3 : decide (1 ≤ step) = true := by simpa using h3
        have hfin := Lib.hid (show clkGood slack step = decide (step ≤ 1073741824) by rw [hdh.out, z1, z2, z3]; rfl)
        go_enter Try.func36, Try.ntmps36
        go_wp2
        go_ret
        exact ⟨by rw [hfin.out]; rfl, rfl⟩
      · have z3 : decide (1 ≤ step) = false := by simpa using h3
        have hfin := Lib.hid (show clkGood slack step = false by rw [hdh.out, z1, z2, z3]; rfl)
        go_enter Try.func36, Try.ntmps36
        go_wp2
        go_ret
        exact ⟨by rw [hfin.out]; rfl, rfl⟩
    · have z2 : decide (slack ≤ 1073741824) = false := by simpa using h2
      have hfin := Lib.hid (show clkGood slack step = false by rw [hdh.out, z1, z2]; rfl)
      go_enter Try.func36, Try.ntmps36
      go_wp2
      go_ret
      exact ⟨by rw [hfin.out]; rfl, rfl⟩
  · have z1 : decide (0 ≤ slack) = false := by simpa using h1
    have hfin := Lib.hid (show clkGood slack step = false by rw [hdh.out, z1]; rfl)
    go_enter Try.func36, Try.ntmps36
    go_wp2
    go_ret
    exact ⟨by rw [hfin.out]; rfl, rfl⟩
theorem clk_bad {slack step : Int} (h : clkGood slack step = false) (w : World) : Calls Try.prog 35 #[.int .i64 slack, .int .i64 step] w fun e w' => e = .returned (.tuple #[.pointer none, .int .i64 2]) ∧ w' = w := by
  have hc : slack < 0 ∨ (¬ slack < 0 ∧ 1073741824 < slack) ∨ (¬ slack < 0 ∧ ¬ 1073741824 < slack ∧ step < 1) ∨ (¬ slack < 0 ∧ ¬ 1073741824 < slack ∧ ¬ step < 1 ∧ 1073741824 < step) := by
    simp [clkGood] at h
    omega
  clear h
  rcases hc with h1 | ⟨h1, h2⟩ | ⟨h1, h2, h3⟩ | ⟨h1, h2, h3, h4⟩
  all_goals
    go_enter Try.func35, Try.ntmps35
    go_wp2
    go_ret2
    exact ⟨rfl, rfl⟩
theorem clk_new {slack step : Int} (h : clkGood slack step = true) (w : World) : Calls Try.prog 35 #[.int .i64 slack, .int .i64 step] w fun e w' => ∃ b, e = .returned (.tuple #[.pointer (some ⟨b, 0, none⟩), .int .i64 0]) ∧ St (fun _ => False) w w' [Blk b (clkC (newClk slack step)) 87] := by
  have hc : ¬ slack < 0 ∧ ¬ 1073741824 < slack ∧ ¬ step < 1 ∧ ¬ 1073741824 < step := by
    simp [clkGood] at h
    omega
  obtain ⟨h1, h2, h3, h4⟩ := hc
  clear h
  go_enter Try.func35, Try.ntmps35
  go_wp2
  go_ret2
  exact ⟨_, rfl, (St.nil (fun _ => False) w).alloc _ _⟩
theorem clk_see_nil (t : Int) (w : World) : Calls Try.prog 37 #[.pointer none, .int .i64 t] w fun e w' => e = .returned (.tuple #[.int .i64 0, .bool false]) ∧ w' = w := by
  go_enter Try.func37, Try.ntmps37
  go_wp2
  go_ret2
  exact ⟨rfl, rfl⟩

set_option maxHeartbeats 2000000 in
set_option maxRecDepth 100000 in
theorem clk_see {b : Nat} {c : Clk} {t : Int} {w : World} {S : Nat → Prop} (hc : c.ok) (H : Sep w [Blk b (clkC c) 87] S) :
    Calls Try.prog 37 #[.pointer (some ⟨b, 0, none⟩), .int .i64 t] w fun e w' => e = .returned (.tuple #[.int .i64 (c.see t).2.1, .bool (c.see t).2.2]) ∧ St S w w' [Blk b (clkC (c.see t).1) 87] := by
  have H0 : St S w w [Blk b (clkC c) 87] := St.refl H
  have hs : c.see t = if timeOk t = false then (c, 0, false) else if max c.top t - c.slack < 0 ∨ (0 ≤ c.last ∧ max c.top t - c.slack < c.last + c.step) then ({ c with top := max c.top t }, 0, false) else ({ c with top := max c.top t, last := max c.top t - c.slack }, max c.top t - c.slack, true) := rfl
  obtain ⟨⟨a1, a2⟩, ⟨a3, a4⟩, ⟨a5, a6⟩, ⟨a7, a8⟩⟩ := hc
  obtain ⟨slack, step, top, last⟩ := c
  simp only at hs a1 a2 a3 a4 a5 a6 a7 a8
  unfold clkC at H0
  simp only at H0
  have c0 := H0.cell 0 0 rfl rfl
  have c1 := H0.cell 0 1 rfl rfl
  have c2 := H0.cell 0 2 rfl rfl
  have c3 := H0.cell 0 3 rfl rfl
  have f2 := H0.free 0 2 rfl
  have f3 := H0.free 0 3 rfl
  have hb := H0.blk_lt 0 rfl
  by_cases h1 : t < 0
  · have z1 : decide (t < 0) = true := by simpa using h1
    have hsh := Lib.hid (hs.trans (if_pos (show timeOk t = false by simp [timeOk]; omega)))
    clear hs
    go_enter Try.func37, Try.ntmps37
    go_wp2
    go_ret2
    rw [hsh.out]
    exact ⟨rfl, H0⟩
  · have z1 : decide (t < 0) = false := by simpa using h1
    by_cases h2 : 1099511627776 < t
    · have z2 : decide (1099511627776 < t) = true := by simpa using h2
      have hsh := Lib.hid (hs.trans (if_pos (show timeOk t = false by simp [timeOk]; omega)))
      clear hs
      go_enter Try.func37, Try.ntmps37
      go_wp2
      go_ret2
      rw [hsh.out]
      exact ⟨rfl, H0⟩
    · have z2 : decide (1099511627776 < t) = false := by simpa using h2
      have hs := hs.trans (if_neg (show ¬ timeOk t = false by simp [timeOk]; omega))
      obtain ⟨mx, hmx⟩ : ∃ mx, max top t = mx := ⟨_, rfl⟩
      have hm1 : mx ≤ 1099511627776 ∧ 0 ≤ mx := by omega
      rw [hmx] at hs
      have hmx2 : (if top < t then t else top) = mx := by rw [← hmx]; split <;> omega
      have H1 : St S w _ [_] := H0.set 0 rfl 2 (.int .i64 mx)
      have hw1 : IntKind.i64.wrap (mx - slack) = mx - slack := by rw [IntKind.wrap_i64]; omega
      have hw2 : IntKind.i64.wrap (last + step) = last + step := by rw [IntKind.wrap_i64]; omega
      go_enter Try.func37, Try.ntmps37
      clear hmx
      go_upto_region 4 with (fail)
      obtain ⟨w1, hw1'⟩ : ∃ w1, w.setCell ⟨b, 2, none⟩ (.int .i64 mx) = w1 := ⟨_, rfl⟩
      rw [hw1'] at H1
      try rw [hw1']
      have H1 : St S w w1 [Blk b #[.int .i64 slack, .int .i64 step, .int .i64 mx, .int .i64 last] 87] := H1
      clear hw1' c0 c1 c2 c3 f2 f3 hb H0 hmx2
      refine wp_calm (fun w' => St S w w' [Blk b #[.int .i64 slack, .int .i64 step, .int .i64 mx, .int .i64 last] 87]) (by kernel_rfl) (by kernel_rfl) (H1.drew) ?_
      iterate 10 first
        | (apply calm_pass
           · rfl
           intro K hK
           go_simp
           refine hK _ ?_
           clear hK K)
        | (apply calm_step
           · rfl
           · intro w1 h1
             have c0 := h1.cell 0 0 rfl rfl
             have c2 := h1.cell 0 2 rfl rfl
             first
               | (go_simp
                  first
                    | rfl
                    | exact ⟨rfl, h1⟩
                 )
           intro K hK
           go_simp
           refine hK _ ?_
           clear hK K)
      refine calm_nil ?_
      intro w2 H2
      clear H1
      by_cases g1 : mx - slack < 0
      · have y1 : decide (mx - slack < 0) = true := by simpa using g1
        have hsh := Lib.hid (hs.trans (if_pos (.inl g1)))
        clear hs g1 h1 h2
        go_upto_region 5 with (fail)
        refine wp_calm (fun w' => St S w w' [Blk b #[.int .i64 slack, .int .i64 step, .int .i64 mx, .int .i64 last] 87]) (by kernel_rfl) (by kernel_rfl) (H2.drew) ?_
        iterate 22 first
          | (apply calm_pass
             · rfl
             intro K hK
             go_simp
             refine hK _ ?_
             clear hK K)
          | (apply calm_step
             · rfl
             · intro w1 h1
               first
                 | (go_simp
                    first
                      | rfl
                      | exact ⟨rfl, h1⟩
                   )
             intro K hK
             go_simp
             refine hK _ ?_
             clear hK K)
        refine calm_nil ?_
        intro w3 H3
        go_wp2
        go_ret2
        rw [hsh.out]
        exact ⟨rfl, H3⟩
      · have y1 : decide (mx - slack < 0) = false := by simpa using g1
        by_cases g2 : 0 ≤ last
        · have y2 : decide (0 ≤ last) = true := by simpa using g2
          by_cases g3 : mx - slack < last + step
          · have y3 : decide (mx - slack < last + step) = true := by simpa using g3
            have hsh := Lib.hid (hs.trans (if_pos (.inr ⟨g2, g3⟩)))
            clear hs g1 g2 g3 h1 h2
            go_upto_region 5 with (fail)
            refine wp_calm (fun w' => St S w w' [Blk b #[.int .i64 slack, .int .i64 step, .int .i64 mx, .int .i64 last] 87]) (by kernel_rfl) (by kernel_rfl) (H2.drew) ?_
            iterate 22 first
              | (apply calm_pass
                 · rfl
                 intro K hK
                 go_simp
                 refine hK _ ?_
                 clear hK K)
              | (apply calm_step
                 · rfl
                 · intro w1 h1
                   have c1 := h1.cell 0 1 rfl rfl
                   have c3 := h1.cell 0 3 rfl rfl
                   first
                     | (go_simp
                        first
                          | rfl
                          | exact ⟨rfl, h1⟩
                       )
                 intro K hK
                 go_simp
                 refine hK _ ?_
                 clear hK K)
            refine calm_nil ?_
            intro w3 H3
            go_wp2
            go_ret2
            rw [hsh.out]
            exact ⟨rfl, H3⟩
          · have y3 : decide (mx - slack < last + step) = false := by simpa using g3
            have hsh := Lib.hid (hs.trans (if_neg (fun h => h.elim g1 (fun h => g3 h.2))))
            clear hs g1 g2 g3 h1 h2
            go_upto_region 5 with (fail)
            refine wp_calm (fun w' => St S w w' [Blk b #[.int .i64 slack, .int .i64 step, .int .i64 mx, .int .i64 last] 87]) (by kernel_rfl) (by kernel_rfl) (H2.drew) ?_
            iterate 22 first
              | (apply calm_pass
                 · rfl
                 intro K hK
                 go_simp
                 refine hK _ ?_
                 clear hK K)
              | (apply calm_step
                 · rfl
                 · intro w1 h1
                   have c1 := h1.cell 0 1 rfl rfl
                   have c3 := h1.cell 0 3 rfl rfl
                   first
                     | (go_simp
                        first
                          | rfl
                          | exact ⟨rfl, h1⟩
                       )
                 intro K hK
                 go_simp
                 refine hK _ ?_
                 clear hK K)
            refine calm_nil ?_
            intro w3 H3
            have c3 := H3.cell 0 3 rfl rfl
            have f3 := H3.free 0 3 rfl
            have H4 : St S w _ [_] := H3.set 0 rfl 3 (.int .i64 (mx - slack))
            go_wp2
            go_ret2
            rw [hsh.out]
            exact ⟨rfl, H4⟩
        · have y2 : decide (0 ≤ last) = false := by simpa using g2
          have hsh := Lib.hid (hs.trans (if_neg (fun h => h.elim g1 (fun h => g2 h.1))))
          clear hs g1 g2 h1 h2
          go_upto_region 5 with (fail)
          refine wp_calm (fun w' => St S w w' [Blk b #[.int .i64 slack, .int .i64 step, .int .i64 mx, .int .i64 last] 87]) (by kernel_rfl) (by kernel_rfl) (H2.drew) ?_
          iterate 22 first
            | (apply calm_pass
               · rfl
               intro K hK
               go_simp
               refine hK _ ?_
               clear hK K)
            | (apply calm_step
               · rfl
               · intro w1 h1
                 have c3 := h1.cell 0 3 rfl rfl
                 first
                   | (go_simp
                      first
                        | rfl
                        | exact ⟨rfl, h1⟩
                     )
               intro K hK
               go_simp
               refine hK _ ?_
               clear hK K)
          refine calm_nil ?_
          intro w3 H3
          have c3 := H3.cell 0 3 rfl rfl
          have f3 := H3.free 0 3 rfl
          have H4 : St S w _ [_] := H3.set 0 rfl 3 (.int .i64 (mx - slack))
          go_wp2
          go_ret2
          rw [hsh.out]
          exact ⟨rfl, H4⟩

set_option maxHeartbeats 1000000 in
theorem clk_last {b : Nat} {c : Clk} {w : World} (hb : w.heap[b]? = some (.cells (clkC c) 87 (0, 0))) :
    Calls Try.prog 39 #[.pointer (some ⟨b, 0, none⟩)] w fun e w' => e = .returned (.tuple #[.int .i64 (if c.last < 0 then 0 else c.last), .bool (!decide (c.last < 0))]) ∧ Below w.heap.size w w' := by
  have c3 : w.cell? ⟨b, 3, none⟩ = some (.int .i64 c.last) := cell_blk' hb rfl
  have hlt := blk_lt hb
  have H0 : St (fun _ => False) w w [] := St.nil _ w
  clear hb
  obtain ⟨l, hl⟩ : ∃ l, c.last = l := ⟨_, rfl⟩
  rw [hl] at c3 ⊢
  by_cases h : l < 0
  · have z : decide (l < 0) = true := by simpa using h
    go_enter Try.func39, Try.ntmps39
    go_wp2
    go_ret2
    exact ⟨by simp [h], H0.below (Nat.le_refl _) (fun _ h => h.elim)⟩
  · have z : decide (l < 0) = false := by simpa using h
    go_enter Try.func39, Try.ntmps39
    go_wp2
    go_ret2
    exact ⟨by simp [h], H0.below (Nat.le_refl _) (fun _ h => h.elim)⟩
set_option maxHeartbeats 1000000 in
theorem clk_tide {b : Nat} {c : Clk} {w : World} (hc : c.ok) (hb : w.heap[b]? = some (.cells (clkC c) 87 (0, 0))) :
    Calls Try.prog 40 #[.pointer (some ⟨b, 0, none⟩)] w fun e w' => e = .returned (.tuple #[.int .i64 (if c.top < 0 then 0 else c.top - c.slack), .bool (!decide (c.top < 0))]) ∧ Below w.heap.size w w' := by
  have c2 : w.cell? ⟨b, 2, none⟩ = some (.int .i64 c.top) := cell_blk' hb rfl
  have c0 : w.cell? ⟨b, 0, none⟩ = some (.int .i64 c.slack) := cell_blk' hb rfl
  have hlt := blk_lt hb
  have H0 : St (fun _ => False) w w [] := St.nil _ w
  obtain ⟨⟨a1, a2⟩, _, ⟨a5, a6⟩, _⟩ := hc
  obtain ⟨l, hl⟩ : ∃ l, c.top = l := ⟨_, rfl⟩
  obtain ⟨k, hk⟩ : ∃ k, c.slack = k := ⟨_, rfl⟩
  rw [hl] at c2 a5 a6 ⊢
  rw [hk] at c0 a1 a2 ⊢
  clear hb hl hk
  by_cases h : l < 0
  · have z : decide (l < 0) = true := by simpa using h
    go_enter Try.func40, Try.ntmps40
    go_wp2
    go_ret2
    exact ⟨by simp [h], H0.below (Nat.le_refl _) (fun _ h => h.elim)⟩
  · have z : decide (l < 0) = false := by simpa using h
    have hw : IntKind.i64.wrap (l - k) = l - k := by rw [IntKind.wrap_i64]; omega
    go_enter Try.func40, Try.ntmps40
    go_upto_region 3 with (fail)
    refine wp_calm (fun w' => St (fun _ => False) w w' []) (by kernel_rfl) (by kernel_rfl) (H0.drew) ?_
    iterate 11 first
      | (apply calm_pass
         · rfl
         intro K hK
         go_simp
         refine hK _ ?_
         clear hK K)
      | (apply calm_step
         · rfl
         · intro w1 h1
           have q2 := (World.cell?_of_block (w := w) (a := ⟨b, 2, none⟩) (h1.kept.block b hlt id)).trans c2
           have q0 := (World.cell?_of_block (w := w) (a := ⟨b, 0, none⟩) (h1.kept.block b hlt id)).trans c0
           first
             | (go_simp
                first
                  | rfl
                  | exact ⟨rfl, h1⟩
               )
         intro K hK
         go_simp
         refine hK _ ?_
         clear hK K)
    refine calm_nil ?_
    intro w3 H3
    go_wp2
    go_ret2
    exact ⟨by simp [h], H3.below (Nat.le_refl _) (fun _ h => h.elim)⟩

end Go.Proofs.Ytoffcoegghigoaa
