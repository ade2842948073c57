/- The document's Marks: what a clock gives, time by time. Conditions: so many times. -/
import Derived.Test.YtoffcoegghigoaaClkA
namespace Go.Proofs.Ytoffcoegghigoaa
open Go.RowKit

theorem Try.info3 : (Try.prog.info? 3).map (fun i => (i.zero, i.size, i.bytes)) = some (some (.int .i64 0), 1, 8) := by kernel_rfl
def IntsRO (w : World) (v : Value) (l : List Int) : Prop :=
  ∃ ad cap, v = .slice ad l.length cap ∧ l.length ≤ cap ∧ (∀ x ∈ l, -9223372036854775808 ≤ x ∧ x ≤ 9223372036854775807) ∧ (l ≠ [] → ∃ b o, ad = some ⟨b, o, none⟩ ∧ b < w.heap.size ∧ ∀ i x, l[i]? = some x → w.cell? ⟨b, o + i, none⟩ = some (.int .i64 x))
theorem IntsRO.later {w w' : World} {v : Value} {l : List Int} (hv : IntsRO w v l) (hk : Kept (fun _ => False) w w') : IntsRO w' v l := by
  obtain ⟨ad, cap, e1, e2, e3, e4⟩ := hv
  refine ⟨ad, cap, e1, e2, e3, fun hl => ?_⟩
  obtain ⟨b, o, g1, g2, g4⟩ := e4 hl
  exact ⟨b, o, g1, Nat.lt_of_lt_of_le g2 hk.size, fun i x hi => (World.cell?_of_block (w := w) (hk.block b g2 id)).trans (g4 i x hi)⟩
theorem ints_own {w : World} {v : Value} {n : Nat} {l : List Int} (h : w.ownsRow 0 3 1 v n (intCells l)) (hf : ∀ x ∈ l, -9223372036854775808 ≤ x ∧ x ≤ 9223372036854775807) : IntsRO w v l := by
  have hn : n = l.length := by have := h.1; simp [intCells] at this; omega
  subst hn
  rcases own_shape h with ⟨rfl, h0⟩ | ⟨g, cap, rfl, hc, hg⟩
  · obtain rfl : l = [] := List.eq_nil_of_length_eq_zero h0
    exact ⟨none, 0, rfl, Nat.le_refl _, by simp, fun h => absurd rfl h⟩
  · refine ⟨_, cap, rfl, hc, hf, fun _ => ⟨g, 0, rfl, hg, fun i x hi => ?_⟩⟩
    rw [Nat.zero_add]
    exact own_cell h (by simp [intCells, hi])
def Clk.run (c : Clk) (l : List Int) : Clk := l.foldl (fun c t => (c.see t).1) c
def Clk.mark (c : Clk) (t : Int) : Int := if (c.see t).2.2 = true then (c.see t).2.1 else -1
def Clk.marks (c : Clk) : List Int → List Int
  | [] => []
  | t :: l => c.mark t :: (c.see t).1.marks l
theorem run_snoc (c : Clk) (l : List Int) (t : Int) : c.run (l ++ [t]) = ((c.run l).see t).1 := by simp [Clk.run]
theorem marks_snoc (t : Int) : ∀ (l : List Int) (c : Clk), c.marks (l ++ [t]) = c.marks l ++ [(c.run l).mark t]
  | [], c => rfl
  | x :: l, c => by
    simp only [List.cons_append, Clk.marks, marks_snoc t l]
    rfl
theorem marks_len : ∀ (l : List Int) (c : Clk), (c.marks l).length = l.length
  | [], _ => rfl
  | x :: l, c => by simp [Clk.marks, marks_len l]
theorem marks_get {l : List Int} {c : Clk} {i : Nat} {t : Int} (h : l[i]? = some t) : (c.marks l)[i]? = some ((c.run (l.take i)).mark t) := by
  have hlt := (List.getElem?_eq_some_iff.1 h).1
  have e : l = l.take (i + 1) ++ l.drop (i + 1) := (List.take_append_drop _ _).symm
  have key : ∀ (A B : List Int) (c : Clk), c.marks (A ++ B) = c.marks A ++ (c.run A).marks B := by
    intro A
    induction A with
    | nil => intro B c; rfl
    | cons x A ih => intro B c; simp only [List.cons_append, Clk.marks, ih]; rfl
  rw [e, key, take_snoc' h, marks_snoc, List.append_assoc, List.getElem?_append_right (by rw [marks_len, List.length_take]; omega), marks_len, List.length_take, Nat.min_eq_left (by omega), Nat.sub_self]
  have e2 : (l.take i ++ [t] ++ l.drop (i + 1)).take i = l.take i := by
    rw [List.append_assoc, List.take_append_of_le_length (by rw [List.length_take]; omega), List.take_take, Nat.min_self]
  rw [e2]
  rfl
theorem run_ok {c : Clk} (h : c.ok) (l : List Int) : (c.run l).ok := by
  induction l generalizing c with
  | nil => exact h
  | cons x l ih => exact ih (see_ok h x)
theorem see_same (c : Clk) (t : Int) : (c.see t).1.slack = c.slack ∧ (c.see t).1.step = c.step ∧ (c.see t).1.top = if timeOk t = true then max c.top t else c.top := by
  unfold Clk.see
  cases h : timeOk t with
  | false => simp
  | true =>
    simp only [Bool.true_eq_false, if_false, if_true]
    split <;> exact ⟨rfl, rfl, rfl⟩
def topF (m : Int) (l : List Int) : Int := l.foldl (fun m u => if timeOk u = true then max m u else m) m
theorem run_top (l : List Int) : ∀ c : Clk, (c.run l).top = topF c.top l ∧ (c.run l).slack = c.slack ∧ (c.run l).step = c.step := by
  induction l with
  | nil => exact fun c => ⟨rfl, rfl, rfl⟩
  | cons x l ih =>
    intro c
    obtain ⟨h1, h2, h3⟩ := ih (c.see x).1
    obtain ⟨g1, g2, g3⟩ := see_same c x
    refine ⟨?_, h2.trans g1, h3.trans g2⟩
    show ((c.see x).1.run l).top = _
    rw [h1, g3]
    rfl
theorem topF_max (l : List Int) : ∀ a b : Int, topF (max a b) l = max a (topF b l) := by
  induction l with
  | nil => exact fun a b => rfl
  | cons x l ih =>
    intro a b
    show topF (if timeOk x = true then max (max a b) x else max a b) l = max a (topF (if timeOk x = true then max b x else b) l)
    split
    · rw [show max (max a b) x = max a (max b x) by omega, ih]
    · exact ih a b
theorem topF_snoc (m : Int) (l : List Int) (t : Int) : topF m (l ++ [t]) = if timeOk t = true then max (topF m l) t else topF m l := by simp [topF]
/-- The greatest one of so many, from nought on, is the clock's. -/
theorem top_is {slack step t : Int} (l : List Int) (ht : timeOk t = true) : topF 0 (l ++ [t]) = max ((newClk slack step).run l).top t := by
  obtain ⟨h1, _, _⟩ := run_top l (newClk slack step)
  have h2 : topF 0 l = max 0 (topF (-1) l) := by rw [← topF_max]; rfl
  rw [topF_snoc, if_pos ht, h1, h2]
  simp [timeOk] at ht
  show max (max 0 (topF (-1) l)) t = max (topF (-1) l) t
  omega

set_option maxHeartbeats 4000000 in
set_option maxRecDepth 100000 in
theorem ref_marks {v : Value} {l : List Int} {slack step : Int} (w : World) (hgood : clkGood slack step = true) (hv : IntsRO w v l) (hll : l.length ≤ 3518437208880) :
    Calls Try.prog 38 #[.int .i64 slack, .int .i64 step, v] w fun e w' => ∃ v', e = .returned v' ∧ St (fun _ => False) w w' [Row 3 1 v' l.length (intCells ((newClk slack step).marks l))] := by
  obtain ⟨ao, cap, rfl, hcap, hint, hcell⟩ := hv
  have hok0 := newClk_ok hgood
  have H0 : St (fun _ => False) w w [Row 3 1 (.slice none 0 0) 0 (intCells [])] := (St.nil (fun _ => False) w).row_nil 3 1
  go_enter Try.func38, Try.ntmps38
  go_upto_block 1 with (fail)
  go_loopw [7, 8, 9, 18] (fun u lv hd j wr => ∃ (i : Nat) (c : Clk) (x : Int) (y : Bool), i ≤ l.length ∧ j = .int .i64 i ∧ c = (newClk slack step).run (l.take i) ∧ lv = .int .i64 x ∧ hd = .bool y ∧ Hid (x = if c.last < 0 then 0 else c.last) ∧ Hid (y = !decide (c.last < 0)) ∧ St (fun _ => False) w wr [Row 3 1 u i (intCells ((newClk slack step).marks (l.take i)))]) (fun _ _ _ j _ => l.length - (intOf j).toNat)
  case atStart => exact ⟨0, newClk slack step, 0, false, by omega, rfl, rfl, rfl, rfl, Lib.hid rfl, Lib.hid rfl, H0⟩
  case round =>
    clear H0
    obtain ⟨i, c, x, y, hi, rfl, hc, rfl, rfl, hx0, hy0, HL⟩ := hrel
    by_cases hlt : i < l.length
    · obtain ⟨b, o, rfl, hb, hcl⟩ := hcell (by rintro rfl; simp at hlt)
      obtain ⟨t, hx⟩ : ∃ t, l[i]? = some t := ⟨_, List.getElem?_eq_getElem hlt⟩
      have htb := hint t (List.mem_of_getElem? hx)
      have c0 := (World.cell?_of_block (w := w) (a := ⟨b, o + i, none⟩) (HL.kept.block b hb id)).trans (hcl i t hx)
      have hcn := Lib.hid (show (newClk slack step).run (l.take (i + 1)) = (c.see t).1 by rw [take_snoc' hx, run_snoc, ← hc])
      have hmn := Lib.hid (show (newClk slack step).marks (l.take (i + 1)) = (newClk slack step).marks (l.take i) ++ [c.mark t] by rw [take_snoc' hx, marks_snoc, ← hc])
      have htop : timeOk t = true → topF 0 (l.take (i + 1)) = max c.top t := fun h => by rw [take_snoc' hx, top_is (slack := slack) (step := step) _ h, ← hc]
      have hok : c.ok := by rw [hc]; exact run_ok hok0 _
      have hsl : c.slack = slack := by rw [hc]; exact (run_top _ _).2.1
      have hst : c.step = step := by rw [hc]; exact (run_top _ _).2.2
      obtain ⟨M, hM⟩ : ∃ M, (newClk slack step).marks (l.take i) = M := ⟨_, rfl⟩
      rw [hM] at HL hmn
      clear hc hM
      obtain ⟨⟨a1, a2⟩, ⟨a3, a4⟩, ⟨a5, a6⟩, ⟨a7, a8⟩⟩ := hok
      by_cases ht : timeOk t = true
      · have htt := ht
        simp only [timeOk, Bool.and_eq_true, decide_eq_true_eq] at htt
        have z1 : decide (t < 0) = false := by simp; omega
        have z2 : decide (1099511627776 < t) = false := by simp; omega
        have htop := Lib.hid (htop ht)
        have hs : c.see t = if max c.top t - slack < 0 ∨ (0 ≤ c.last ∧ max c.top t - slack < c.last + step) then ({ c with top := max c.top t }, 0, false) else ({ c with top := max c.top t, last := max c.top t - slack }, max c.top t - slack, true) := by
          rw [← hsl, ← hst]
          unfold Clk.see
          rw [if_neg (by rw [ht]; simp)]
        obtain ⟨mx, hmx⟩ : ∃ mx, max c.top t = mx := ⟨_, rfl⟩
        have hm1 : mx ≤ 1099511627776 ∧ 0 ≤ mx := by omega
        rw [hmx] at hs htop
        have hL1 : ∀ k, k < i + 1 → ∃ u, l[k]? = some u := fun k hk => ⟨_, List.getElem?_eq_getElem (by omega)⟩
        have hlt2 : (i : Int) + 1 ≤ (l.length : Int) := by omega
        have hlt3 : i + 1 ≤ cap := by omega
        have hic : (i : Int) + 1 ≤ (cap : Int) := by omega
        clear ht hx hmx
        go_upto_block 3 with (fail)
        go_loopw [12, 37] (fun tv j wr => ∃ (k : Nat) (tp : Int), k ≤ i + 1 ∧ j = .int .i64 k ∧ tv = .int .i64 tp ∧ tp = topF 0 (l.take k) ∧ St (fun _ => False) w wr [Row 3 1 u7 i (intCells M)]) (fun _ j _ => i + 1 - (intOf j).toNat)
        case atStart => exact ⟨0, 0, by omega, rfl, rfl, rfl, HL⟩
        case round =>
          clear HL
          obtain ⟨k, tp, hk, rfl, rfl, htp, HM⟩ := hrel
          by_cases hkl : k < i + 1
          · obtain ⟨u, hu⟩ := hL1 k hkl
            have cu := (World.cell?_of_block (w := w) (a := ⟨b, o + k, none⟩) (HM.kept.block b hb id)).trans (hcl k u hu)
            have htn := Lib.hid (show topF 0 (l.take (k + 1)) = if timeOk u = true then max tp u else tp by rw [take_snoc' hu, topF_snoc, ← htp])
            clear hu htp
            by_cases hu0 : 0 ≤ u
            · have y1 : decide (0 ≤ u) = true := by simpa using hu0
              by_cases hu1 : u ≤ 1099511627776
              · have y2 : decide (u ≤ 1099511627776) = true := by simpa using hu1
                have htn2 := Lib.hid (show topF 0 (l.take (k + 1)) = max tp u by rw [htn.out, if_pos (by simp [timeOk, hu0, hu1])])
                obtain ⟨mm, hmm⟩ : ∃ mm, (if tp < u then u else tp) = mm := ⟨_, rfl⟩
                have htn3 := Lib.hid (show topF 0 (l.take (k + 1)) = mm by rw [htn2.out, ← hmm]; split <;> omega)
                clear htn htn2
                go_wp2
                go_roundw
                case rel => exact ⟨k + 1, mm, by omega, by go_num, rfl, htn3.out.symm, HM⟩
                case measure => simp [intOf]; omega
              · have y2 : decide (u ≤ 1099511627776) = false := by simpa using hu1
                have htn2 := Lib.hid (show topF 0 (l.take (k + 1)) = tp by rw [htn.out, if_neg (by simp [timeOk, hu1])])
                clear htn
                go_wp2
                go_roundw
                case rel => exact ⟨k + 1, tp, by omega, by go_num, rfl, htn2.out.symm, HM⟩
                case measure => simp [intOf]; omega
            · have y1 : decide (0 ≤ u) = false := by simpa using hu0
              have htn2 := Lib.hid (show topF 0 (l.take (k + 1)) = tp by rw [htn.out, if_neg (by simp [timeOk, hu0])])
              clear htn
              go_wp2
              go_roundw
              case rel => exact ⟨k + 1, tp, by omega, by go_num, rfl, htn2.out.symm, HM⟩
              case measure => simp [intOf]; omega
          · obtain rfl : k = i + 1 := by omega
            obtain rfl : tp = mx := by rw [htp, htop.out]
            have hw1 : IntKind.i64.wrap (tp - slack) = tp - slack := by rw [IntKind.wrap_i64]; omega
            clear htp htop
            by_cases g1 : tp - slack < 0
            · have y1 : decide (0 ≤ tp - slack) = false := by simp; omega
              have y1' : decide (slack ≤ tp) = false := by simp; omega
              have hs2 := Lib.hid (hs.trans (if_pos (.inl g1)))
              clear hs g1
              go_wp2_with (at_builtin; go_must (refine St.list_app (HM.skip _) 0 rfl rfl (.tmp 72) (.tmp 73) 44 rfl Try.underlying44 Try.info3 (by decide) rfl [.int .i64 (-1)] rfl rfl (new_cells #[.int .i64 (-1)] _) (by simp [Value.oneCell']) (by omega) (by omega) ?_; intro g5 cap5 w5 H5 hz5))
              go_roundw
              case rel =>
                refine ⟨i + 1, (c.see t).1, x, y, by omega, by go_num, hcn.out.symm, rfl, rfl, Lib.hid (by rw [hs2.out]; exact hx0.out), Lib.hid (by rw [hs2.out]; exact hy0.out), ?_⟩
                have em : c.mark t = (-1 : Int) := by unfold Clk.mark; rw [hs2.out]; rfl
                rw [hmn.out, em]
                have ei : intCells (M ++ [(-1 : Int)]) = intCells M ++ [.int .i64 (-1)] := by simp [intCells]
                rw [ei]
                exact H5
              case measure => simp [intOf]; omega
            · have y1 : decide (0 ≤ tp - slack) = true := by simp; omega
              have y1' : decide (slack ≤ tp) = true := by simp; omega
              by_cases g2 : c.last < 0
              · obtain rfl : y = false := by rw [hy0.out]; simp [g2]
                have hs2 := Lib.hid (hs.trans (if_neg (fun h => h.elim g1 (fun h => by omega))))
                have hp := Lib.hid (show ¬ tp - slack < 0 from g1)
                clear hs g1 g2 hx0 hy0
                go_wp2_with (at_builtin; go_must (refine St.list_app (HM.skip _) 0 rfl rfl (.tmp 68) (.tmp 70) 44 rfl Try.underlying44 Try.info3 (by decide) rfl [.int .i64 (tp - slack)] rfl rfl (new_cells #[.int .i64 (tp - slack)] _) (by simp [Value.oneCell']) (by omega) (by omega) ?_; intro g5 cap5 w5 H5 hz5))
                go_roundw
                case rel =>
                  refine ⟨i + 1, (c.see t).1, (tp - slack), true, by omega, by go_num, hcn.out.symm, rfl, rfl, Lib.hid (by rw [hs2.out]; exact (if_neg hp.out).symm), Lib.hid (by rw [hs2.out]; simp only [decide_eq_false hp.out]; rfl), ?_⟩
                  have em : c.mark t = (tp - slack) := by unfold Clk.mark; rw [hs2.out]; rfl
                  rw [hmn.out, em]
                  have ei : intCells (M ++ [(tp - slack)]) = intCells M ++ [.int .i64 (tp - slack)] := by simp [intCells]
                  rw [ei]
                  exact H5
                case measure => simp [intOf]; omega
              · obtain rfl : y = true := by rw [hy0.out]; simp [g2]
                obtain rfl : x = c.last := by rw [hx0.out, if_neg g2]
                have hw2 : IntKind.i64.wrap (tp - slack - c.last) = tp - slack - c.last := by rw [IntKind.wrap_i64]; omega
                by_cases g3 : step ≤ tp - slack - c.last
                · have y3 : decide (step ≤ tp - slack - c.last) = true := by simpa using g3
                  have hs2 := Lib.hid (hs.trans (if_neg (fun h => h.elim g1 (fun h => by omega))))
                  have hp := Lib.hid (show ¬ tp - slack < 0 from g1)
                  clear hs g1 g2 g3 hx0 hy0
                  go_wp2_with (at_builtin; go_must (refine St.list_app (HM.skip _) 0 rfl rfl (.tmp 68) (.tmp 70) 44 rfl Try.underlying44 Try.info3 (by decide) rfl [.int .i64 (tp - slack)] rfl rfl (new_cells #[.int .i64 (tp - slack)] _) (by simp [Value.oneCell']) (by omega) (by omega) ?_; intro g5 cap5 w5 H5 hz5))
                  go_roundw
                  case rel =>
                    refine ⟨i + 1, (c.see t).1, (tp - slack), true, by omega, by go_num, hcn.out.symm, rfl, rfl, Lib.hid (by rw [hs2.out]; exact (if_neg hp.out).symm), Lib.hid (by rw [hs2.out]; simp only [decide_eq_false hp.out]; rfl), ?_⟩
                    have em : c.mark t = (tp - slack) := by unfold Clk.mark; rw [hs2.out]; rfl
                    rw [hmn.out, em]
                    have ei : intCells (M ++ [(tp - slack)]) = intCells M ++ [.int .i64 (tp - slack)] := by simp [intCells]
                    rw [ei]
                    exact H5
                  case measure => simp [intOf]; omega
                · have y3 : decide (step ≤ tp - slack - c.last) = false := by simpa using g3
                  have hs2 := Lib.hid (hs.trans (if_pos (.inr ⟨by omega, by omega⟩)))
                  have hp := Lib.hid (show ¬ c.last < 0 from g2)
                  clear hs g1 g2 g3 hx0 hy0
                  go_wp2_with (at_builtin; go_must (refine St.list_app (HM.skip _) 0 rfl rfl (.tmp 72) (.tmp 73) 44 rfl Try.underlying44 Try.info3 (by decide) rfl [.int .i64 (-1)] rfl rfl (new_cells #[.int .i64 (-1)] _) (by simp [Value.oneCell']) (by omega) (by omega) ?_; intro g5 cap5 w5 H5 hz5))
                  go_roundw
                  case rel =>
                    refine ⟨i + 1, (c.see t).1, c.last, true, by omega, by go_num, hcn.out.symm, rfl, rfl, Lib.hid (by rw [hs2.out]; exact (if_neg hp.out).symm), Lib.hid (by rw [hs2.out]; simp only [decide_eq_false hp.out]; rfl), ?_⟩
                    have em : c.mark t = (-1 : Int) := by unfold Clk.mark; rw [hs2.out]; rfl
                    rw [hmn.out, em]
                    have ei : intCells (M ++ [(-1 : Int)]) = intCells M ++ [.int .i64 (-1)] := by simp [intCells]
                    rw [ei]
                    exact H5
                  case measure => simp [intOf]; omega
      · have hs2 := Lib.hid (show c.see t = (c, 0, false) by unfold Clk.see; rw [if_pos (by simpa using ht)])
        have HM := HL
        have htc : (t < 0 ∧ decide (t < 0) = true) ∨ (¬ t < 0 ∧ 1099511627776 < t ∧ decide (t < 0) = false ∧ decide (1099511627776 < t) = true) := by
          simp only [timeOk, Bool.and_eq_true, decide_eq_true_eq] at ht
          by_cases h : t < 0
          · exact .inl ⟨h, by simpa using h⟩
          · exact .inr ⟨h, by omega, by simpa using h, by simp; omega⟩
        clear ht htop hx
        rcases htc with ⟨h1, z1⟩ | ⟨h1, h2, z1, z2⟩
        · clear h1
          go_wp2_with (at_builtin; go_must (refine St.list_app (HM.skip _) 0 rfl rfl (.tmp 29) (.tmp 30) 44 rfl Try.underlying44 Try.info3 (by decide) rfl [.int .i64 (-1)] rfl rfl (new_cells #[.int .i64 (-1)] _) (by simp [Value.oneCell']) (by omega) (by omega) ?_; intro g5 cap5 w5 H5 hz5))
          go_roundw
          case rel =>
            refine ⟨i + 1, (c.see t).1, x, y, by omega, by go_num, hcn.out.symm, rfl, rfl, Lib.hid (by rw [hs2.out]; exact hx0.out), Lib.hid (by rw [hs2.out]; exact hy0.out), ?_⟩
            have em : c.mark t = (-1 : Int) := by unfold Clk.mark; rw [hs2.out]; rfl
            rw [hmn.out, em]
            have ei : intCells (M ++ [(-1 : Int)]) = intCells M ++ [.int .i64 (-1)] := by simp [intCells]
            rw [ei]
            exact H5
          case measure => simp [intOf]; omega
        · clear h1 h2
          go_wp2_with (at_builtin; go_must (refine St.list_app (HM.skip _) 0 rfl rfl (.tmp 29) (.tmp 30) 44 rfl Try.underlying44 Try.info3 (by decide) rfl [.int .i64 (-1)] rfl rfl (new_cells #[.int .i64 (-1)] _) (by simp [Value.oneCell']) (by omega) (by omega) ?_; intro g5 cap5 w5 H5 hz5))
          go_roundw
          case rel =>
            refine ⟨i + 1, (c.see t).1, x, y, by omega, by go_num, hcn.out.symm, rfl, rfl, Lib.hid (by rw [hs2.out]; exact hx0.out), Lib.hid (by rw [hs2.out]; exact hy0.out), ?_⟩
            have em : c.mark t = (-1 : Int) := by unfold Clk.mark; rw [hs2.out]; rfl
            rw [hmn.out, em]
            have ei : intCells (M ++ [(-1 : Int)]) = intCells M ++ [.int .i64 (-1)] := by simp [intCells]
            rw [ei]
            exact H5
          case measure => simp [intOf]; omega
    · obtain rfl : i = l.length := by omega
      rw [List.take_length] at HL
      obtain ⟨ua, uc, rfl, _, _⟩ := slice_form' (HL.row 0 rfl)
      go_wp2
      go_ret
      exact ⟨_, rfl, HL⟩

end Go.Proofs.Ytoffcoegghigoaa
