/- The walk of RingApart. No condition, but that the list can be read. -/
import Derived.Test.YtbikjhmdpgoofaaRingE
import Derived.Test.YtbikjhmdpgoofaaRingM
import Derived.Test.YtbikjhmdpgoofaaInM
import Derived.Test.YtbikjhmdpgoofaaMore
namespace Go.Proofs.Ytbikjhmdpgoofaa
open Go.RowKit

/-- A slice of integers that reads as this list, outside S. -/
def IntsRO (S : Nat → Prop) (w : World) (v : Value) (l : List Int) : Prop :=
  ∃ ao cap, v = .slice ao l.length cap ∧ l.length ≤ 9223372036854775807 ∧ (l ≠ [] → ∃ b o, ao = some ⟨b, o, none⟩ ∧ b < w.heap.size ∧ ¬ S b ∧ ∀ i (h : i < l.length), w.cell? ⟨b, o + i, none⟩ = some (.int .i64 l[i]))
theorem R.ints {P : Program} {w : World} {t e : TypeId} {cs : List Value} (ht : P.underlying t = some (.slice e)) (he : P.underlying e = some (.int .i64)) (hs : P.cellsOf e = 1) (h : R P w t cs) :
    ∃ v l, cs = [v] ∧ IntsRO (fun _ => False) w v l := by
  obtain ⟨ao, cap, l, rfl, h1, h2, h3⟩ := R.list (p := fun cs (x : Int) => cs = [.int .i64 x]) ht hs (by omega) (fun cs' h => by
    obtain ⟨n, rfl, _⟩ := R.int he h
    exact ⟨n, rfl⟩) h
  refine ⟨_, l, rfl, ⟨ao, cap, rfl, h2, fun hl => ?_⟩⟩
  obtain ⟨b, o, rfl, hb, hc⟩ := h3 hl
  refine ⟨b, o, rfl, hb, id, fun i hi => ?_⟩
  obtain ⟨cs', _, g2, rfl⟩ := hc i l[i] (List.getElem?_eq_getElem hi)
  have := g2 0 _ rfl
  simpa using this

/-- A ring that came in. -/
theorem ring_read_in {w : World} {v : Value} (h : R Try.prog w 84 v.cells.toList) (hs : ∃ cs, v = .agg cs) : ∃ f l, v = ringV f l ∧ (Lit.int .i64 f).wf = true ∧ (Lit.int .i64 l).wf = true := by
  obtain ⟨cs, rfl⟩ := hs
  have hl : cs.toList.length = 2 := (R.struct Try.underlying84 h).1.trans (by kernel_rfl)
  obtain ⟨c0, c1, hc⟩ : ∃ a b, cs.toList = [a, b] := by
    match cs.toList, hl with
    | [a, b], _ => exact ⟨a, b, rfl⟩
  have hc' : cs = #[c0, c1] := by apply Array.ext'; rw [hc]
  subst hc'
  have r0 : R Try.prog w 3 [c0] := R.field Try.underlying84 h 0 rfl (o := 0) (n := 1) rfl rfl (by kernel_rfl)
  have r1 : R Try.prog w 3 [c1] := R.field Try.underlying84 h 1 rfl (o := 1) (n := 1) rfl rfl (by kernel_rfl)
  obtain ⟨n0, e0, h0⟩ := R.int Try.underlying3 r0
  obtain ⟨n1, e1, h1⟩ := R.int Try.underlying3 r1
  simp only [List.cons.injEq, and_true] at e0 e1
  subst e0 e1
  exact ⟨n0, n1, rfl, h0, h1⟩

set_option maxRecDepth 100000 in
theorem zero4096 : Try.zeroCells86 = (bools (List.replicate 4096 false)).toArray := by kernel_rfl

set_option maxHeartbeats 2000000 in
set_option maxRecDepth 100000 in
theorem apart_walk (f l low : Int) {xs : List Int} {v : Value} (w : World) (hv : IntsRO (fun _ => False) w v xs) :
    Calls Try.prog 8 #[ringV f l, .int .i64 low, v] w fun e w' => e = .returned (.bool true) ∧ Below w.heap.size w w' := by
  obtain ⟨ao, cap, rfl, hxl, hcell⟩ := hv
  have H : St (fun _ => False) w _ [_] := (St.nil _ w).allocAt rfl #[.int .i64 f, .int .i64 l] 84
  unfold ringV
  go_enter Try.func8, Try.ntmps8
  go_wp2_with fail
  refine (St.callPast (first15 _) H).mono ?_
  rintro e w1 ⟨rfl, H1⟩
  have c0 := H1.cell 0 0 rfl rfl
  have c1 := H1.cell 0 1 rfl rfl
  obtain ⟨r, hr⟩ : ∃ r, rightI f l 4096 = r := ⟨_, rfl⟩
  go_wp2_with fail
  refine (St.callPast (ring_right f l 4096 _) H1).mono ?_
  rintro e w2 ⟨rfl, H2⟩
  rw [hr]
  have hr2 := Lib.hid hr
  clear hr H1 c0 c1 H
  cases r
  · go_wp2
    go_ret
    exact ⟨rfl, H2.below (Nat.le_refl _) (fun _ h => h.elim)⟩
  · by_cases a1 : low < 0
    · have b1 : decide (low < 0) = true := by simpa using a1
      go_wp2
      go_ret
      exact ⟨rfl, H2.below (Nat.le_refl _) (fun _ h => h.elim)⟩
    · have b1 : decide (low < 0) = false := by simpa using a1
      by_cases a2 : 1099511627776 < low
      · have b2 : decide (1099511627776 < low) = true := by simpa using a2
        go_wp2
        go_ret
        exact ⟨rfl, H2.below (Nat.le_refl _) (fun _ h => h.elim)⟩
      · have b2 : decide (1099511627776 < low) = false := by simpa using a2
        by_cases a3 : (100 : Int) < xs.length
        · have b3 : decide ((100 : Int) < xs.length) = true := by simpa using a3
          go_wp2
          go_ret
          exact ⟨rfl, H2.below (Nat.le_refl _) (fun _ h => h.elim)⟩
        · have b3 : decide ((100 : Int) < xs.length) = false := by simpa using a3
          have hri := hr2.out
          simp only [rightI, Bool.and_eq_true, decide_eq_true_eq] at hri
          obtain ⟨hs, hfl⟩ := hri
          have hs2 := sound_true hs
          have hsH := Lib.hid hs
          have H3 : St (fun _ => False) w _ [_, _] := (H2.allocAt rfl Try.zeroCells86 86).pick [1, 0]
          rw [zero4096] at H3
          clear hs
          go_upto_block 2 with (fail)
          rw [zero4096]
          go_loopw [7, 34] (fun va j wr => ∃ (a : Int) (i : Nat) (u : List Bool), i ≤ xs.length ∧ va = .int .i64 a ∧ j = .int .i64 i ∧ low ≤ a ∧ a ≤ low + l ∧ Used u f l low a ∧
              St (fun _ => False) w wr [Blk w.heap.size #[.int .i64 f, .int .i64 l] 84, Blk w2.heap.size (bools u).toArray 86])
            (fun _ j _ => xs.length - (intOf j).toNat)
          case atStart => exact ⟨low, 0, _, by omega, rfl, rfl, by omega, by omega, used_none _ _ _, H3⟩
          case round =>
            clear H3
            obtain ⟨a, i, u, hi, rfl, rfl, hla, hal, hu, HL⟩ := hrel
            have d0 := HL.cell 0 0 rfl rfl
            have d1 := HL.cell 0 1 rfl rfl
            by_cases hlt : i < xs.length
            · obtain ⟨xb, xo, rfl, hxb, _, hc⟩ := hcell (by rintro rfl; simp at hlt)
              have hx : wr.cell? ⟨xb, xo + i, none⟩ = some (.int .i64 xs[i]) := (World.cell?_of_block (w := w) (HL.kept.block xb hxb id)).trans (hc i hlt)
              obtain ⟨n, hn⟩ : ∃ n, xs[i] = n := ⟨_, rfl⟩
              rw [hn] at hx
              clear hn hc hcell
              go_wp2_with fail
              refine (St.callPast (ring_room f l low a n _) HL).mono ?_
              rintro e w3 ⟨rfl, H4⟩
              obtain ⟨rm, hrm⟩ : ∃ rm, roomI f l low a n = rm := ⟨_, rfl⟩
              rw [hrm]
              have hrmH := Lib.hid hrm
              have e0 := H4.cell 0 0 rfl rfl
              have e1 := H4.cell 0 1 rfl rfl
              clear hrm HL d0 d1 hx
              cases rm
              · go_wp2
                go_roundw
                case rel => exact ⟨a, i + 1, u, by omega, rfl, by go_num, hla, hal, hu, H4⟩
                case measure => simp [intOf]; omega
              · have hro := hrmH.out
                simp only [roomI, Bool.and_eq_true, decide_eq_true_eq] at hro
                obtain ⟨⟨⟨hst, _⟩, _⟩, hend⟩ := hro
                have hfit := start_fits hst
                have hrg := start_range hst
                go_wp2_with fail
                refine (St.callPast (ring_start f l a n _) H4).mono ?_
                rintro e w4 ⟨rfl, H5⟩
                obtain ⟨st, hste⟩ : ∃ st, startI f l a n = st := ⟨_, rfl⟩
                rw [hste] at hst hend hfit hrg ⊢
                obtain ⟨N, rfl⟩ := Int.eq_ofNat_of_zero_le (show 0 ≤ n by omega)
                obtain ⟨hf1, hf2, _, _⟩ := hfit
                clear hste H4 e0 e1
                go_wp2_with fail
                go_loopw [49] (fun j wr => ∃ (q : Nat) (u' : List Bool), q ≤ N ∧ j = .int .i64 q ∧ Used u' f l low (st + q) ∧
                    St (fun _ => False) w wr [Blk w.heap.size #[.int .i64 f, .int .i64 l] 84, Blk w2.heap.size (bools u').toArray 86])
                  (fun j _ => N - (intOf j).toNat)
                case atStart => exact ⟨0, u, by omega, rfl, by simpa using hu.mono (by omega), H5⟩
                case round =>
                  clear H5
                  obtain ⟨q, u', hq, rfl, hu', HM⟩ := hrel
                  by_cases hql : q < N
                  · have c0 := HM.cell 0 0 rfl rfl
                    have c1 := HM.cell 0 1 rfl rfl
                    obtain ⟨hbk, hm0, hm1⟩ := block_in (v := st + q) hsH.out (by omega) (by omega)
                    obtain ⟨hbk0, hm2, hm3⟩ := block_in (v := st) hsH.out (by omega) (by omega)
                    have hrun := run_mod (a := st) (l := l) (i := q) (by omega) (by omega) (by omega)
                    obtain ⟨bk, hbke⟩ := Int.eq_ofNat_of_zero_le (show 0 ≤ f + (st + q) % l by omega)
                    have hfree := hu'.free hbke.symm (by omega)
                    have hput := hu'.put hbke.symm (by omega)
                    have hcell2 := HM.cell 1 bk rfl (bools_at hu'.1 (by omega))
                    rw [hfree] at hcell2
                    have kb := fun w' => ring_block f l (st + q) w'
                    have kb0 := fun w' => ring_block f l st w'
                    simp only [hbk, hbke, ringV] at kb
                    simp only [hbk0, ringV] at kb0
                    have hfr := Lib.hid hfree
                    clear hbk hbk0 hfree
                    have x1 : IntKind.i64.wrap (st + (q : Int)) = st + q := by rw [IntKind.wrap_i64]; omega
                    have x2 : ((bk : Int)) = f + st % l + q := by omega
                    have x3 : IntKind.i64.wrap (f + st % l + q) = f + st % l + q := by rw [IntKind.wrap_i64]; omega
                    have x2h := Lib.hid x2
                    have y1 : f ≤ (bk : Int) := by omega
                    have y2 : (bk : Int) < f + l := by omega
                    have y3 : bk < 4096 := by omega
                    have y6 : (bk : Int) < 4096 := by omega
                    have y4 : decide ((bk : Int) < f) = false := by simp; omega
                    have y5 : decide (f + l ≤ (bk : Int)) = false := by simp; omega
                    have x4 : IntKind.i64.wrap (f + l) = f + l := by rw [IntKind.wrap_i64]; omega
                    clear x2
                    go_wp2_with fail
                    refine (St.callPast (kb _) HM).mono ?_
                    rintro e w5 ⟨rfl, H6⟩
                    have c0 := H6.cell 0 0 rfl rfl
                    have c1 := H6.cell 0 1 rfl rfl
                    go_upto_region 16 with (fail)
                    clear c0 c1 hcell2 HM
                    obtain ⟨ub, hub⟩ : ∃ ub, w2.heap.size = ub := ⟨_, rfl⟩
                    rw [hub] at H6
                    simp only [hub]
                    by_cases hq0 : (0 : Int) < q
                    · have z0 : decide ((0 : Int) < q) = true := by simpa using hq0
                      have z2 : decide (0 < q) = true := by simp; omega
                      have z1 : IntKind.i64.wrap (f + st % l + q) = bk := by rw [x3]; exact x2h.out.symm
                      clear x3
                      refine wp_plain (fun w' => St (fun _ => False) w w' [Blk w.heap.size #[.int .i64 f, .int .i64 l] 84, Blk ub (bools u').toArray 86]) (H6) ?_
                      iterate 31 first
                        | (apply calm_pass
                           · rfl
                           intro K hK
                           go_simp
                           refine hK _ ?_
                           clear hK K)
                        | (apply calm_step
                           · rfl
                           · intro w1 h1
                             have c0 := h1.cell 0 0 rfl rfl
                             have c1 := h1.cell 0 1 rfl rfl
                             have hc3 : w1.cell? ⟨ub, bk, none⟩ = some (.bool false) := (h1.cell 1 bk rfl (bools_at hu'.1 y3)).trans (congrArg (fun x => some (Value.bool x)) hfr.out)
                             go_simp
                             first
                               | rfl
                               | exact ⟨rfl, h1⟩
                               | (go_at_call 44; with_reducible exact St.callPast (kb0 w1) h1)
                           intro K hK
                           go_simp
                           refine hK _ ?_
                           clear hK K)
                      refine calm_nil ?_
                      intro w6 H7
                      have f3 := H7.free 1 bk rfl
                      have hc4 := H7.cell 1 bk rfl (bools_at hu'.1 y3)
                      have hln := H7.blk_lt 1 rfl
                      subst hub
                      go_wp2
                      go_roundw
                      case rel => exact ⟨q + 1, u'.set bk true, by omega, by go_num, by simpa [Int.add_assoc] using hput, by rw [← bools_set]; exact H7.set 1 rfl bk (.bool true)⟩
                      case measure => simp [intOf]; omega
                    · have z0 : decide ((0 : Int) < q) = false := by simpa using hq0
                      have z2 : decide (0 < q) = false := by simp; omega
                      refine wp_plain (fun w' => St (fun _ => False) w w' [Blk w.heap.size #[.int .i64 f, .int .i64 l] 84, Blk ub (bools u').toArray 86]) (H6) ?_
                      iterate 31 first
                        | (apply calm_pass
                           · rfl
                           intro K hK
                           go_simp
                           refine hK _ ?_
                           clear hK K)
                        | (apply calm_step
                           · rfl
                           · intro w1 h1
                             have c0 := h1.cell 0 0 rfl rfl
                             have c1 := h1.cell 0 1 rfl rfl
                             have hc3 : w1.cell? ⟨ub, bk, none⟩ = some (.bool false) := (h1.cell 1 bk rfl (bools_at hu'.1 y3)).trans (congrArg (fun x => some (Value.bool x)) hfr.out)
                             go_simp
                             first
                               | rfl
                               | exact ⟨rfl, h1⟩
                               | (go_at_call 44; with_reducible exact St.callPast (kb0 w1) h1)
                           intro K hK
                           go_simp
                           refine hK _ ?_
                           clear hK K)
                      refine calm_nil ?_
                      intro w6 H7
                      have f3 := H7.free 1 bk rfl
                      have hc4 := H7.cell 1 bk rfl (bools_at hu'.1 y3)
                      have hln := H7.blk_lt 1 rfl
                      subst hub
                      go_wp2
                      go_roundw
                      case rel => exact ⟨q + 1, u'.set bk true, by omega, by go_num, by simpa [Int.add_assoc] using hput, by rw [← bools_set]; exact H7.set 1 rfl bk (.bool true)⟩
                      case measure => simp [intOf]; omega
                  · obtain rfl : q = N := by omega
                    go_wp2
                    go_roundw
                    case rel => exact ⟨st + q, i + 1, u', by omega, by go_num, by go_num, by omega, by omega, hu', HM⟩
                    case measure => simp [intOf]; omega
            · obtain rfl : i = xs.length := by omega
              go_wp2
              go_ret
              exact ⟨by simp <;> omega, HL.below (Nat.le_refl _) (fun _ h => h.elim)⟩

end Go.Proofs.Ytbikjhmdpgoofaa
