/- The walk of law28's ClockSees. -/
import Derived.Test.YtoffcoegghigoaaClkI
namespace Go.Proofs.Ytoffcoegghigoaa
open Go.RowKit

theorem see_facts (c : Clk) (t : Int) : ((c.see t).2.2 = true → (c.see t).2.1 = (c.see t).1.last ∧ 0 ≤ (c.see t).2.1 ∧ timeOk t = true) ∧ ((c.see t).2.2 = false → (c.see t).2.1 = 0 ∧ (c.see t).1.last = c.last) := by
  unfold Clk.see
  split
  · simp
  · rename_i h
    split
    · simp
    · rename_i h2
      simp only [not_or] at h2
      refine ⟨fun _ => ⟨rfl, by simp only; omega, by simpa using h⟩, fun h => by cases h⟩

set_option maxHeartbeats 8000000 in
set_option maxRecDepth 100000 in
theorem sees_walk {v : Value} {l : List Int} {slack step : Int} (w : World) (hb : (-9223372036854775808 ≤ slack ∧ slack ≤ 9223372036854775807) ∧ (-9223372036854775808 ≤ step ∧ step ≤ 9223372036854775807)) (hv : IntsRO w v l) (hl : l.length ≤ 9223372036854775807) :
    Calls Try.prog 9 #[.int .i64 slack, .int .i64 step, v] w fun e w' => e = .returned (.bool true) ∧ Below w.heap.size w w' := by
  have kf := first28 w
  have kg := fun w' => ref_good slack step w'
  cases hg : clkGood slack step with
  | false =>
    have kb := fun w' => clk_bad hg w'
    have ks := fun w' => clk_see_nil 1 w'
    rw [hg] at kg
    go_enter Try.func9, Try.ntmps9
    go_wp2_with (first
      | (go_at_call 34; go_must (refine kf.mono ?_; rintro e w1 ⟨rfl, hb1⟩))
      | (go_at_call 35; go_must (refine (kb _).mono ?_; rintro e w2 ⟨rfl, rfl⟩))
      | (go_at_call 36; go_must (refine (kg _).mono ?_; rintro e w3 ⟨rfl, rfl⟩))
      | (go_at_call 37; go_must (refine (ks _).mono ?_; rintro e w4 ⟨rfl, rfl⟩)))
    go_ret
    exact ⟨rfl, hb1⟩
  | true =>
    have kn := fun w' => clk_new hg w'
    rw [hg] at kg
    have hok0 := newClk_ok hg
    by_cases h60 : 60 < l.length
    · obtain ⟨ao, cap, rfl, hcap, hint, hcell⟩ := id hv
      have z1 : (60 : Int) < (l.length : Int) := by omega
      go_enter Try.func9, Try.ntmps9
      go_wp2_with (first
        | (go_at_call 34; go_must (refine kf.mono ?_; rintro e w1 ⟨rfl, hb1⟩))
        | (go_at_call 35; go_must (refine (kn _).mono ?_; rintro e w2 ⟨bc, rfl, H2⟩; have H3 : St (fun _ => False) w w2 [Blk bc (clkC (newClk slack step)) 87] := ((St.nil _ w).past hb1).call0 (l1' := [_]) H2))
        | (go_at_call 36; go_must (refine (kg _).mono ?_; rintro e w3 ⟨rfl, rfl⟩)))
      go_ret
      exact ⟨rfl, H3.below (Nat.le_refl _) (fun _ h => h.elim)⟩
    · have km := fun (w' : World) (hk : Kept (fun _ => False) w w') => ref_marks w' hg (hv.later hk) (by omega)
      obtain ⟨ao, cap, rfl, hcap, hint, hcell⟩ := id hv
      have z1 : ¬ (60 : Int) < (l.length : Int) := by omega
      go_enter Try.func9, Try.ntmps9
      go_upto_block 1 with (first
        | (go_at_call 34; go_must (refine kf.mono ?_; rintro e w1 ⟨rfl, hb1⟩))
        | (go_at_call 35; go_must (refine (kn _).mono ?_; rintro e w2 ⟨bc, rfl, H2⟩; have H3 : St (fun _ => False) w w2 [Blk bc (clkC (newClk slack step)) 87] := ((St.nil _ w).past hb1).call0 (l1' := [_]) H2))
        | (go_at_call 36; go_must (refine (kg _).mono ?_; rintro e w3 ⟨rfl, rfl⟩))
        | (go_at_call 38; go_must (refine (km _ H3.kept).mono ?_; rintro e w4 ⟨v4, rfl, H4⟩; have H5 : St (fun _ => False) w w4 [Row 3 1 v4 l.length (intCells ((newClk slack step).marks l)), Blk bc (clkC (newClk slack step)) 87] := H3.call0 (l1' := [_]) H4; obtain ⟨ma, mc, rfl, hmc, hma⟩ := slice_form' (H5.row 0 rfl))))
      clear H2 H3 H4 kf kn kg km
      go_loopw [12, 13, 58] (fun lv tv j wr => ∃ (i : Nat) (c : Clk), i ≤ l.length ∧ j = .int .i64 i ∧ c = (newClk slack step).run (l.take i) ∧ lv = .int .i64 c.last ∧ tv = .int .i64 c.top ∧ St (fun _ => False) w wr [Row 3 1 (.slice ma l.length mc) l.length (intCells ((newClk slack step).marks l)), Blk bc (clkC c) 87]) (fun _ _ j _ => l.length - (intOf j).toNat)
      case atStart => exact ⟨0, newClk slack step, by omega, rfl, rfl, rfl, rfl, H5⟩
      case round =>
        clear H5
        obtain ⟨i, c, hi, rfl, hc, rfl, rfl, HL⟩ := hrel
        by_cases hlt : i < l.length
        · obtain ⟨b, o, rfl, hb, hcl⟩ := hcell (by rintro rfl; simp at hlt)
          obtain ⟨gm, rfl⟩ := hma (by omega)
          obtain ⟨t, hx⟩ : ∃ t, l[i]? = some t := ⟨_, List.getElem?_eq_getElem hlt⟩
          have htb := hint t (List.mem_of_getElem? hx)
          have c0 := (World.cell?_of_block (w := w) (a := ⟨b, o + i, none⟩) (HL.kept.block b hb id)).trans (hcl i t hx)
          have hmk : (intCells ((newClk slack step).marks l))[i]? = some (.int .i64 (c.mark t)) := by
            simp only [intCells, List.getElem?_map, marks_get hx, ← hc]
            rfl
          have hcn := Lib.hid (show (newClk slack step).run (l.take (i + 1)) = (c.see t).1 by rw [take_snoc' hx, run_snoc, ← hc])
          have hok : c.ok := by rw [hc]; exact run_ok hok0 _
          have hok2 := see_ok hok t
          have hsl : (c.see t).1.slack = slack := (see_same c t).1.trans (by rw [hc]; exact (run_top _ _).2.1)
          have htop := (see_same c t).2.2
          obtain ⟨hf1, hf2⟩ := see_facts c t
          have ks := fun (S' : Nat → Prop) (w' : World) (K : Sep w' [Blk bc (clkC c) 87] S') => clk_see (t := t) hok K
          have hmd : c.mark t = if (c.see t).2.2 = true then (c.see t).2.1 else -1 := rfl
          obtain ⟨c', hc'⟩ : ∃ c', (c.see t).1 = c' := ⟨_, rfl⟩
          obtain ⟨at', hat⟩ : ∃ a, (c.see t).2.1 = a := ⟨_, rfl⟩
          obtain ⟨ok, hokv⟩ : ∃ k, (c.see t).2.2 = k := ⟨_, rfl⟩
          obtain ⟨mk, hmkv⟩ : ∃ k, c.mark t = k := ⟨_, rfl⟩
          simp only [hc', hat, hokv, hmkv] at hf1 hf2 hmd ks hok2 hsl htop hcn hmk
          clear hc hx hc' hat hokv hmkv
          cases ok with
          | true =>
            obtain ⟨rfl, h0, htk⟩ := hf1 rfl
            obtain rfl : mk = c'.last := by rw [hmd]; rfl
            rw [if_pos htk] at htop
            have htt := htk
            simp only [timeOk, Bool.and_eq_true, decide_eq_true_eq] at htt
            obtain ⟨ht1, ht2⟩ := htt
            have hp0 : 0 ≤ c'.top := by omega
            obtain ⟨cs, cst, tp, ls⟩ := c'
            simp only at hsl htop h0 hp0 ks hmk hok2
            subst hsl
            clear hf1 hf2 hmd hok
            have n1 : ¬ ls < 0 := by omega
            have n2 : ¬ tp < 0 := by omega
            have hw2 : IntKind.i64.wrap (tp - cs) = tp - cs := by rw [IntKind.wrap_i64]; obtain ⟨⟨_, _⟩, _, ⟨_, _⟩, _⟩ := hok2; simp only at *; omega
            have htopm : max c.top t = tp := htop.symm
            clear htop
            go_wp2_with (first
            | (go_at_call 37; go_must (obtain ⟨S1, K1, G1⟩ := St.call (l1 := [_]) (HL.pick [1, 0]); refine (ks _ _ K1).mono ?_; rintro e w6 ⟨rfl, H6⟩; have H7 : St (fun _ => False) w w6 [Blk bc (clkC ⟨cs, cst, tp, ls⟩) 87, Row 3 1 (.slice (some ⟨gm, 0, none⟩) l.length mc) l.length (intCells ((newClk cs step).marks l))] := G1 _ _ H6; have cm := own_cell (H7.row 1 rfl) hmk))
            | (go_at_call 39; go_must (refine (St.callPast (clk_last (H7.blk 0 rfl)) H7).mono ?_; rintro e w8 ⟨rfl, H8⟩))
            | (go_at_call 40; go_must (refine (St.callPast (clk_tide hok2 (H8.blk 0 rfl)) H8).mono ?_; rintro e w9 ⟨rfl, H9⟩)))
            go_roundw
            case rel => exact ⟨i + 1, ⟨cs, cst, tp, ls⟩, by omega, by go_num, hcn.out.symm, rfl, rfl, H9.pick [1, 0]⟩
            case measure => simp [intOf]; omega
          | false =>
            obtain ⟨rfl, hll⟩ := hf2 rfl
            obtain rfl : mk = -1 := by rw [hmd]; rfl
            obtain ⟨cs, cst, tp, ls⟩ := c'
            obtain ⟨k, cst2, tp0, ls0⟩ := c
            simp only at hsl htop hll ks hmk hok2 HL ⊢
            subst hsl hll
            clear hf1 hf2 hmd hok
            have hls : (ls < 0 ∧ ¬ 0 ≤ ls) ∨ (¬ ls < 0 ∧ 0 ≤ ls) := by omega
            have htp : (tp < 0 ∧ ¬ 0 ≤ tp) ∨ (¬ tp < 0 ∧ 0 ≤ tp) := by omega
            have hw2 : IntKind.i64.wrap (tp - cs) = tp - cs := by rw [IntKind.wrap_i64]; obtain ⟨⟨_, _⟩, _, ⟨_, _⟩, _⟩ := hok2; simp only at *; omega
            by_cases htk : timeOk t = true
            · rw [if_pos htk] at htop
              have htt := htk
              simp only [timeOk, Bool.and_eq_true, decide_eq_true_eq] at htt
              obtain ⟨ht1, ht2⟩ := htt
              have n2 : 0 ≤ tp := by omega
              have htopm : max tp0 t = tp := htop.symm
              clear htop htp
              rcases hls with ⟨n1, n3⟩ | ⟨n1, n3⟩
              · go_wp2_with (first
            | (go_at_call 37; go_must (obtain ⟨S1, K1, G1⟩ := St.call (l1 := [_]) (HL.pick [1, 0]); refine (ks _ _ K1).mono ?_; rintro e w6 ⟨rfl, H6⟩; have H7 : St (fun _ => False) w w6 [Blk bc (clkC ⟨cs, cst, tp, ls⟩) 87, Row 3 1 (.slice (some ⟨gm, 0, none⟩) l.length mc) l.length (intCells ((newClk cs step).marks l))] := G1 _ _ H6; have cm := own_cell (H7.row 1 rfl) hmk))
            | (go_at_call 39; go_must (refine (St.callPast (clk_last (H7.blk 0 rfl)) H7).mono ?_; rintro e w8 ⟨rfl, H8⟩))
            | (go_at_call 40; go_must (refine (St.callPast (clk_tide hok2 (H8.blk 0 rfl)) H8).mono ?_; rintro e w9 ⟨rfl, H9⟩)))
                go_roundw
                case rel => exact ⟨i + 1, ⟨cs, cst, tp, ls⟩, by omega, by go_num, hcn.out.symm, rfl, rfl, H9.pick [1, 0]⟩
                case measure => simp [intOf]; omega
              · go_wp2_with (first
            | (go_at_call 37; go_must (obtain ⟨S1, K1, G1⟩ := St.call (l1 := [_]) (HL.pick [1, 0]); refine (ks _ _ K1).mono ?_; rintro e w6 ⟨rfl, H6⟩; have H7 : St (fun _ => False) w w6 [Blk bc (clkC ⟨cs, cst, tp, ls⟩) 87, Row 3 1 (.slice (some ⟨gm, 0, none⟩) l.length mc) l.length (intCells ((newClk cs step).marks l))] := G1 _ _ H6; have cm := own_cell (H7.row 1 rfl) hmk))
            | (go_at_call 39; go_must (refine (St.callPast (clk_last (H7.blk 0 rfl)) H7).mono ?_; rintro e w8 ⟨rfl, H8⟩))
            | (go_at_call 40; go_must (refine (St.callPast (clk_tide hok2 (H8.blk 0 rfl)) H8).mono ?_; rintro e w9 ⟨rfl, H9⟩)))
                go_roundw
                case rel => exact ⟨i + 1, ⟨cs, cst, tp, ls⟩, by omega, by go_num, hcn.out.symm, rfl, rfl, H9.pick [1, 0]⟩
                case measure => simp [intOf]; omega
            · rw [if_neg htk] at htop
              subst htop
              have htt : (¬ 0 ≤ t) ∨ (0 ≤ t ∧ ¬ t ≤ 1099511627776) := by
                simp only [timeOk, Bool.and_eq_true, decide_eq_true_eq] at htk
                omega
              rcases htt with ht1 | ⟨ht1, ht2⟩
              · rcases hls with ⟨n1, n3⟩ | ⟨n1, n3⟩
                · rcases htp with ⟨n2, n4⟩ | ⟨n2, n4⟩
                  · go_wp2_with (first
            | (go_at_call 37; go_must (obtain ⟨S1, K1, G1⟩ := St.call (l1 := [_]) (HL.pick [1, 0]); refine (ks _ _ K1).mono ?_; rintro e w6 ⟨rfl, H6⟩; have H7 : St (fun _ => False) w w6 [Blk bc (clkC ⟨cs, cst, tp, ls⟩) 87, Row 3 1 (.slice (some ⟨gm, 0, none⟩) l.length mc) l.length (intCells ((newClk cs step).marks l))] := G1 _ _ H6; have cm := own_cell (H7.row 1 rfl) hmk))
            | (go_at_call 39; go_must (refine (St.callPast (clk_last (H7.blk 0 rfl)) H7).mono ?_; rintro e w8 ⟨rfl, H8⟩))
            | (go_at_call 40; go_must (refine (St.callPast (clk_tide hok2 (H8.blk 0 rfl)) H8).mono ?_; rintro e w9 ⟨rfl, H9⟩)))
                    go_roundw
                    case rel => exact ⟨i + 1, ⟨cs, cst, tp, ls⟩, by omega, by go_num, hcn.out.symm, rfl, rfl, H9.pick [1, 0]⟩
                    case measure => simp [intOf]; omega
                  · go_wp2_with (first
            | (go_at_call 37; go_must (obtain ⟨S1, K1, G1⟩ := St.call (l1 := [_]) (HL.pick [1, 0]); refine (ks _ _ K1).mono ?_; rintro e w6 ⟨rfl, H6⟩; have H7 : St (fun _ => False) w w6 [Blk bc (clkC ⟨cs, cst, tp, ls⟩) 87, Row 3 1 (.slice (some ⟨gm, 0, none⟩) l.length mc) l.length (intCells ((newClk cs step).marks l))] := G1 _ _ H6; have cm := own_cell (H7.row 1 rfl) hmk))
            | (go_at_call 39; go_must (refine (St.callPast (clk_last (H7.blk 0 rfl)) H7).mono ?_; rintro e w8 ⟨rfl, H8⟩))
            | (go_at_call 40; go_must (refine (St.callPast (clk_tide hok2 (H8.blk 0 rfl)) H8).mono ?_; rintro e w9 ⟨rfl, H9⟩)))
                    go_roundw
                    case rel => exact ⟨i + 1, ⟨cs, cst, tp, ls⟩, by omega, by go_num, hcn.out.symm, rfl, rfl, H9.pick [1, 0]⟩
                    case measure => simp [intOf]; omega
                · rcases htp with ⟨n2, n4⟩ | ⟨n2, n4⟩
                  · go_wp2_with (first
            | (go_at_call 37; go_must (obtain ⟨S1, K1, G1⟩ := St.call (l1 := [_]) (HL.pick [1, 0]); refine (ks _ _ K1).mono ?_; rintro e w6 ⟨rfl, H6⟩; have H7 : St (fun _ => False) w w6 [Blk bc (clkC ⟨cs, cst, tp, ls⟩) 87, Row 3 1 (.slice (some ⟨gm, 0, none⟩) l.length mc) l.length (intCells ((newClk cs step).marks l))] := G1 _ _ H6; have cm := own_cell (H7.row 1 rfl) hmk))
            | (go_at_call 39; go_must (refine (St.callPast (clk_last (H7.blk 0 rfl)) H7).mono ?_; rintro e w8 ⟨rfl, H8⟩))
            | (go_at_call 40; go_must (refine (St.callPast (clk_tide hok2 (H8.blk 0 rfl)) H8).mono ?_; rintro e w9 ⟨rfl, H9⟩)))
                    go_roundw
                    case rel => exact ⟨i + 1, ⟨cs, cst, tp, ls⟩, by omega, by go_num, hcn.out.symm, rfl, rfl, H9.pick [1, 0]⟩
                    case measure => simp [intOf]; omega
                  · go_wp2_with (first
            | (go_at_call 37; go_must (obtain ⟨S1, K1, G1⟩ := St.call (l1 := [_]) (HL.pick [1, 0]); refine (ks _ _ K1).mono ?_; rintro e w6 ⟨rfl, H6⟩; have H7 : St (fun _ => False) w w6 [Blk bc (clkC ⟨cs, cst, tp, ls⟩) 87, Row 3 1 (.slice (some ⟨gm, 0, none⟩) l.length mc) l.length (intCells ((newClk cs step).marks l))] := G1 _ _ H6; have cm := own_cell (H7.row 1 rfl) hmk))
            | (go_at_call 39; go_must (refine (St.callPast (clk_last (H7.blk 0 rfl)) H7).mono ?_; rintro e w8 ⟨rfl, H8⟩))
            | (go_at_call 40; go_must (refine (St.callPast (clk_tide hok2 (H8.blk 0 rfl)) H8).mono ?_; rintro e w9 ⟨rfl, H9⟩)))
                    go_roundw
                    case rel => exact ⟨i + 1, ⟨cs, cst, tp, ls⟩, by omega, by go_num, hcn.out.symm, rfl, rfl, H9.pick [1, 0]⟩
                    case measure => simp [intOf]; omega
              · rcases hls with ⟨n1, n3⟩ | ⟨n1, n3⟩
                · rcases htp with ⟨n2, n4⟩ | ⟨n2, n4⟩
                  · go_wp2_with (first
            | (go_at_call 37; go_must (obtain ⟨S1, K1, G1⟩ := St.call (l1 := [_]) (HL.pick [1, 0]); refine (ks _ _ K1).mono ?_; rintro e w6 ⟨rfl, H6⟩; have H7 : St (fun _ => False) w w6 [Blk bc (clkC ⟨cs, cst, tp, ls⟩) 87, Row 3 1 (.slice (some ⟨gm, 0, none⟩) l.length mc) l.length (intCells ((newClk cs step).marks l))] := G1 _ _ H6; have cm := own_cell (H7.row 1 rfl) hmk))
            | (go_at_call 39; go_must (refine (St.callPast (clk_last (H7.blk 0 rfl)) H7).mono ?_; rintro e w8 ⟨rfl, H8⟩))
            | (go_at_call 40; go_must (refine (St.callPast (clk_tide hok2 (H8.blk 0 rfl)) H8).mono ?_; rintro e w9 ⟨rfl, H9⟩)))
                    go_roundw
                    case rel => exact ⟨i + 1, ⟨cs, cst, tp, ls⟩, by omega, by go_num, hcn.out.symm, rfl, rfl, H9.pick [1, 0]⟩
                    case measure => simp [intOf]; omega
                  · go_wp2_with (first
            | (go_at_call 37; go_must (obtain ⟨S1, K1, G1⟩ := St.call (l1 := [_]) (HL.pick [1, 0]); refine (ks _ _ K1).mono ?_; rintro e w6 ⟨rfl, H6⟩; have H7 : St (fun _ => False) w w6 [Blk bc (clkC ⟨cs, cst, tp, ls⟩) 87, Row 3 1 (.slice (some ⟨gm, 0, none⟩) l.length mc) l.length (intCells ((newClk cs step).marks l))] := G1 _ _ H6; have cm := own_cell (H7.row 1 rfl) hmk))
            | (go_at_call 39; go_must (refine (St.callPast (clk_last (H7.blk 0 rfl)) H7).mono ?_; rintro e w8 ⟨rfl, H8⟩))
            | (go_at_call 40; go_must (refine (St.callPast (clk_tide hok2 (H8.blk 0 rfl)) H8).mono ?_; rintro e w9 ⟨rfl, H9⟩)))
                    go_roundw
                    case rel => exact ⟨i + 1, ⟨cs, cst, tp, ls⟩, by omega, by go_num, hcn.out.symm, rfl, rfl, H9.pick [1, 0]⟩
                    case measure => simp [intOf]; omega
                · rcases htp with ⟨n2, n4⟩ | ⟨n2, n4⟩
                  · go_wp2_with (first
            | (go_at_call 37; go_must (obtain ⟨S1, K1, G1⟩ := St.call (l1 := [_]) (HL.pick [1, 0]); refine (ks _ _ K1).mono ?_; rintro e w6 ⟨rfl, H6⟩; have H7 : St (fun _ => False) w w6 [Blk bc (clkC ⟨cs, cst, tp, ls⟩) 87, Row 3 1 (.slice (some ⟨gm, 0, none⟩) l.length mc) l.length (intCells ((newClk cs step).marks l))] := G1 _ _ H6; have cm := own_cell (H7.row 1 rfl) hmk))
            | (go_at_call 39; go_must (refine (St.callPast (clk_last (H7.blk 0 rfl)) H7).mono ?_; rintro e w8 ⟨rfl, H8⟩))
            | (go_at_call 40; go_must (refine (St.callPast (clk_tide hok2 (H8.blk 0 rfl)) H8).mono ?_; rintro e w9 ⟨rfl, H9⟩)))
                    go_roundw
                    case rel => exact ⟨i + 1, ⟨cs, cst, tp, ls⟩, by omega, by go_num, hcn.out.symm, rfl, rfl, H9.pick [1, 0]⟩
                    case measure => simp [intOf]; omega
                  · go_wp2_with (first
            | (go_at_call 37; go_must (obtain ⟨S1, K1, G1⟩ := St.call (l1 := [_]) (HL.pick [1, 0]); refine (ks _ _ K1).mono ?_; rintro e w6 ⟨rfl, H6⟩; have H7 : St (fun _ => False) w w6 [Blk bc (clkC ⟨cs, cst, tp, ls⟩) 87, Row 3 1 (.slice (some ⟨gm, 0, none⟩) l.length mc) l.length (intCells ((newClk cs step).marks l))] := G1 _ _ H6; have cm := own_cell (H7.row 1 rfl) hmk))
            | (go_at_call 39; go_must (refine (St.callPast (clk_last (H7.blk 0 rfl)) H7).mono ?_; rintro e w8 ⟨rfl, H8⟩))
            | (go_at_call 40; go_must (refine (St.callPast (clk_tide hok2 (H8.blk 0 rfl)) H8).mono ?_; rintro e w9 ⟨rfl, H9⟩)))
                    go_roundw
                    case rel => exact ⟨i + 1, ⟨cs, cst, tp, ls⟩, by omega, by go_num, hcn.out.symm, rfl, rfl, H9.pick [1, 0]⟩
                    case measure => simp [intOf]; omega
        · obtain rfl : i = l.length := by omega
          go_wp2
          go_ret
          exact ⟨rfl, HL.below (Nat.le_refl _) (fun _ h => h.elim)⟩
end Go.Proofs.Ytoffcoegghigoaa
