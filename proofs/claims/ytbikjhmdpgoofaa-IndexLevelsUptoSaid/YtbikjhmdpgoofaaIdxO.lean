/- The walk of IndexFinds. Condition: numbers are not outgrown, records not too many to be held. -/
import Derived.Test.YtbikjhmdpgoofaaIdxN
import Derived.Test.YtbikjhmdpgoofaaIdxG
namespace Go.Proofs.Ytbikjhmdpgoofaa
open Go.RowKit

theorem ofS_facts {l : List Rcd} {width : Int} (hl : l.length ≤ 1000) : (∀ s ∈ ofS width l, s.length ≤ 1000000) ∧ (ofS width l).length ≤ 1000000 ∧ ((2 ≤ width ∧ width ≤ 64) → 2 * width.toNat ^ ((ofS width l).length - 1) ≤ 1000000000000) ∧ sumN (fun j => ((ofS width l).getD j []).length) (ofS width l).length ≤ 1001000 := by
  have hm : ∀ (lv : List (List Str)) (n : Nat), (∀ s ∈ lv, s.length ≤ n) → ∀ k, sumN (fun j => (lv.getD j []).length) k ≤ k * n := by
    intro lv n h k
    induction k with
    | zero => simp [sumN]
    | succ k ih =>
      simp only [sumN, Nat.succ_mul]
      have : (lv.getD k []).length ≤ n := by
        rw [List.getD_eq_getElem?_getD]
        cases hc : lv[k]? with
        | none => simp
        | some s => exact h s (List.mem_of_getElem? hc)
      omega
  unfold ofS
  by_cases hg : (2 ≤ width ∧ width ≤ 64) ∧ l ≠ []
  · rw [if_pos hg]
    obtain ⟨n, rfl⟩ : ∃ n : Nat, width = n := ⟨width.toNat, by omega⟩
    simp only [Int.toNat_natCast]
    obtain ⟨h1, h2⟩ := climb_len n l.length (l.map fun r => oneS r.seq r.items)
    rw [List.length_map] at h2
    have hn : n ≤ 64 := by omega
    refine ⟨fun s hs => by have := h2 s hs; omega, by omega, fun _ => ?_, ?_⟩
    · rcases climb_pow (show 2 ≤ n by omega) l.length (l.map fun r => oneS r.seq r.items) with h | ⟨_, h⟩
      · rw [h]; simp
      · rw [List.length_map] at h
        have : n * (l.length - 1) ≤ 64 * 1000 := Nat.mul_le_mul hn (by omega)
        omega
    · have h3 := hm _ _ h2 (climb n l.length (l.map fun r => oneS r.seq r.items)).length
      have : (climb n l.length (l.map fun r => oneS r.seq r.items)).length * l.length ≤ 1001 * 1000 := Nat.mul_le_mul (by omega) hl
      omega
  · rw [if_neg hg]
    simp [sumN]
theorem wts_len (l : List Rcd) : 50 * l.length ≤ wts l := by
  induction l with
  | nil => simp [wts]
  | cons r l ih => simp only [wts, List.map_cons, List.sum_cons, wt14, List.length_cons] at ih ⊢; omega
theorem wt5_len (l : List Itm) : l.length ≤ wt5 l := by
  induction l with
  | nil => simp [wt5]
  | cons r l ih => simp only [wt5, List.map_cons, List.sum_cons, List.length_cons] at ih ⊢; omega
theorem wts_items (l : List Rcd) : (l.map fun r => r.items.length).sum ≤ wts l := by
  induction l with
  | nil => simp [wts]
  | cons r l ih => have := wt5_len r.items; simp only [wts, List.map_cons, List.sum_cons, wt14] at ih ⊢; omega
theorem wts_filter (p : Rcd → Bool) (l : List Rcd) : wts (l.filter p) ≤ wts l := by
  induction l with
  | nil => simp
  | cons r l ih =>
    rw [List.filter_cons]
    split <;> simp only [wts, List.map_cons, List.sum_cons] at ih ⊢ <;> omega

theorem run_one_rec {w : World} {a : Act} {dst : Option Tmp} {ty' : TypeId} {pos : String} {after : Array Edge} {g : Option (Nat × Bool)} {x : Operand} (hv : (aggOf (a.eval x)).size = 36) :
    (execOp a.eval ⟨dst, .buildSlice 60 1 #[(0, x)], ty', pos, after, g⟩).run Try.prog w = .ok (.value (.slice (some ⟨w.heap.size, 0, none⟩) 1 1)) (w.alloc (.cells (aggOf (a.eval x)) 82)) :=
  run_one_at Try.underlying60 Try.info82 (by omega) hv
section
attribute [local go_sem ↓] run_load_rec run_store_rec run_one_rec
set_option maxHeartbeats 4000000 in
set_option maxRecDepth 100000 in
theorem finds_walk {l : List Rcd} {v : Value} (width t0 t1 : Int) (w : World) (hv : RcsRO w v l) (hs : wts l ≤ 4611686018427387000) (hll : l.length ≤ 1000000000) :
    Calls Try.prog 7 #[.int .i64 width, v, .agg #[.int .i64 t0, .int .i64 t1]] w fun e w' => e = .returned (.bool true) ∧ Below w.heap.size w w' := by
  obtain ⟨ao, cap, rfl, hcap, hgood, hcell⟩ := id hv
  go_enter Try.func7, Try.ntmps7
  obtain ⟨ba, hba⟩ : ∃ ba, w.heap.size = ba := ⟨_, rfl⟩
  have H0 : St (fun _ => False) w _ [Blk ba #[.int .i64 t0, .int .i64 t1] 61] := (St.nil (fun _ => False) w).allocAt hba #[.int .i64 t0, .int .i64 t1] 61
  go_upto_block 1 with (go_at_call 27; go_must (refine (St.callPast (first32 _) H0).mono ?_; rintro e w1 ⟨rfl, H1⟩))
  clear H0
  go_loopw [22] (fun j wr => ∃ (i : Nat), i ≤ l.length ∧ j = .int .i64 i ∧ Hid (∀ (k : Nat) (r : Rcd), k < i → l[k]? = some r → r.seq = (k : Int) + 1) ∧ St (fun _ => False) w wr [Blk ba #[.int .i64 t0, .int .i64 t1] 61]) (fun j _ => l.length - (intOf j).toNat)
  case atStart => exact ⟨0, by omega, rfl, Lib.hid (fun k r h => by omega), H1⟩
  case round =>
    clear H1
    obtain ⟨i, hi, rfl, hsq, HL⟩ := hrel
    by_cases hlt : i < l.length
    · obtain ⟨b, o, rfl, hb, hc⟩ := hcell (by rintro rfl; simp at hlt)
      obtain ⟨r, hx⟩ : ∃ r, l[i]? = some r := ⟨_, List.getElem?_eq_getElem hlt⟩
      have hg := hgood r (List.mem_of_getElem? hx)
      obtain ⟨q1, q2⟩ : cellsAt wr b (o + i * 36) 36 = r.cells ∧ hasCells wr b (o + i * 36) 36 = true := cellsAt_of_range (fun j v hj => (World.cell?_of_block (w := w) (HL.kept.block b hb id)).trans (hc i r hx j v hj)) hg.1
      have hz : r.cells.toArray.size = 36 := by simpa using hg.1
      have ho := hg.2.2.2.2.2.2
      have hsq2 := Lib.hid (fun h : r.seq = (i : Int) + 1 => fun (k : Nat) (r' : Rcd) (hk : k < i + 1) (hr : l[k]? = some r') => show r'.seq = (k : Int) + 1 by
        rcases Nat.lt_or_ge k i with g | g
        · exact hsq.out k r' g hr
        · obtain rfl : k = i := by omega
          rw [hx] at hr
          cases hr
          exact h)
      have hwi : IntKind.i64.wrap ((i : Int) + 1) = (i : Int) + 1 := by rw [IntKind.wrap_i64]; omega
      clear hx hc hcell hsq
      have HA : St (fun _ => False) w _ [_, _] := HL.allocAt rfl r.cells.toArray 82
      go_upto_region 6 with (fail)
      obtain ⟨wa, hwa⟩ : ∃ wa, wr.alloc (.cells r.cells.toArray 82) = wa := ⟨_, rfl⟩
      obtain ⟨ob, hob⟩ : ∃ ob, wr.heap.size = ob := ⟨_, rfl⟩
      rw [hwa, hob] at HA
      try rw [hwa]
      try simp only [hob]
      clear hwa hob q1 q2 HL
      have c1 := HA.cell 0 1 rfl (by simpa using hg.2.1)
      by_cases he : r.seq = (i : Int) + 1
      · have z1 : (r.seq == (i : Int) + 1) = true := by simpa using he
        have hsq3 := Lib.hid (hsq2.out he)
        clear he hsq2
        go_wp2
        go_roundw
        case rel => exact ⟨i + 1, by omega, by go_num, Lib.hid (fun k r hk hr => hsq3.out k r hk hr), HA.pick [1]⟩
        case measure => simp [intOf]; omega
      · have z1 : (r.seq == (i : Int) + 1) = false := by simpa using he
        clear he hsq2
        go_wp2
        go_ret
        exact ⟨rfl, HA.below (by omega) (fun _ h => h.elim)⟩
    · obtain rfl : i = l.length := by omega
      have kg := great32 wr (hv.later HL.kept) hs (by omega)
      by_cases hgr : 3000 < wts l
      · rw [decide_eq_true hgr] at kg
        clear hgr
        go_wp2_with (go_at_call 28; go_must (refine (St.callPast kg HL).mono ?_; rintro e w3 ⟨rfl, H3⟩))
        go_ret
        exact ⟨rfl, H3.below (by omega) (fun _ h => h.elim)⟩
      rw [decide_eq_false hgr] at kg
      by_cases hw1 : width < 2
      · have z1 : decide (width < 2) = true := by simpa using hw1
        clear hgr hw1
        go_wp2_with (go_at_call 28; go_must (refine (St.callPast kg HL).mono ?_; rintro e w3 ⟨rfl, H3⟩))
        go_ret
        exact ⟨rfl, H3.below (by omega) (fun _ h => h.elim)⟩
      have z1 : decide (width < 2) = false := by simpa using hw1
      by_cases hw2 : 64 < width
      · have z2 : decide (64 < width) = true := by simpa using hw2
        clear hgr hw1 hw2
        go_wp2_with (go_at_call 28; go_must (refine (St.callPast kg HL).mono ?_; rintro e w3 ⟨rfl, H3⟩))
        go_ret
        exact ⟨rfl, H3.below (by omega) (fun _ h => h.elim)⟩
      have z2 : decide (64 < width) = false := by simpa using hw2
      have hl60 : l.length ≤ 60 := by have := wts_len l; omega
      obtain ⟨k1, k2, k3, k4⟩ := ofS_facts (width := width) (show l.length ≤ 1000 by omega)
      obtain ⟨hlaw1, hlaw2⟩ := finds_law (l := l) (width := width) ⟨by omega, by omega⟩ t0 t1
      have hw12 : 2 ≤ width ∧ width ≤ 64 := ⟨by omega, by omega⟩
      clear hw1 hw2
      go_upto_region 11 with (go_at_call 28; go_must (refine (St.callPast kg HL).mono ?_; rintro e w3 ⟨rfl, H3⟩))
      clear kg HL z1 z2
      have ko := idx_of width w3 (hv.later H3.kept) (by omega)
      obtain ⟨lv, hlv⟩ : ∃ lv, ofS width l = lv := ⟨_, rfl⟩
      rw [hlv] at ko k1 k2 k3 k4 hlaw1 hlaw2
      clear hlv
      go_upto_region 12 with (go_at_call 29; go_must (refine ko.mono ?_; rintro e w4 ⟨lvv, vals, rows, rfl, hcov, K4⟩))
      have hro := hcov.ro K4
      have H4 : St (fun _ => False) w w4 [SP.all rows, Row 67 1 lvv vals.length vals, Blk ba #[.int .i64 t0, .int .i64 t1] 61] := H3.call0 K4
      have c0 := H4.cell 2 0 rfl rfl
      have c1 := H4.cell 2 1 rfl rfl
      have ksk := idx_seek_any (a := t0) (b := t1) k1 k2 k3 hro
      obtain ⟨X, hX⟩ : ∃ X, seekS width lv t0 t1 = X := ⟨_, rfl⟩
      rw [hX] at ksk hlaw1 hlaw2
      obtain ⟨F, n⟩ := X
      simp only at ksk hlaw1 hlaw2
      obtain ⟨oa, oc, rfl, _⟩ := id hro
      clear hX H3 K4 ko k3
      go_upto_region 13 with (go_at_call 32; go_must (refine ksk.mono ?_; rintro e w5 ⟨fv, rfl, K5⟩))
      have H5 : St (fun _ => False) w w5 [Row 76 4 fv F.length (strs F), SP.all rows, Row 67 1 (.slice oa lv.length oc) vals.length vals, Blk ba #[.int .i64 t0, .int .i64 t1] 61] := H4.call0 K5
      clear K5 H4 c0 c1 ksk hro
      obtain ⟨fa, fc, rfl, hfc, hfg⟩ := slice_form' (H5.row 0 rfl)
      obtain ⟨G, hG⟩ : ∃ G, (l.filter fun r => meetsS (oneS r.seq r.items) t0 t1) = G := ⟨_, rfl⟩
      rw [hG] at hlaw1
      have hGF := Lib.hid (show F.length = G.length by rw [hlaw1, List.length_map])
      have hGl : G.length ≤ l.length := by rw [← hG]; exact List.length_filter_le _ _
      have hFG := Lib.hid (show ∀ (i : Nat) (r : Rcd), G[i]? = some r → F[i]? = some (oneS r.seq r.items) from fun i r h => by rw [hlaw1, List.getElem?_map, h]; rfl)
      have hGr := Lib.hid (show ∀ r ∈ G, ∃ k, k < l.length ∧ l[k]? = some r ∧ r.seq = (k : Int) + 1 from fun r hr => by
        rw [← hG] at hr
        obtain ⟨k, hk⟩ := List.getElem?_of_mem (List.mem_filter.1 hr).1
        have hkl := (List.getElem?_eq_some_iff.1 hk).1
        exact ⟨k, hkl, hk, hsq.out k r hkl hk⟩)
      have hits := Lib.hid (show itemsS G t0 t1 = itemsS l t0 t1 by rw [← hG]; exact items_some l t0 t1)
      have hGw : wts G ≤ wts l := by rw [← hG]; exact wts_filter _ _
      clear hlaw1 hG hsq
      have H6 : St (fun _ => False) w w5 [Row 82 36 (.slice none 0 0) 0 [], Row 76 4 (.slice fa F.length fc) F.length (strs F), SP.all rows, Row 67 1 (.slice oa lv.length oc) vals.length vals, Blk ba #[.int .i64 t0, .int .i64 t1] 61] := H5.row_nil 82 36
      clear H5
      go_upto_block 3 with (fail)
      go_loopw [12, 58] (fun u j wr => ∃ (i : Nat), i ≤ F.length ∧ j = .int .i64 i ∧ St (fun _ => False) w wr [Row 82 36 u i ((G.take i).map fun r => r.cells).flatten, Row 76 4 (.slice fa F.length fc) F.length (strs F), SP.all rows, Row 67 1 (.slice oa lv.length oc) vals.length vals, Blk ba #[.int .i64 t0, .int .i64 t1] 61]) (fun _ j _ => F.length - (intOf j).toNat)
      case atStart => exact ⟨0, by omega, rfl, H6⟩
      case round =>
        clear H6
        obtain ⟨i, hi2, rfl, HL⟩ := hrel
        by_cases hlt2 : i < F.length
        · obtain ⟨r, hr⟩ : ∃ r, G[i]? = some r := ⟨_, List.getElem?_eq_getElem (by have := hGF.out; omega)⟩
          obtain ⟨k, hkl, hk, hks⟩ := hGr.out r (List.mem_of_getElem? hr)
          have hg := hgood r (List.mem_of_getElem? hk)
          obtain ⟨_, _, e1, _, e2⟩ := (str_row (HL.row 1 rfl)).1
          obtain ⟨fb, fo, rfl, hfb, hfc2⟩ := e2 (by rintro rfl; simp at hlt2)
          cases e1
          obtain ⟨q0, q1, q2, q3⟩ := str_cells (hfc2 i _ (hFG.out i r hr)) rfl
          obtain ⟨e0, e1⟩ := one_ends r.seq r.items
          obtain ⟨S, hS⟩ : ∃ S, oneS r.seq r.items = S := ⟨_, rfl⟩
          rw [hS] at q0 q1 q2 q3 e0 e1
          obtain ⟨sf, st, sl, sg⟩ := S
          simp only at q0 q1 q2 q3 e0 e1
          rw [hks] at e0 e1
          have htk := Lib.hid (show ((G.take (i + 1)).map fun r => r.cells).flatten = ((G.take i).map fun r => r.cells).flatten ++ r.cells by rw [take_snoc' hr]; simp)
          clear hS hFG hGr e2 hfc2 hr
          subst e0 e1
          obtain ⟨b, o, rfl, hb, hc⟩ := hcell (by rintro rfl; simp at hkl)
          have hrng : w.rangeAt b (o + k * 36) r.cells := hc k r hk
          have hz : r.cells.toArray.size = 36 := by simpa using hg.1
          have ho := hg.2.2.2.2.2.2
          have hwk : IntKind.i64.wrap ((k : Int) + 1 - 1) = (k : Int) := by rw [IntKind.wrap_i64]; omega
          have hk1 : (k : Int) + 1 - 1 = (k : Int) := by omega
          have z3 : decide ((k : Int) + 1 < 1) = false := by simp; omega
          have z4 : decide ((l.length : Int) < (k : Int) + 1) = false := by simp; omega
          have hone : ∀ u ∈ r.cells, u.oneCell' = true := by
            intro u hu
            have := Array.all_eq_true_iff_forall_mem.1 ho u (by simpa using hu)
            exact this
          have HA : St (fun _ => False) w _ [_, _, _, _, _, _] := HL.allocAt rfl #[.int .i64 ((k : Int) + 1), .int .i64 ((k : Int) + 1), .int .i64 sl, .int .i64 sg] 76
          clear hc hcell hk hks
          go_upto_region 17 with (fail)
          obtain ⟨wa, hwa⟩ : ∃ wa, wr.alloc (.cells #[.int .i64 ((k : Int) + 1), .int .i64 ((k : Int) + 1), .int .i64 sl, .int .i64 sg] 76) = wa := ⟨_, rfl⟩
          obtain ⟨ob, hob⟩ : ∃ ob, wr.heap.size = ob := ⟨_, rfl⟩
          rw [hwa, hob] at HA
          try rw [hwa]
          try simp only [hob]
          clear hwa hob q0 q1 q2 q3 HL
          have d0 := HA.cell 0 0 rfl rfl
          have d1 := HA.cell 0 1 rfl rfl
          obtain ⟨p1, p2⟩ : cellsAt wa b (o + k * 36) 36 = r.cells ∧ hasCells wa b (o + k * 36) 36 = true := cellsAt_of_range (fun j v hj => (World.cell?_of_block (w := w) (HA.kept.block b hb id)).trans (hrng j v hj)) hg.1
          have hG60 : i < 60 := by have := hGF.out; omega
          go_wp2_with (at_builtin; go_must (refine St.list_app (HA.skip _) 1 rfl rfl (.tmp 79) (.tmp 86) 60 rfl Try.underlying60 Try.info82 ⟨rfl, by omega, by omega⟩ rfl r.cells rfl (by simpa using hg.1) (new_cells r.cells.toArray _) hone (by omega) (by omega) ?_; intro g5 cap5 w6 H6 hz6))
          go_roundw
          case rel =>
            refine ⟨i + 1, by omega, by go_num, ?_⟩
            rw [htk.out]
            exact St.tail H6
          case measure => simp [intOf]; omega
        · obtain rfl : i = F.length := by omega
          rw [hGF.out, List.take_length] at HL
          obtain ⟨sa, sc, rfl, _, _⟩ := slice_form' (HL.row 0 rfl)
          have H7 : St (fun _ => False) w wr [Row 82 36 (.slice sa G.length sc) G.length (G.map fun r => r.cells).flatten, SP.all rows, Row 67 1 (.slice oa lv.length oc) vals.length vals, Blk ba #[.int .i64 t0, .int .i64 t1] 61] := HL.pick [0, 2, 3, 4]
          try rw [hGF.out]
          clear HL hFG hfg hfc hi2 hlt2 hGF
          go_upto_block 5 with (fail)
          go_loopw [15, 91] (fun u j wr => ∃ (m : Nat), m ≤ lv.length ∧ u = .int .i64 (sumN (fun j => (lv.getD j []).length) m) ∧ j = .int .i64 m ∧ St (fun _ => False) w wr [Row 82 36 (.slice sa G.length sc) G.length (G.map fun r => r.cells).flatten, SP.all rows, Row 67 1 (.slice oa lv.length oc) vals.length vals, Blk ba #[.int .i64 t0, .int .i64 t1] 61]) (fun _ j _ => lv.length - (intOf j).toNat)
          case atStart => exact ⟨0, by omega, rfl, rfl, H7⟩
          case round =>
            clear H7
            obtain ⟨m, hm, rfl, rfl, HL⟩ := hrel
            by_cases hlt3 : m < lv.length
            · have hro : LvRO _ wr _ lv := hcov.ro (HL.pick [1, 2, 0, 3])
              obtain ⟨_, _, e1, e2⟩ := hro
              obtain ⟨b, o, rfl, hb, _, hc⟩ := e2 (by rintro rfl; simp at hlt3)
              cases e1
              obtain ⟨s, hs3⟩ : ∃ s, lv[m]? = some s := ⟨_, List.getElem?_eq_getElem hlt3⟩
              obtain ⟨ad', cap', c0, _⟩ := hc m s hs3
              have hsl := k1 s (List.mem_of_getElem? hs3)
              have hsum := Lib.hid (show sumN (fun j => (lv.getD j []).length) (m + 1) = sumN (fun j => (lv.getD j []).length) m + s.length by
                rw [sumN, List.getD_eq_getElem?_getD, hs3]; rfl)
              have hbnd : sumN (fun j => (lv.getD j []).length) m ≤ 1000000000000 := by
                have : ∀ k, sumN (fun j => (lv.getD j []).length) k ≤ k * 1000000 := by
                  intro k
                  induction k with
                  | zero => simp [sumN]
                  | succ k ih =>
                    simp only [sumN, Nat.succ_mul]
                    have : (lv.getD k []).length ≤ 1000000 := by
                      rw [List.getD_eq_getElem?_getD]
                      cases hc : lv[k]? with
                      | none => simp
                      | some s => exact k1 s (List.mem_of_getElem? hc)
                    omega
                have := this m
                omega
              obtain ⟨T, hT⟩ : ∃ T, sumN (fun j => (lv.getD j []).length) m = T := ⟨_, rfl⟩
              rw [hT] at hsum hbnd
              try rw [hT]
              have hw2 : IntKind.i64.wrap ((T : Int) + (s.length : Int)) = ((T + s.length : Nat) : Int) := by rw [IntKind.wrap_i64]; omega
              clear hT hc e2 hs3
              go_wp2
              go_roundw
              case rel =>
                refine ⟨m + 1, by omega, ?_, by go_num, HL⟩
                rw [hsum.out]
                first | rfl | (go_num; done) | skip
              case measure => simp [intOf]; omega
            · obtain rfl : m = lv.length := by omega
              obtain ⟨T, hT⟩ : ∃ T, sumN (fun j => (lv.getD j []).length) lv.length = T := ⟨_, rfl⟩
              rw [hT] at hlaw2
              try rw [hT]
              clear hT
              have zl : decide ((n : Int) ≤ (T : Int)) = true := by simp; omega
              have hGg : ∀ r ∈ G, r.good w := fun r hr => by
                obtain ⟨k, _, hk, _⟩ := hGr.out r hr
                exact hgood r (List.mem_of_getElem? hk)
              have hfits : ∀ x ∈ itemsS l t0 t1, x.fits := fun x hx => by
                obtain ⟨m, hm, hx⟩ := List.mem_flatten.1 hx
                obtain ⟨r, hr, rfl⟩ := List.mem_map.1 hm
                obtain ⟨_, _, _, _, hf, _⟩ := (hgood r hr).2.2.2.1
                exact hf x (List.mem_filter.1 hx).1
              have hn1 : (G.map fun r => r.items.length).sum ≤ 1000000000 := by have := wts_items G; omega
              have hn2 : (l.map fun r => r.items.length).sum ≤ 1000000000 := by have := wts_items l; omega
              have hIl : (itemsS l t0 t1).length ≤ 1000000000 := Nat.le_trans (itemsS_len l t0 t1) hn2
              have ki1 : ∀ w1, St (fun _ => False) w w1 [Row 82 36 (.slice sa G.length sc) G.length (G.map fun r => r.cells).flatten, Blk ba #[.int .i64 t0, .int .i64 t1] 61] → Calls Try.prog 35 #[.slice sa G.length sc, .int .i64 t0, .int .i64 t1] w1 fun e w' => ∃ v', e = .returned v' ∧ St (fun _ => False) w1 w' [Row 108 4 v' (itemsS l t0 t1).length (itms (itemsS l t0 t1))] := fun w1 h1 => by
                have := idx_items t0 t1 w1 (rcs_own (h1.row 0 rfl) (fun x hx => (hGg x hx).later h1.kept)) (by omega) hn1
                rw [hits.out] at this
                exact this
              have ki2 : ∀ w1, St (fun _ => False) w w1 [Blk ba #[.int .i64 t0, .int .i64 t1] 61] → Calls Try.prog 35 #[.slice ao l.length cap, .int .i64 t0, .int .i64 t1] w1 fun e w' => ∃ v', e = .returned v' ∧ St (fun _ => False) w1 w' [Row 108 4 v' (itemsS l t0 t1).length (itms (itemsS l t0 t1))] := fun w1 h1 => idx_items t0 t1 w1 (hv.later h1.kept) (by omega) hn2
              obtain ⟨I, hI⟩ : ∃ I, itemsS l t0 t1 = I := ⟨_, rfl⟩
              rw [hI] at ki1 ki2 hfits hIl
              have H8 : St (fun _ => False) w wr [Row 82 36 (.slice sa G.length sc) G.length (G.map fun r => r.cells).flatten, Blk ba #[.int .i64 t0, .int .i64 t1] 61] := HL.pick [0, 3]
              clear HL hGg hn1 hn2 hits hI hGr hcov k1 hcell hgood
              go_upto_region 27 with (fail)
              refine wp_script [(0, false), (1, false), (2, false), (3, false), (4, false), (5, false), (6, false), (7, false), (8, false), (10, false), (11, false), (12, false), (13, false), (14, false), (9, true), (15, true), (16, false), (17, false), (18, false)] (Fam fun w' => St (fun _ => False) w w' [Blk ba #[.int .i64 t0, .int .i64 t1] 61]) (fun w' => St (fun _ => False) w w' [Row 82 36 (.slice sa G.length sc) G.length (G.map fun r => r.cells).flatten, Blk ba #[.int .i64 t0, .int .i64 t1] 61]) (by kernel_rfl) (by rfl) (by kernel_rfl) (by kernel_rfl) H8.drew (Fam.st (fun _ h => h.pick [1])) ?_
              iterate 14 first
                | (apply script_pass
                   · rfl
                   · rfl
                   intro K hK
                   go_simp
                   refine hK _ ?_
                   clear hK K)
                | (apply script_step
                   · rfl
                   · rfl
                   · intro I hI w1 h1'
                     have h1 := hI.2 _ h1'
                     have c0 := h1.cell 0 0 rfl rfl
                     have c1 := h1.cell 0 1 rfl rfl
                     first
                       | (go_simp
                          first
                            | rfl
                            | exact ⟨rfl, h1'⟩
                         )
                   intro K hK
                   go_simp
                   refine hK _ ?_
                   clear hK K)
              obtain ⟨V1, hV1⟩ := hide_rel (fun v I' => ∃ v1 n1, v = .slice v1 I.length n1 ∧ I' = fun w' => St (fun _ => False) w w' [Row 108 4 (.slice v1 I.length n1) I.length (itms I), Blk ba #[.int .i64 t0, .int .i64 t1] 61])
              refine script_big V1 rfl rfl ?_ ?_
              · intro w1 h1
                go_simp
                refine (ki1 w1 h1).mono ?_
                rintro e w2 ⟨v', rfl, K2⟩
                obtain ⟨v1, n1, rfl, _, _⟩ := slice_form' (K2.row 0 rfl)
                exact ⟨_, rfl, _, (hV1.out _ _).2 ⟨_, _, rfl, rfl⟩, (h1.call0 K2).pick [0, 2]⟩
              · intro v I' hvI
                obtain ⟨v1, n1, rfl, rfl⟩ := (hV1.out _ _).1 hvI
                clear hvI hV1
                refine ⟨Fam fun w' => St (fun _ => False) w w' [Row 108 4 (.slice v1 I.length n1) I.length (itms I), Blk ba #[.int .i64 t0, .int .i64 t1] 61], Fam.mono (fun _ h => h.pick [1]), Fam.st (fun _ h => h), ?_⟩
                intro K hK
                go_simp
                refine hK _ ?_
                clear hK K
                obtain ⟨V2, hV2⟩ := hide_rel (fun v I' => ∃ v2 n2, v = .slice v2 I.length n2 ∧ I' = fun w' => St (fun _ => False) w w' [Row 108 4 (.slice v2 I.length n2) I.length (itms I), Row 108 4 (.slice v1 I.length n1) I.length (itms I), Blk ba #[.int .i64 t0, .int .i64 t1] 61])
                refine script_big V2 rfl rfl ?_ ?_
                · intro w1 h1
                  go_simp
                  refine (ki2 w1 (h1.pick [1])).mono ?_
                  rintro e w2 ⟨v', rfl, K2⟩
                  obtain ⟨v2, n2, rfl, _, _⟩ := slice_form' (K2.row 0 rfl)
                  exact ⟨_, rfl, _, (hV2.out _ _).2 ⟨_, _, rfl, rfl⟩, h1.call0 K2⟩
                · intro v I' hvI
                  obtain ⟨v2, n2, rfl, rfl⟩ := (hV2.out _ _).1 hvI
                  clear hvI hV2
                  refine ⟨Fam fun w' => St (fun _ => False) w w' [Row 108 4 (.slice v2 I.length n2) I.length (itms I), Row 108 4 (.slice v1 I.length n1) I.length (itms I), Blk ba #[.int .i64 t0, .int .i64 t1] 61], Fam.mono (fun _ h => h.pick [1, 2]), Fam.st (fun _ h => h), ?_⟩
                  intro K hK
                  go_simp
                  refine hK _ ?_
                  clear hK K
                  iterate 3 first
                    | (apply script_pass
                       · rfl
                       · rfl
                       intro K hK
                       go_simp
                       refine hK _ ?_
                       clear hK K)
                    | (apply script_step
                       · rfl
                       · rfl
                       · intro I hI w1 h1'
                         have h1 := hI.2 _ h1'
                         first
                           | (go_simp
                              first
                                | rfl
                                | exact ⟨rfl, h1'⟩
                                | (go_at_call 34; with_reducible exact Fam.call hI h1' (items_same w1 (itms_own (h1.row 1 rfl) hfits) (itms_own (h1.row 0 rfl) hfits) (by omega)))
                             )
                       intro K hK
                       go_simp
                       refine hK _ ?_
                       clear hK K)
                  refine script_nil ?_
                  intro w9 H9
                  go_wp2
                  go_ret
                  exact ⟨rfl, H9.below (by omega) (fun _ h => h.elim)⟩
end

end Go.Proofs.Ytbikjhmdpgoofaa
