/- The walks of Seek and Items, and of the document's Meets. Condition: the levels lie where they can be read, and are not too many. -/
import Derived.Test.YtbikjhmdpgoofaaIdxE
namespace Go.Proofs.Ytbikjhmdpgoofaa
open Go.RowKit

set_option maxHeartbeats 4000000 in
set_option maxRecDepth 100000 in
theorem idx_seek {width : Nat} {lvv : Value} {a b : Int} {lv : List (List Str)} {w : World} (hw : 2 ≤ width ∧ width ≤ 64) (hlv : ∀ s ∈ lv, s.length ≤ 1000000) (hll : lv.length ≤ 1000000) (hne : lv ≠ []) (hp : 2 * width ^ (lv.length - 1) ≤ 1000000000000) (hro : LvRO (fun _ => False) w lvv lv) :
    Calls Try.prog 32 #[.int .i64 width, lvv, .int .i64 a, .int .i64 b] w fun e w' => ∃ v', e = .returned (.tuple #[v', .int .i64 ((lookS lv width a b (lv.length - 1) 0).2 : Nat)]) ∧
      St (fun _ => False) w w' [Row 76 4 v' (lookS lv width a b (lv.length - 1) 0).1.length (strs (lookS lv width a b (lv.length - 1) 0).1)] := by
  obtain ⟨la, lcap, rfl, _⟩ := id hro
  have z1 : decide ((2 : Int) ≤ width) = true := by simp; omega
  have z2 : decide ((width : Int) ≤ 64) = true := by simp; omega
  have kw := fun w' => idx_wide width w'
  rw [z1, z2] at kw
  have hl0 : 0 < lv.length := List.length_pos_iff.2 hne
  have z3 : ((lv.length : Int) == 0) = false := by simp; omega
  obtain ⟨n1, hn1⟩ : ∃ n1, lv.length - 1 = n1 := ⟨_, rfl⟩
  rw [hn1] at hp ⊢
  have hlm : IntKind.i64.wrap ((lv.length : Int) - 1) = (n1 : Int) := by rw [IntKind.wrap_i64]; omega
  have hlm2 : (lv.length : Int) - 1 = (n1 : Int) := by omega
  obtain ⟨p, hpp⟩ : ∃ p, w.heap.size = p := ⟨_, rfl⟩
  have H0 : St (fun _ => False) w _ [_, _] := ((St.nil (fun _ => False) w).row_nil 76 4).allocAt hpp #[.int .i64 width, .slice la lv.length lcap, .int .i64 a, .int .i64 b, .int .i64 0, .slice none 0 0] 115
  have H1 : St (fun _ => False) w _ [SeekAt p width (.slice la lv.length lcap) a b 0 []] := SeekAt.mk (L := []) H0
  obtain ⟨S1, h1, h2, _, h4⟩ := St.call2 (l1 := [_]) (l2 := []) H1
  have kl := idx_look hw hlv hll n1 0 0 [] _ S1 (by omega) (by omega) (by simp; omega) (by omega) (hro.lend H1.kept h2) h1
  have hnI : ((0 : Nat) : Int) = 0 := rfl
  rw [hnI, Nat.zero_add, List.nil_append] at kl
  obtain ⟨R, hR⟩ : ∃ R, lookS lv width a b n1 0 = R := ⟨_, rfl⟩
  rw [hR] at kl ⊢
  clear hR hn1 h1 h2 H0 H1
  go_enter Try.func32, Try.ntmps32
  go_wp2_with (first
    | (go_at_call 57; go_must (refine (kw _).mono ?_; rintro e w0 ⟨rfl, hw0⟩; have hw0 := hw0.symm; subst hw0))
    | (go_at_call 60; go_must (refine kl.mono ?_; rintro e w3 ⟨rfl, H3⟩; have H4 := h4 _ _ H3; obtain ⟨ov, H5⟩ := SeekAt.open H4; obtain ⟨oa, oc, rfl, _, _⟩ := slice_form' (H5.row 1 rfl))))
  have H6 : St (fun _ => False) w w3 [Blk p #[.int .i64 width, .slice la lv.length lcap, .int .i64 a, .int .i64 b, .int .i64 (R.2 : Nat), .slice oa R.1.length oc] 115, Row 76 4 (.slice oa R.1.length oc) R.1.length (strs R.1)] := H5
  clear H5 H4 H3 h4 kl
  refine wp_calm (fun w' => St (fun _ => False) w w' [Blk p #[.int .i64 width, .slice la lv.length lcap, .int .i64 a, .int .i64 b, .int .i64 (R.2 : Nat), .slice oa R.1.length oc] 115, Row 76 4 (.slice oa R.1.length oc) R.1.length (strs R.1)]) (by kernel_rfl) (by kernel_rfl) (H6.drew) ?_
  iterate 10 first
    | (apply calm_pass
       · rfl
       intro K hK
       go_simp
       refine hK _ ?_
       clear hK K)
    | (apply calm_step
       · rfl
       · intro w1 h1
         have d4 := h1.cell 0 4 rfl rfl
         have d5 := h1.cell 0 5 rfl rfl
         first
           | (go_simp
              first
                | rfl
                | exact ⟨rfl, h1⟩
             )
       intro K hK
       go_simp
       refine hK _ ?_
       clear hK K)
  refine calm_nil ?_
  intro w9 H9
  go_wp2
  go_ret2
  exact ⟨_, rfl, St.tail H9⟩

set_option maxHeartbeats 1000000 in
theorem ref_meets (s : Str) (a b : Int) (w : World) : Calls Try.prog 39 #[strV s, .int .i64 a, .int .i64 b] w fun e w' => e = .returned (.bool (meetsS s a b)) ∧ Below w.heap.size w w' := by
  obtain ⟨f, t, l, g⟩ := s
  have hm : meetsS ⟨f, t, l, g⟩ a b = (!decide (g < l) && decide (l ≤ b) && decide (a ≤ g)) := rfl
  have hmh := Lib.hid hm
  clear hm
  have H : St (fun _ => False) w (w.alloc (.cells #[.int .i64 f, .int .i64 t, .int .i64 l, .int .i64 g] 76)) [Blk w.heap.size #[.int .i64 f, .int .i64 t, .int .i64 l, .int .i64 g] 76] := (St.nil (fun _ => False) w).alloc _ _
  have c2 := H.cell 0 2 rfl rfl
  have c3 := H.cell 0 3 rfl rfl
  unfold strV
  simp only
  go_enter Try.func39, Try.ntmps39
  go_wp2
  all_goals go_ret
  all_goals rw [hmh.out]
  all_goals refine ⟨?_, H.below (Nat.le_refl _) (fun _ h => h.elim)⟩
  all_goals refine ret_bool ?_
  all_goals (rw [Bool.eq_iff_iff]; simp; try omega)

/-- Items that are right events, of some times. -/
def timeB (a b : Int) (x : Itm) : Bool := x.counts && decide (a ≤ x.time) && decide (x.time ≤ b)
def itms (l : List Itm) : List Value := (l.map fun x => (itmC x).toList).flatten
theorem itms_app (l m : List Itm) : itms (l ++ m) = itms l ++ itms m := by simp [itms]
theorem itms_one (x : Itm) : itms [x] = [.int .i64 x.kind, textV x.key, .int .i64 x.time, .int .i64 x.value] := by simp [itms]
def itemsS (l : List Rcd) (a b : Int) : List Itm := (l.map fun r => r.items.filter (timeB a b)).flatten
theorem Try.info108 : (Try.prog.info? 108).map (fun i => (i.zero, i.size, i.bytes)) = some (some (.agg #[.int .i64 0, .string ⟨#[]⟩, .int .i64 0, .int .i64 0]), 4, 40) := by kernel_rfl

theorem itemsS_snoc (l : List Rcd) (r : Rcd) (a b : Int) : itemsS (l ++ [r]) a b = itemsS l a b ++ r.items.filter (timeB a b) := by simp [itemsS]
theorem itemsS_len (l : List Rcd) (a b : Int) : (itemsS l a b).length ≤ (l.map fun r => r.items.length).sum := by
  unfold itemsS
  induction l with
  | nil => simp
  | cons r l ih =>
    have := List.length_filter_le (timeB a b) r.items
    simp only [List.map_cons, List.flatten_cons, List.length_append, List.sum_cons] at ih ⊢
    omega
theorem sum_take : ∀ (l : List Rcd) (i : Nat) (r : Rcd), l[i]? = some r → ((l.take i).map fun r => r.items.length).sum + r.items.length ≤ (l.map fun r => r.items.length).sum
  | [], i, r, h => by simp at h
  | x :: l, 0, r, h => by
    obtain rfl : x = r := by simpa using h
    simp
  | x :: l, i + 1, r, h => by
    have := sum_take l i r (by simpa using h)
    simp only [List.take_succ_cons, List.map_cons, List.sum_cons] at this ⊢
    omega
section
attribute [local go_sem ↓] run_load_rec run_store_rec
set_option maxHeartbeats 4000000 in
set_option maxRecDepth 100000 in
theorem idx_items {l : List Rcd} {v : Value} (a b : Int) (w : World) (hv : RcsRO w v l) (hll : l.length ≤ 9223372036854775807) (hN : (l.map fun r => r.items.length).sum ≤ 1000000000) :
    Calls Try.prog 35 #[v, .int .i64 a, .int .i64 b] w fun e w' => ∃ v', e = .returned v' ∧ St (fun _ => False) w w' [Row 108 4 v' (itemsS l a b).length (itms (itemsS l a b))] := by
  obtain ⟨ao, cap, rfl, hcap, hgood, hcell⟩ := hv
  have H0 : St (fun _ => False) w w [Row 108 4 (.slice none 0 0) 0 (itms [])] := (St.nil (fun _ => False) w).row_nil 108 4
  go_enter Try.func35, Try.ntmps35
  go_upto_block 1 with (fail)
  go_loopw [7, 14] (fun u j wr => ∃ (i : Nat) (O : List Itm), i ≤ l.length ∧ j = .int .i64 i ∧ O = itemsS (l.take i) a b ∧ St (fun _ => False) w wr [Row 108 4 u O.length (itms O)]) (fun _ j _ => l.length - (intOf j).toNat)
  case atStart => exact ⟨0, [], by omega, rfl, rfl, H0⟩
  case round =>
    clear H0
    obtain ⟨i, O, hi, rfl, hO, HL⟩ := hrel
    by_cases hlt : i < l.length
    · obtain ⟨rb, o, rfl, hb, hc⟩ := hcell (by rintro rfl; simp at hlt)
      obtain ⟨r, hx⟩ : ∃ r, l[i]? = some r := ⟨_, List.getElem?_eq_getElem hlt⟩
      have hg := hgood r (List.mem_of_getElem? hx)
      obtain ⟨q1, q2⟩ : cellsAt wr rb (o + i * 36) 36 = r.cells ∧ hasCells wr rb (o + i * 36) 36 = true := cellsAt_of_range (fun j v hj => (World.cell?_of_block (w := w) (HL.kept.block rb hb id)).trans (hc i r hx j v hj)) hg.1
      have hz : r.cells.toArray.size = 36 := by simpa using hg.1
      have ho := hg.2.2.2.2.2.2
      have hOl : O.length + r.items.length ≤ 1000000000 := by
        have h1 := itemsS_len (l.take i) a b
        have h2 := sum_take l i r hx
        rw [hO]
        omega
      have hOn : itemsS (l.take (i + 1)) a b = O ++ r.items.filter (timeB a b) := by rw [take_snoc' hx, itemsS_snoc, hO]
      have hOh := Lib.hid hOn
      clear hx hc hcell hOn hO
      have HA : St (fun _ => False) w _ [_, _] := HL.allocAt rfl r.cells.toArray 82
      go_upto_region 5 with (fail)
      obtain ⟨wa, hwa⟩ : ∃ wa, wr.alloc (.cells r.cells.toArray 82) = wa := ⟨_, rfl⟩
      obtain ⟨ob, hob⟩ : ∃ ob, wr.heap.size = ob := ⟨_, rfl⟩
      rw [hwa, hob] at HA
      try rw [hwa]
      try simp only [hob]
      clear hwa hob q1 q2 HL
      obtain ⟨ia, icap, hiv, hicap, hfit, hic⟩ := hg.2.2.2.1
      have d2 := HA.cell 0 2 rfl (by simpa using hg.2.2.1)
      rw [hiv] at d2
      have hil := hg.2.2.2.2.1
      have HB : St (fun _ => False) w wa [Row 108 4 u7 (O ++ (r.items.take 0).filter (timeB a b)).length (itms (O ++ (r.items.take 0).filter (timeB a b)))] := by
        rw [List.take_zero, List.filter_nil, List.append_nil]
        exact St.tail HA
      clear hiv
      go_upto_block 3 with (fail)
      clear d2 HA
      go_loopw [7, 21] (fun u j wr => ∃ (k : Nat), k ≤ r.items.length ∧ j = .int .i64 k ∧ St (fun _ => False) w wr [Row 108 4 u (O ++ (r.items.take k).filter (timeB a b)).length (itms (O ++ (r.items.take k).filter (timeB a b)))]) (fun _ j _ => r.items.length - (intOf j).toNat)
      case atStart => exact ⟨0, by omega, rfl, HB⟩
      case round =>
        clear HB
        obtain ⟨k, hk, rfl, HM⟩ := hrel
        obtain ⟨Q, hQ⟩ : ∃ Q, O ++ (r.items.take k).filter (timeB a b) = Q := ⟨_, rfl⟩
        have hQl : Q.length ≤ O.length + k := by
          have := List.length_filter_le (timeB a b) (r.items.take k)
          rw [List.length_take] at this
          rw [← hQ, List.length_append]
          omega
        rw [hQ] at HM
        by_cases hkl : k < r.items.length
        · obtain ⟨b2, o2, rfl, hb2, hc2⟩ := hic (by intro e; rw [e] at hkl; simp at hkl)
          obtain ⟨x, hx⟩ : ∃ x, r.items[k]? = some x := ⟨_, List.getElem?_eq_getElem hkl⟩
          have hxf := hfit x (List.mem_of_getElem? hx)
          obtain ⟨q0, q1, q2, q3⟩ := itm_cells (hc2 k x hx) (HM.kept.block b2 hb2 id)
          have kc := fun w' => idx_counts x hxf w'
          have htb : timeB a b x = (x.counts && decide (a ≤ x.time) && decide (x.time ≤ b)) := rfl
          obtain ⟨ct, hct⟩ : ∃ ct, x.counts = ct := ⟨_, rfl⟩
          rw [hct] at kc htb
          have hfl0 : O ++ (r.items.take (k + 1)).filter (timeB a b) = if timeB a b x then Q ++ [x] else Q := by
            rw [take_snoc' hx, List.filter_append, ← List.append_assoc, hQ]
            cases htx : timeB a b x <;> simp [htx]
          rw [htb] at hfl0
          have hfl0 := Lib.hid hfl0
          clear hct hx hc2 hic hfit htb hQ
          obtain ⟨xk, xy, xt, xv⟩ := x
          unfold itmV textV at kc
          simp only at q0 q1 q2 q3 kc hfl0
          unfold textV at q1
          have HA2 : St (fun _ => False) w _ [_, _] := HM.allocAt rfl #[.int .i64 xk, .string ⟨xy.toArray⟩, .int .i64 xt, .int .i64 xv] 108
          go_upto_region 8 with (fail)
          obtain ⟨wb, hwb⟩ : ∃ wb, wr.alloc (.cells #[.int .i64 xk, .string ⟨xy.toArray⟩, .int .i64 xt, .int .i64 xv] 108) = wb := ⟨_, rfl⟩
          obtain ⟨xb, hxb⟩ : ∃ xb, wr.heap.size = xb := ⟨_, rfl⟩
          rw [hwb, hxb] at HA2
          try rw [hwb]
          try simp only [hxb]
          have HA2 : St (fun _ => False) w wb [Blk xb #[.int .i64 xk, .string ⟨xy.toArray⟩, .int .i64 xt, .int .i64 xv] 108, Row 108 4 u7 Q.length (itms Q)] := HA2
          clear hwb hxb q0 q1 q2 q3 HM
          have d0 := HA2.cell 0 0 rfl rfl
          have d1 := HA2.cell 0 1 rfl rfl
          have d2 := HA2.cell 0 2 rfl rfl
          have d3 := HA2.cell 0 3 rfl rfl
          cases ct with
          | false =>
            have hfl := Lib.hid (show O ++ (r.items.take (k + 1)).filter (timeB a b) = Q by rw [hfl0.out]; rfl)
            go_wp2_with (go_at_call 61; go_must (refine (St.callPast (kc _) HA2).mono ?_; rintro e w3 ⟨rfl, H3⟩; have d0 := H3.cell 0 0 rfl rfl; have d1 := H3.cell 0 1 rfl rfl; have d2 := H3.cell 0 2 rfl rfl; have d3 := H3.cell 0 3 rfl rfl))
            go_roundw
            case rel =>
              refine ⟨k + 1, by omega, by go_num, ?_⟩
              rw [hfl.out]
              exact St.tail H3
            case measure => simp [intOf]; omega
          | true =>
            by_cases ha : a ≤ xt
            · have z1 : decide (a ≤ xt) = true := by simpa using ha
              by_cases hb3 : xt ≤ b
              · have z2 : decide (xt ≤ b) = true := by simpa using hb3
                have hfl := Lib.hid (show O ++ (r.items.take (k + 1)).filter (timeB a b) = Q ++ [⟨xk, xy, xt, xv⟩] by rw [hfl0.out, z1, z2]; rfl)
                clear ha hb3
                go_wp2_with (first
                  | (go_at_call 61; go_must (refine (St.callPast (kc _) HA2).mono ?_; rintro e w3 ⟨rfl, H3⟩; have d0 := H3.cell 0 0 rfl rfl; have d1 := H3.cell 0 1 rfl rfl; have d2 := H3.cell 0 2 rfl rfl; have d3 := H3.cell 0 3 rfl rfl))
                  | (at_builtin; go_must (refine St.list_app (H3.skip _) 1 rfl rfl (.tmp 39) (.tmp 41) 72 rfl Try.underlying72 Try.info108 (by decide) rfl [.int .i64 xk, .string ⟨xy.toArray⟩, .int .i64 xt, .int .i64 xv] rfl rfl (new_cells #[.int .i64 xk, .string ⟨xy.toArray⟩, .int .i64 xt, .int .i64 xv] _) (by simp [Value.oneCell']) (by omega) (by omega) ?_; intro g5 cap5 w5 H5 hz5)))
                go_roundw
                case rel =>
                  refine ⟨k + 1, by omega, by go_num, ?_⟩
                  rw [hfl.out, itms_app, itms_one, List.length_append]
                  exact St.tail H5
                case measure => simp [intOf]; omega
              · have z2 : decide (xt ≤ b) = false := by simpa using hb3
                have hfl := Lib.hid (show O ++ (r.items.take (k + 1)).filter (timeB a b) = Q by rw [hfl0.out, z1, z2]; rfl)
                clear ha hb3
                go_wp2_with (go_at_call 61; go_must (refine (St.callPast (kc _) HA2).mono ?_; rintro e w3 ⟨rfl, H3⟩; have d0 := H3.cell 0 0 rfl rfl; have d1 := H3.cell 0 1 rfl rfl; have d2 := H3.cell 0 2 rfl rfl; have d3 := H3.cell 0 3 rfl rfl))
                go_roundw
                case rel =>
                  refine ⟨k + 1, by omega, by go_num, ?_⟩
                  rw [hfl.out]
                  exact St.tail H3
                case measure => simp [intOf]; omega
            · have z1 : decide (a ≤ xt) = false := by simpa using ha
              have hfl := Lib.hid (show O ++ (r.items.take (k + 1)).filter (timeB a b) = Q by rw [hfl0.out, z1]; rfl)
              clear ha
              go_wp2_with (go_at_call 61; go_must (refine (St.callPast (kc _) HA2).mono ?_; rintro e w3 ⟨rfl, H3⟩; have d0 := H3.cell 0 0 rfl rfl; have d1 := H3.cell 0 1 rfl rfl; have d2 := H3.cell 0 2 rfl rfl; have d3 := H3.cell 0 3 rfl rfl))
              go_roundw
              case rel =>
                refine ⟨k + 1, by omega, by go_num, ?_⟩
                rw [hfl.out]
                exact St.tail H3
              case measure => simp [intOf]; omega
        · obtain rfl : k = r.items.length := by omega
          rw [List.take_length] at hQ
          go_wp2
          go_roundw
          case rel => exact ⟨i + 1, Q, by omega, by go_num, by rw [hOh.out, hQ], HM⟩
          case measure => simp [intOf]; omega
    · obtain rfl : i = l.length := by omega
      rw [List.take_length] at hO
      have hOh := Lib.hid hO
      clear hO
      obtain ⟨ua, uc, rfl, _, _⟩ := slice_form' (HL.row 0 rfl)
      go_wp2
      go_ret
      rw [← hOh.out]
      exact ⟨_, rfl, HL⟩
end

end Go.Proofs.Ytbikjhmdpgoofaa
