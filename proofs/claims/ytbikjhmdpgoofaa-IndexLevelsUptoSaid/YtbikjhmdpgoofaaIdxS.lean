/- The walks of the document's Items and of sameStretches. Conditions: no number is outgrown. -/
import Derived.Test.YtbikjhmdpgoofaaIdxQ
namespace Go.Proofs.Ytbikjhmdpgoofaa
open Go.RowKit

section
attribute [local go_sem ↓] run_load_rec run_store_rec
set_option maxHeartbeats 4000000 in
set_option maxRecDepth 100000 in
theorem ref_items {l : List Rcd} {v : Value} (a b : Int) (w : World) (hv : RcsRO w v l) (hll : l.length ≤ 9223372036854775807) (hN : (l.map fun r => r.items.length).sum ≤ 1000000000) :
    Calls Try.prog 36 #[v, .int .i64 a, .int .i64 b] w fun e w' => ∃ v', e = .returned v' ∧ St (fun _ => False) w w' [Row 108 4 v' (itemsS l a b).length (itms (itemsS l a b))] := by
  obtain ⟨ao, cap, rfl, hcap, hgood, hcell⟩ := hv
  have H0 : St (fun _ => False) w w [Row 108 4 (.slice none 0 0) 0 (itms [])] := (St.nil (fun _ => False) w).row_nil 108 4
  go_enter Try.func36, Try.ntmps36
  go_upto_block 1 with (fail)
  go_loopw [7, 14] (fun u j wr => ∃ (i : Nat) (O : List Itm), i ≤ l.length ∧ j = .int .i64 i ∧ O = itemsS (l.take i) a b ∧ St (fun _ => False) w wr [Row 108 4 u O.length (itms O)]) (fun _ j _ => l.length - (intOf j).toNat)
  case atStart => exact ⟨0, [], by omega, rfl, rfl, H0⟩
  case round =>
    clear H0
    obtain ⟨i, O, hi, rfl, hO, HL⟩ := hrel
    by_cases hlt : i < l.length
    · obtain ⟨rb, o, rfl, hb, hc⟩ := hcell (by rintro rfl; simp at hlt)
      obtain ⟨r, hx⟩ : ∃ r, l[i]? = some r := ⟨_, List.getElem?_eq_getElem hlt⟩
      have hg := hgood r (List.mem_of_getElem? hx)
      obtain ⟨q1, q2⟩ : cellsAt wr rb (o + i * 36) 36 = r.cells ∧ hasCells wr rb (o + i * 36) 36 = true := cellsAt_of_range (fun j v hj => (World.cell?_of_block (w := w) (HL.kept.block rb hb id)).trans (hc i r hx j v hj)) hg.1
      have hz : r.cells.toArray.size = 36 := by simpa using hg.1
      have ho := hg.2.2.2.2.2.2
      have hOl : O.length + r.items.length ≤ 1000000000 := by
        have h1 := itemsS_len (l.take i) a b
        have h2 := sum_take l i r hx
        rw [hO]
        omega
      have hOn : itemsS (l.take (i + 1)) a b = O ++ r.items.filter (timeB a b) := by rw [take_snoc' hx, itemsS_snoc, hO]
      have hOh := Lib.hid hOn
      clear hx hc hcell hOn hO
      have HA : St (fun _ => False) w _ [_, _] := HL.allocAt rfl r.cells.toArray 82
      go_upto_region 5 with (fail)
      obtain ⟨wa, hwa⟩ : ∃ wa, wr.alloc (.cells r.cells.toArray 82) = wa := ⟨_, rfl⟩
      obtain ⟨ob, hob⟩ : ∃ ob, wr.heap.size = ob := ⟨_, rfl⟩
      rw [hwa, hob] at HA
      try rw [hwa]
      try simp only [hob]
      clear hwa hob q1 q2 HL
      have d2 := HA.cell 0 2 rfl (by simpa using hg.2.2.1)
      have hil := hg.2.2.2.2.1
      have ke := ref_events wa (hg.2.2.2.1.later HA.kept) (by omega)
      have hfl : (r.items.filter Itm.counts).length ≤ r.items.length := List.length_filter_le _ _
      have hfits : ∀ x ∈ r.items.filter Itm.counts, x.fits := fun x hx => by
        obtain ⟨_, _, _, _, hf, _⟩ := hg.2.2.2.1
        exact hf x (List.mem_filter.1 hx).1
      have hcts : ∀ x ∈ r.items.filter Itm.counts, x.counts = true := fun x hx => (List.mem_filter.1 hx).2
      have hOf : O ++ r.items.filter (timeB a b) = O ++ (r.items.filter Itm.counts).filter (timeB a b) := by
        rw [List.filter_filter]
        congr 2
        funext x
        unfold timeB
        cases x.counts <;> simp
      have hOh2 := Lib.hid (hOh.out.trans hOf)
      obtain ⟨E, hE⟩ : ∃ E, r.items.filter Itm.counts = E := ⟨_, rfl⟩
      rw [hE] at ke hfl hfits hcts hOh2
      have hEl : O.length + E.length ≤ 1000000000 := by omega
      have HB0 : St (fun _ => False) w wa [Blk ob r.cells.toArray 82, Row 108 4 u7 (O ++ (E.take 0).filter (timeB a b)).length (itms (O ++ (E.take 0).filter (timeB a b)))] := by
        rw [List.take_zero, List.filter_nil, List.append_nil]
        exact HA
      clear hE hOf hOh HA
      go_upto_block 3 with (go_at_call 62; go_must (refine ke.mono ?_; rintro e w3 ⟨v', rfl, K3⟩; have HB1 : St (fun _ => False) w w3 [Row 108 4 v' E.length (itms E), Blk ob r.cells.toArray 82, Row 108 4 u7 (O ++ (E.take 0).filter (timeB a b)).length (itms (O ++ (E.take 0).filter (timeB a b)))] := HB0.call0 K3; obtain ⟨ea, ec, rfl, _, _⟩ := slice_form' (HB1.row 0 rfl)))
      have HB : St (fun _ => False) w w3 [Row 108 4 u7 (O ++ (E.take 0).filter (timeB a b)).length (itms (O ++ (E.take 0).filter (timeB a b))), Row 108 4 (.slice ea E.length ec) E.length (itms E)] := HB1.pick [2, 0]
      clear d2 HB0 HB1 K3 ke hg ho hz hil hfl
      go_loopw [7, 22] (fun u j wr => ∃ (k : Nat), k ≤ E.length ∧ j = .int .i64 k ∧ St (fun _ => False) w wr [Row 108 4 u (O ++ (E.take k).filter (timeB a b)).length (itms (O ++ (E.take k).filter (timeB a b))), Row 108 4 (.slice ea E.length ec) E.length (itms E)]) (fun _ j _ => E.length - (intOf j).toNat)
      case atStart => exact ⟨0, by omega, rfl, HB⟩
      case round =>
        clear HB
        obtain ⟨k, hk, rfl, HM⟩ := hrel
        obtain ⟨Q, hQ⟩ : ∃ Q, O ++ (E.take k).filter (timeB a b) = Q := ⟨_, rfl⟩
        have hQl : Q.length ≤ O.length + k := by
          have := List.length_filter_le (timeB a b) (E.take k)
          rw [List.length_take] at this
          rw [← hQ, List.length_append]
          omega
        rw [hQ] at HM
        by_cases hkl : k < E.length
        · obtain ⟨_, _, e1, _, _, hic⟩ := itms_own (HM.row 1 rfl) hfits
          cases e1
          obtain ⟨b2, o2, rfl, hb2, hc2⟩ := hic (by intro e; rw [e] at hkl; simp at hkl)
          obtain ⟨x, hx⟩ : ∃ x, E[k]? = some x := ⟨_, List.getElem?_eq_getElem hkl⟩
          have hxc := hcts x (List.mem_of_getElem? hx)
          obtain ⟨q0, q1, q2, q3⟩ := itm_cells (hc2 k x hx) rfl
          have htb : timeB a b x = (x.counts && decide (a ≤ x.time) && decide (x.time ≤ b)) := rfl
          rw [hxc, Bool.true_and] at htb
          have hfl0 : O ++ (E.take (k + 1)).filter (timeB a b) = if timeB a b x then Q ++ [x] else Q := by
            rw [take_snoc' hx, List.filter_append, ← List.append_assoc, hQ]
            cases htx : timeB a b x <;> simp [htx]
          rw [htb] at hfl0
          have hfl0 := Lib.hid hfl0
          clear hxc hx hc2 hic htb hQ
          obtain ⟨xk, xy, xt, xv⟩ := x
          simp only at q0 q1 q2 q3 hfl0
          unfold textV at q1
          have HA2 : St (fun _ => False) w _ [_, _, _] := HM.allocAt rfl #[.int .i64 xk, .string ⟨xy.toArray⟩, .int .i64 xt, .int .i64 xv] 108
          go_upto_region 8 with (fail)
          obtain ⟨wb, hwb⟩ : ∃ wb, wr.alloc (.cells #[.int .i64 xk, .string ⟨xy.toArray⟩, .int .i64 xt, .int .i64 xv] 108) = wb := ⟨_, rfl⟩
          obtain ⟨xb, hxb⟩ : ∃ xb, wr.heap.size = xb := ⟨_, rfl⟩
          rw [hwb, hxb] at HA2
          try rw [hwb]
          try simp only [hxb]
          have HA2 : St (fun _ => False) w wb [Blk xb #[.int .i64 xk, .string ⟨xy.toArray⟩, .int .i64 xt, .int .i64 xv] 108, Row 108 4 u7 Q.length (itms Q), Row 108 4 (.slice (some ⟨b2, o2, none⟩) E.length ec) E.length (itms E)] := HA2
          clear hwb hxb q0 q1 q2 q3 HM
          have d0 := HA2.cell 0 0 rfl rfl
          have d1 := HA2.cell 0 1 rfl rfl
          have d2 := HA2.cell 0 2 rfl rfl
          have d3 := HA2.cell 0 3 rfl rfl
          by_cases ha : a ≤ xt
          · have z1 : decide (a ≤ xt) = true := by simpa using ha
            by_cases hb3 : xt ≤ b
            · have z2 : decide (xt ≤ b) = true := by simpa using hb3
              have hfl := Lib.hid (show O ++ (E.take (k + 1)).filter (timeB a b) = Q ++ [⟨xk, xy, xt, xv⟩] by rw [hfl0.out, z1, z2]; rfl)
              clear ha hb3
              go_wp2_with (at_builtin; go_must (refine St.list_app (HA2.skip _) 1 rfl rfl (.tmp 36) (.tmp 38) 72 rfl Try.underlying72 Try.info108 (by decide) rfl [.int .i64 xk, .string ⟨xy.toArray⟩, .int .i64 xt, .int .i64 xv] rfl rfl (new_cells #[.int .i64 xk, .string ⟨xy.toArray⟩, .int .i64 xt, .int .i64 xv] _) (by simp [Value.oneCell']) (by omega) (by omega) ?_; intro g5 cap5 w5 H5 hz5))
              go_roundw
              case rel =>
                refine ⟨k + 1, by omega, by go_num, ?_⟩
                rw [hfl.out, itms_app, itms_one, List.length_append]
                exact St.tail H5
              case measure => simp [intOf]; omega
            · have z2 : decide (xt ≤ b) = false := by simpa using hb3
              have hfl := Lib.hid (show O ++ (E.take (k + 1)).filter (timeB a b) = Q by rw [hfl0.out, z1, z2]; rfl)
              clear ha hb3
              go_wp2
              go_roundw
              case rel =>
                refine ⟨k + 1, by omega, by go_num, ?_⟩
                rw [hfl.out]
                exact St.tail HA2
              case measure => simp [intOf]; omega
          · have z1 : decide (a ≤ xt) = false := by simpa using ha
            have hfl := Lib.hid (show O ++ (E.take (k + 1)).filter (timeB a b) = Q by rw [hfl0.out, z1]; rfl)
            clear ha
            go_wp2
            go_roundw
            case rel =>
              refine ⟨k + 1, by omega, by go_num, ?_⟩
              rw [hfl.out]
              exact St.tail HA2
            case measure => simp [intOf]; omega
        · obtain rfl : k = E.length := by omega
          rw [List.take_length] at hQ
          go_wp2
          go_roundw
          case rel => exact ⟨i + 1, Q, by omega, by go_num, by rw [hOh2.out, hQ], HM.pick [0]⟩
          case measure => simp [intOf]; omega
    · obtain rfl : i = l.length := by omega
      rw [List.take_length] at hO
      have hOh := Lib.hid hO
      clear hO
      obtain ⟨ua, uc, rfl, _, _⟩ := slice_form' (HL.row 0 rfl)
      go_wp2
      go_ret
      rw [← hOh.out]
      exact ⟨_, rfl, HL⟩
end


set_option maxHeartbeats 1000000 in
set_option maxRecDepth 100000 in
theorem strs_same {v1 v2 : Value} {l : List Str} (w : World) (hv1 : StrRO w v1 l) (hv2 : StrRO w v2 l) (hll : l.length ≤ 9223372036854775807) :
    Calls Try.prog 31 #[v1, v2] w fun e w' => e = .returned (.bool true) ∧ Below w.heap.size w w' := by
  obtain ⟨ao, cap, rfl, hcap, hcell⟩ := hv1
  obtain ⟨ap, cbp, rfl, hcbp, hcell2⟩ := hv2
  have H0 : St (fun _ => False) w w [] := St.nil (fun _ => False) w
  go_enter Try.func31, Try.ntmps31
  have hz : ((l.length : Int) == (l.length : Int)) = true := by simp
  go_upto_block 1 with (fail)
  go_loopw [13] (fun j wr => ∃ (i : Nat), i ≤ l.length ∧ j = .int .i64 i ∧ St (fun _ => False) w wr []) (fun j _ => l.length - (intOf j).toNat)
  case atStart => exact ⟨0, by omega, rfl, H0⟩
  case round =>
    clear H0
    obtain ⟨i, hi, rfl, HL⟩ := hrel
    by_cases hlt : i < l.length
    · obtain ⟨b, o, rfl, hb, hc⟩ := hcell (by rintro rfl; simp at hlt)
      obtain ⟨b2, o2, rfl, hb2, hc2⟩ := hcell2 (by rintro rfl; simp at hlt)
      obtain ⟨x, hx⟩ : ∃ x, l[i]? = some x := ⟨_, List.getElem?_eq_getElem hlt⟩
      have g1 := hc i x hx
      have g2 := hc2 i x hx
      clear hx hc hcell hc2 hcell2
      obtain ⟨f, t, l0, g⟩ := x
      go_upto_region 6 with (fail)
      refine wp_calm (fun w' => St (fun _ => False) w w' []) (by kernel_rfl) (by kernel_rfl) (HL.drew) ?_
      iterate 9 first
        | (apply calm_pass
           · rfl
           intro K hK
           go_simp
           refine hK _ ?_
           clear hK K)
        | (apply calm_step
           · rfl
           · intro w1 h1
             obtain ⟨q0, q1, q2, q3⟩ := str_cells g1 (h1.kept.block b hb id)
             obtain ⟨p0, p1, p2, p3⟩ := str_cells g2 (h1.kept.block b2 hb2 id)
             simp only at q0 q1 q2 q3 p0 p1 p2 p3
             first
               | (go_simp
                  first
                    | rfl
                    | exact ⟨rfl, h1⟩
                    | (trace_state; fail)
                 )
           intro K hK
           go_simp
           refine hK _ ?_
           clear hK K)
      refine calm_nil ?_
      intro w9 H9
      go_wp2
      go_roundw
      case rel => exact ⟨i + 1, by omega, by go_num, H9⟩
      case measure => simp [intOf]; omega
    · obtain rfl : i = l.length := by omega
      go_wp2
      go_ret
      exact ⟨rfl, HL.below (Nat.le_refl _) (fun _ h => h.elim)⟩
end Go.Proofs.Ytbikjhmdpgoofaa
