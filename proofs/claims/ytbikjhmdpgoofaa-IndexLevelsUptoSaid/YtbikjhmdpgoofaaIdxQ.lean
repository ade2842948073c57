/- The walk of the document's Many: records' stretch. Condition: one record at least. -/
import Derived.Test.YtbikjhmdpgoofaaIdxP
namespace Go.Proofs.Ytbikjhmdpgoofaa
open Go.RowKit

def evsS (l : List Rcd) : List Itm := (l.map fun r => r.items.filter Itm.counts).flatten
theorem evsS_snoc (l : List Rcd) (r : Rcd) : evsS (l ++ [r]) = evsS l ++ r.items.filter Itm.counts := by simp [evsS]
def seqOf (l : List Rcd) : Int := (l.head?.map fun r => r.seq).getD 0
def seqTo (l : List Rcd) : Int := (l.getLast?.map fun r => r.seq).getD 0
def manyS (l : List Rcd) : Str := (evsS l).foldl (fun s x => stepS s x.time) ⟨seqOf l, seqTo l, 1, 0⟩

section
attribute [local go_sem ↓] run_load_rec run_store_rec
set_option maxHeartbeats 4000000 in
set_option maxRecDepth 100000 in
theorem ref_many {v : Value} {l : List Rcd} (w : World) (hv : RcsRO w v l) (hne : l ≠ []) (hll : l.length ≤ 1000000000) (hN : (l.map fun r => r.items.length).sum ≤ 1000000000) :
    Calls Try.prog 59 #[v] w fun e w' => e = .returned (strV (manyS l)) ∧ Below w.heap.size w w' := by
  obtain ⟨ao, cap, rfl, hcap, hgood, hcell⟩ := hv
  obtain ⟨b, o, rfl, hb, hc⟩ := hcell hne
  have hl0 : 0 < l.length := List.length_pos_iff.2 hne
  obtain ⟨r0, hr0⟩ : ∃ r, l[0]? = some r := ⟨_, List.getElem?_eq_getElem hl0⟩
  obtain ⟨m, hm⟩ : ∃ m, l.length = m + 1 := ⟨l.length - 1, by omega⟩
  obtain ⟨r9, hr9⟩ : ∃ r, l[m]? = some r := ⟨_, List.getElem?_eq_getElem (by omega)⟩
  have e0 : seqOf l = r0.seq := by unfold seqOf; rw [List.head?_eq_getElem?, hr0]; rfl
  have e9 : seqTo l = r9.seq := by unfold seqTo; rw [List.getLast?_eq_getElem?, hm, Nat.add_sub_cancel, hr9]; rfl
  have g0 := hgood r0 (List.mem_of_getElem? hr0)
  have g9 := hgood r9 (List.mem_of_getElem? hr9)
  have q0 : w.cell? ⟨b, o + 1, none⟩ = some (.int .i64 r0.seq) := by have := hc 0 r0 hr0 1 _ g0.2.1; rwa [Nat.zero_mul] at this
  have q9 : w.cell? ⟨b, o + m * 36 + 1, none⟩ = some (.int .i64 r9.seq) := hc m r9 hr9 1 _ g9.2.1
  have hwr : IntKind.i64.wrap (m : Int) = m := by rw [IntKind.wrap_i64]; omega
  have hmm : (m : Int) < (m : Int) + 1 := by omega
  have hmany := Lib.hid (show manyS l = (evsS l).foldl (fun s x => stepS s x.time) ⟨r0.seq, r9.seq, 1, 0⟩ by unfold manyS; rw [e0, e9])
  obtain ⟨sf, hsf⟩ : ∃ x, r0.seq = x := ⟨_, rfl⟩
  obtain ⟨st, hst⟩ : ∃ x, r9.seq = x := ⟨_, rfl⟩
  rw [hsf] at q0 hmany
  rw [hst] at q9 hmany
  clear hsf hst e0 e9 g0 g9 hr0 hr9
  go_enter Try.func59, Try.ntmps59
  obtain ⟨br, hbr⟩ : ∃ br, w.heap.size = br := ⟨_, rfl⟩
  have H0 : St (fun _ => False) w _ [_] := (St.nil (fun _ => False) w).allocAt hbr #[.int .i64 0, .int .i64 0, .int .i64 0, .int .i64 0] 76
  rw [hm]
  go_upto_region 1 with (fail)
  obtain ⟨w1, hw1⟩ : ∃ w1, w.alloc (.cells #[.int .i64 0, .int .i64 0, .int .i64 0, .int .i64 0] 76) = w1 := ⟨_, rfl⟩
  rw [hw1] at H0
  try rw [hw1]
  try rw [hbr]
  clear hw1 hbr
  have hb1 := Nat.lt_of_lt_of_le hb H0.kept.size
  have p0 : w1.cell? ⟨b, o + 1, none⟩ = some (.int .i64 sf) := (World.cell?_of_block (w := w) (H0.kept.block b hb id)).trans q0
  have p9 : w1.cell? ⟨b, o + m * 36 + 1, none⟩ = some (.int .i64 st) := (World.cell?_of_block (w := w) (H0.kept.block b hb id)).trans q9
  clear q0 q9
  go_region
  obtain ⟨bs, hbs⟩ : ∃ bs, w1.heap.size = bs := ⟨_, rfl⟩
  have HX : St (fun _ => False) w _ [Blk bs #[.int .i64 sf, .int .i64 st, .int .i64 1, .int .i64 0] 76, Blk br #[.int .i64 0, .int .i64 0, .int .i64 0, .int .i64 0] 76] := (H0.allocAt hbs #[.int .i64 sf, .int .i64 st, .int .i64 1, .int .i64 0] 76).drew
  rw [hbs]
  clear p0 p9 H0 hb1 hbs hmm hwr hcell hl0
  rw [← hm]
  clear hm
  go_upto_block 1 with (fail)
  go_loopw [4, 23] (fun hd j wr => ∃ (i : Nat) (s : Str), i ≤ l.length ∧ j = .int .i64 i ∧ hd = .bool (!s.empty) ∧ s = (evsS (l.take i)).foldl (fun s x => stepS s x.time) ⟨sf, st, 1, 0⟩ ∧ St (fun _ => False) w wr [Blk bs (strC s) 76, Blk br #[.int .i64 0, .int .i64 0, .int .i64 0, .int .i64 0] 76]) (fun _ j _ => l.length - (intOf j).toNat)
  case atStart => exact ⟨0, ⟨sf, st, 1, 0⟩, by omega, rfl, rfl, rfl, HX⟩
  case round =>
    clear HX
    obtain ⟨i, s, hi, rfl, rfl, hs, HL⟩ := hrel
    by_cases hlt : i < l.length
    · obtain ⟨r, hx⟩ : ∃ r, l[i]? = some r := ⟨_, List.getElem?_eq_getElem hlt⟩
      have hg := hgood r (List.mem_of_getElem? hx)
      obtain ⟨q1, q2⟩ : cellsAt wr b (o + i * 36) 36 = r.cells ∧ hasCells wr b (o + i * 36) 36 = true := cellsAt_of_range (fun j v hj => (World.cell?_of_block (w := w) (HL.kept.block b hb id)).trans (hc i r hx j v hj)) hg.1
      have hz : r.cells.toArray.size = 36 := by simpa using hg.1
      have ho := hg.2.2.2.2.2.2
      have hOn := Lib.hid (show (evsS (l.take (i + 1))).foldl (fun s x => stepS s x.time) ⟨sf, st, 1, 0⟩ = (r.items.filter Itm.counts).foldl (fun s x => stepS s x.time) s by
        rw [take_snoc' hx, evsS_snoc, List.foldl_append, ← hs])
      have hil : r.items.length ≤ 1000000000 := by have := sum_take l i r hx; omega
      clear hx hs
      obtain ⟨em, hem⟩ : ∃ em, (!s.empty) = em := ⟨_, rfl⟩
      rw [hem]
      have hem0 := Lib.hid hem
      clear hem
      have hem := hem0
      clear hem0
      have HA : St (fun _ => False) w _ [_, _, _] := HL.allocAt rfl r.cells.toArray 82
      go_upto_region 6 with (fail)
      obtain ⟨wa, hwa⟩ : ∃ wa, wr.alloc (.cells r.cells.toArray 82) = wa := ⟨_, rfl⟩
      obtain ⟨ob, hob⟩ : ∃ ob, wr.heap.size = ob := ⟨_, rfl⟩
      rw [hwa, hob] at HA
      try rw [hwa]
      try simp only [hob]
      clear hwa hob q1 q2 HL
      have d2 := HA.cell 0 2 rfl (by simpa using hg.2.2.1)
      have ke := ref_events wa (hg.2.2.2.1.later HA.kept) hil
      have hfl : (r.items.filter Itm.counts).length ≤ r.items.length := List.length_filter_le _ _
      have hEf : ∀ x ∈ r.items.filter Itm.counts, x.fits := fun x hx => by
        obtain ⟨_, _, _, _, hf, _⟩ := hg.2.2.2.1
        exact hf x (List.mem_filter.1 hx).1
      obtain ⟨E, hE⟩ : ∃ E, r.items.filter Itm.counts = E := ⟨_, rfl⟩
      rw [hE] at ke hOn hfl hEf
      clear hE
      go_upto_block 3 with (go_at_call 62; go_must (refine ke.mono ?_; rintro e w3 ⟨v', rfl, K3⟩; have H3 : St (fun _ => False) w w3 [Row 108 4 v' E.length (itms E), Blk ob r.cells.toArray 82, Blk bs (strC s) 76, Blk br #[.int .i64 0, .int .i64 0, .int .i64 0, .int .i64 0] 76] := HA.call0 K3; obtain ⟨ea, ec, rfl, _, _⟩ := slice_form' (H3.row 0 rfl)))
      clear d2 HA K3 ke
      obtain rfl := hem.out
      clear hem
      have hEl : E.length ≤ 1000000000 := by omega
      clear hil hfl hg ho hz
      go_loopw [4, 31] (fun hd j wr => ∃ (k : Nat) (z : Str), k ≤ E.length ∧ j = .int .i64 k ∧ hd = .bool (!z.empty) ∧ z = (E.take k).foldl (fun s x => stepS s x.time) s ∧ St (fun _ => False) w wr [Row 108 4 (.slice ea E.length ec) E.length (itms E), Blk bs (strC z) 76, Blk br #[.int .i64 0, .int .i64 0, .int .i64 0, .int .i64 0] 76]) (fun _ j _ => E.length - (intOf j).toNat)
      case atStart => exact ⟨0, s, by omega, rfl, rfl, rfl, H3.pick [0, 2, 3]⟩
      case round =>
        clear H3
        obtain ⟨k, z, hk, rfl, rfl, hz, HM⟩ := hrel
        by_cases hkl : k < E.length
        · obtain ⟨_, _, e1, _, _, e2⟩ := itms_own (HM.row 0 rfl) hEf
          cases e1
          obtain ⟨b2, o2, rfl, hb2, hc2⟩ := e2 (by rintro rfl; simp at hkl)
          obtain ⟨x, hx⟩ : ∃ x, E[k]? = some x := ⟨_, List.getElem?_eq_getElem hkl⟩
          obtain ⟨q0, q1, q2, q3⟩ := itm_cells (hc2 k x hx) rfl
          have hOk := Lib.hid (show (E.take (k + 1)).foldl (fun s x => stepS s x.time) s = stepS z x.time by
            rw [take_snoc' hx, List.foldl_append, ← hz]; rfl)
          clear hx hc2 hz e2
          obtain ⟨xk, xy, xt, xv⟩ := x
          obtain ⟨zf, zt, zl, zg⟩ := z
          simp only [Str.empty] at q0 q1 q2 q3 hOk ⊢
          unfold textV at q1
          have HA2 : St (fun _ => False) w _ [_, _, _, _] := HM.allocAt rfl #[.int .i64 xk, .string ⟨xy.toArray⟩, .int .i64 xt, .int .i64 xv] 108
          go_upto_region 9 with (fail)
          obtain ⟨wb, hwb⟩ : ∃ wb, wr.alloc (.cells #[.int .i64 xk, .string ⟨xy.toArray⟩, .int .i64 xt, .int .i64 xv] 108) = wb := ⟨_, rfl⟩
          obtain ⟨xb, hxb⟩ : ∃ xb, wr.heap.size = xb := ⟨_, rfl⟩
          rw [hwb, hxb] at HA2
          try rw [hwb]
          try simp only [hxb]
          have HA3 : St (fun _ => False) w wb [Blk xb #[.int .i64 xk, .string ⟨xy.toArray⟩, .int .i64 xt, .int .i64 xv] 108, Row 108 4 (.slice (some ⟨b2, o2, none⟩) E.length ec) E.length (itms E), Blk bs #[.int .i64 zf, .int .i64 zt, .int .i64 zl, .int .i64 zg] 76, Blk br #[.int .i64 0, .int .i64 0, .int .i64 0, .int .i64 0] 76] := HA2
          clear hwb hxb q0 q1 q2 q3 HM HA2
          have d2 := HA3.cell 0 2 rfl rfl
          have x2 := HA3.cell 2 2 rfl rfl
          have x3 := HA3.cell 2 3 rfl rfl
          have p2 := HA3.free 2 2 rfl
          have p3 := HA3.free 2 3 rfl
          have hne : ¬ xb = bs := fun e => by
            have a1 := HA3.blk 0 rfl
            have a2 := HA3.blk 2 rfl
            rw [e, a2] at a1
            simp at a1
          have hne2 : ¬ bs = xb := fun e => hne e.symm
          by_cases hem : zg < zl
          · have z1 : decide (zg < zl) = true := by simpa using hem
            have hOk2 := Lib.hid (show (E.take (k + 1)).foldl (fun s x => stepS s x.time) s = ⟨zf, zt, xt, xt⟩ by rw [hOk.out, stepS, if_pos (by simp [Str.empty, hem])])
            have H6 := (HA3.set 2 rfl 2 (.int .i64 xt)).set 2 rfl 3 (.int .i64 xt)
            rw [z1]
            clear hem z1 hOk
            go_wp2
            go_roundw
            case rel => exact ⟨k + 1, ⟨zf, zt, xt, xt⟩, by omega, by go_num, by rw [decide_eq_false (show ¬ xt < xt by omega)]; rfl, hOk2.out.symm, H6.pick [1, 2, 3]⟩
            case measure => simp [intOf]; omega
          · have z1 : decide (zg < zl) = false := by simpa using hem
            have hOk2 := Lib.hid (show (E.take (k + 1)).foldl (fun s x => stepS s x.time) s = ⟨zf, zt, min zl xt, max zg xt⟩ by rw [hOk.out, stepS, if_neg (by simp [Str.empty]; omega)])
            rw [z1]
            clear z1 hOk
            by_cases h1 : xt < zl
            · have y1 : decide (xt < zl) = true := by simpa using h1
              have y2 : decide (zg < xt) = false := by simp; omega
              have hmi : min zl xt = xt := by omega
              have hma : max zg xt = zg := by omega
              rw [hmi, hma] at hOk2
              have H6 := HA3.set 2 rfl 2 (.int .i64 xt)
              have hee := Lib.hid (show ¬ zg < xt by omega)
              clear h1 hmi hma
              go_wp2
              go_roundw
              case rel => exact ⟨k + 1, ⟨zf, zt, xt, zg⟩, by omega, by go_num, by rw [decide_eq_false hee.out]; rfl, hOk2.out.symm, H6.pick [1, 2, 3]⟩
              case measure => simp [intOf]; omega
            · have y1 : decide (xt < zl) = false := by simpa using h1
              have hmi : min zl xt = zl := by omega
              rw [hmi] at hOk2
              by_cases h2 : zg < xt
              · have y2 : decide (zg < xt) = true := by simpa using h2
                have hma : max zg xt = xt := by omega
                rw [hma] at hOk2
                have H6 := HA3.set 2 rfl 3 (.int .i64 xt)
                have hee := Lib.hid (show ¬ xt < zl by omega)
                clear h1 h2 hmi hma
                go_wp2
                go_roundw
                case rel => exact ⟨k + 1, ⟨zf, zt, zl, xt⟩, by omega, by go_num, by rw [decide_eq_false hee.out]; rfl, hOk2.out.symm, H6.pick [1, 2, 3]⟩
                case measure => simp [intOf]; omega
              · have y2 : decide (zg < xt) = false := by simpa using h2
                have hma : max zg xt = zg := by omega
                rw [hma] at hOk2
                clear h1 h2 hmi hma
                go_wp2
                go_roundw
                case rel => exact ⟨k + 1, ⟨zf, zt, zl, zg⟩, by omega, by go_num, by rw [decide_eq_false (by omega)]; rfl, hOk2.out.symm, HA3.pick [1, 2, 3]⟩
                case measure => simp [intOf]; omega
        · obtain rfl : k = E.length := by omega
          rw [List.take_length] at hz
          have hz2 := Lib.hid (show (evsS (l.take (i + 1))).foldl (fun s x => stepS s x.time) ⟨sf, st, 1, 0⟩ = z by rw [hOn.out, hz])
          clear hz hOn
          obtain ⟨em, hem0⟩ : ∃ em, (!z.empty) = em := ⟨_, rfl⟩
          rw [hem0]
          have hem := Lib.hid hem0
          clear hem0
          go_wp2
          go_roundw
          case rel => exact ⟨i + 1, z, by omega, by go_num, by rw [hem.out], hz2.out.symm, HM.pick [1, 2]⟩
          case measure => simp [intOf]; omega
    · obtain rfl : i = l.length := by omega
      rw [List.take_length] at hs
      have hfin := Lib.hid (show manyS l = s by rw [hmany.out, hs])
      clear hs hmany
      obtain ⟨f0, t0, l0, g0⟩ := s
      have HL : St (fun _ => False) w wr [Blk bs #[.int .i64 f0, .int .i64 t0, .int .i64 l0, .int .i64 g0] 76, Blk br #[.int .i64 0, .int .i64 0, .int .i64 0, .int .i64 0] 76] := HL
      have e0 := HL.cell 0 0 rfl rfl
      have e1 := HL.cell 0 1 rfl rfl
      have e2 := HL.cell 0 2 rfl rfl
      have e3 := HL.cell 0 3 rfl rfl
      have r0 := HL.free 1 0 rfl
      have r1 := HL.free 1 1 rfl
      have r2 := HL.free 1 2 rfl
      have r3 := HL.free 1 3 rfl
      have x0 := HL.cell 1 0 rfl rfl
      have x1 := HL.cell 1 1 rfl rfl
      have x2 := HL.cell 1 2 rfl rfl
      have x3 := HL.cell 1 3 rfl rfl
      have HR := (((HL.set 1 rfl 0 (.int .i64 f0)).set 1 rfl 1 (.int .i64 t0)).set 1 rfl 2 (.int .i64 l0)).set 1 rfl 3 (.int .i64 g0)
      go_wp2
      try simp only [Exit.inBlock, Exit.then]
      refine bodyPost_ret (results_cell rfl rfl (blk_range (cs := [.int .i64 f0, .int .i64 t0, .int .i64 l0, .int .i64 g0]) (HR.blk 1 rfl)) Try.underlying76 rfl (by kernel_rfl)) rfl ?_
      rw [hfin.out]
      exact ⟨rfl, HR.below (Nat.le_refl _) (fun _ h => h.elim)⟩
end

end Go.Proofs.Ytbikjhmdpgoofaa
