import Derived.Test.YtiglgfonhdfpmaaGreatOs1
import Derived.Test.YtiglgfonhdfpmaaGreatOs2
import Derived.Test.YtiglgfonhdfpmaaGreatOs3
import Derived.Test.YtiglgfonhdfpmaaGreatOs4
import Derived.Test.YtiglgfonhdfpmaaGreatOs6
import Derived.Test.YtiglgfonhdfpmaaGreatOs14
import Derived.Test.YtiglgfonhdfpmaaGreatOs15
import Derived.Deep.CutBlock
import Derived.Lib.ItoaNum
import Derived.Lib.AtoiAll
import Derived.Lib.Split
import Derived.Lib.SplitLaws
import Derived.Lib.IndexLaws
import Derived.Lib.CountLaws
import Derived.SizedLaws
/- law05's Great, whatever the items' number (turned from LawW). -/
set_option linter.unusedVariables false
set_option linter.unusedSimpArgs false
namespace Go.Proofs.YtiglgfonhdfpmaaGreat
open Go.RowKit

theorem wrap_add (a b : Int) : IntKind.i64.wrap (IntKind.i64.wrap a + IntKind.i64.wrap b) = IntKind.i64.wrap (a + b) := by
  simp only [IntKind.wrap_i64]
  omega
theorem wrap_next (p q : Nat) : IntKind.i64.wrap (IntKind.i64.wrap (p : Int) + IntKind.i64.wrap (10 + (q : Int))) = IntKind.i64.wrap ((p + (10 + q) : Nat) : Int) := by
  rw [wrap_add]
  congr 1
set_option maxHeartbeats 1000000 in
theorem great5w {v : Value} {l : List Itm} (w : World) (hv : ItmsRO w v l) (hll : l.length ≤ 9223372036854775807) :
    Calls Tryz.prog 20 #[v] w fun e w' => e = .returned (.int .i64 (IntKind.i64.wrap (wt5 l))) ∧ Below w.heap.size w w' := by
  obtain ⟨ao, cap, rfl, hcap, hfit, hcell⟩ := hv
  have H0 : St (fun _ => False) w w [] := St.nil (fun _ => False) w
  go_enter Tryz.func20, Tryz.ntmps20
  go_upto_block 1 with (fail)
  go_loopw [3, 8] (fun n j wr => ∃ (i : Nat), i ≤ l.length ∧ n = .int .i64 (IntKind.i64.wrap (wt5 (l.take i))) ∧ j = .int .i64 i ∧ St (fun _ => False) w wr []) (fun _ j _ => l.length - (intOf j).toNat)
  case atStart => exact ⟨0, by omega, rfl, rfl, H0⟩
  case round =>
    clear H0
    obtain ⟨i, hi, rfl, rfl, HL⟩ := hrel
    by_cases hlt : i < l.length
    · obtain ⟨b, o, rfl, hb, hc⟩ := hcell (by rintro rfl; simp at hlt)
      obtain ⟨x, hx⟩ : ∃ x, l[i]? = some x := ⟨_, List.getElem?_eq_getElem hlt⟩
      have hn : wt5 (l.take (i + 1)) = wt5 (l.take i) + (10 + x.key.length) := by rw [take_snoc' hx, wt5_snoc]
      obtain ⟨q0, q1, q2, q3⟩ := itm_cells (hc i x hx) (HL.kept.block b hb id)
      obtain ⟨T, hT⟩ : ∃ T, IntKind.i64.wrap (wt5 (l.take i)) = T := ⟨_, rfl⟩
      have hn2 : IntKind.i64.wrap (T + IntKind.i64.wrap (10 + (x.key.length : Int))) = IntKind.i64.wrap (wt5 (l.take (i + 1))) := by
        rw [hn, ← hT]
        exact wrap_next _ _
      obtain ⟨T', hT'⟩ : ∃ T', IntKind.i64.wrap (wt5 (l.take (i + 1))) = T' := ⟨_, rfl⟩
      rw [hT'] at hn2
      obtain ⟨G, hG⟩ : ∃ G, IntKind.i64.wrap (10 + (x.key.length : Int)) = G := ⟨_, rfl⟩
      rw [hG] at hn2
      have hnh := Lib.hid hT'
      try rw [hT]
      clear hn hx hc hcell hT hfit hT'
      obtain ⟨k, key, t, v⟩ := x
      simp only at q0 q1 q2 q3 hG
      unfold textV at q1
      have hsz : ((key.toArray).size : Int) = key.length := by simp
      have HA : St (fun _ => False) w _ [_] := HL.allocAt rfl #[.int .i64 k, .string ⟨key.toArray⟩, .int .i64 t, .int .i64 v] 56
      go_upto_region 5 with (fail)
      obtain ⟨wa, hwa⟩ : ∃ wa, wr.alloc (.cells #[.int .i64 k, .string ⟨key.toArray⟩, .int .i64 t, .int .i64 v] 56) = wa := ⟨_, rfl⟩
      obtain ⟨ob, hob⟩ : ∃ ob, wr.heap.size = ob := ⟨_, rfl⟩
      rw [hwa, hob] at HA
      try rw [hwa]
      try simp only [hob]
      clear hwa hob q0 q1 q2 q3 HL
      have d1 := HA.cell 0 1 rfl rfl
      go_wp2
      go_roundw
      case rel =>
        refine ⟨i + 1, by omega, ?_, by go_num, HA.pick []⟩
        rw [hnh.out]
        first | rfl | (go_num; done) | skip
      case measure => simp [intOf]; omega
    · obtain rfl : i = l.length := by omega
      rw [List.take_length]
      go_wp2
      go_ret
      exact ⟨rfl, HL.below (Nat.le_refl _) (fun _ h => h.elim)⟩

end Go.Proofs.YtiglgfonhdfpmaaGreat

/- OperHolds' walk. Condition: the items can be read; so many. (Printed by a program of mine.) -/
set_option linter.unusedVariables false
set_option linter.unusedSimpArgs false
namespace Go.Proofs.YtiglgfonhdfpmaaGreat
open Go.RowKit

set_option maxHeartbeats 16000000 in
set_option maxRecDepth 100000 in
theorem holds_walk (qq : Qry) (l : List Itm) {iv : Value} (w : World) (hi : ItmsRO w iv l) (hil : l.length ≤ 3518437208880) :
    Calls Tryz.prog 5 #[qyV qq, iv] w fun e w' => e = .returned (.bool true) ∧ Below w.heap.size w w' := by
  have kf := fun w' => first10 w'
  have kg := fun w' (hk : Kept (fun _ => False) w w') => great5w w' (hi.later hk) (by omega)
  have kq := fun w' => doc_qright qq w'
  have knew := fun w' => new_below w'
  have kst := Lib.hid (fun (st : Stt) (x : Itm) (v : Value) w' (hv : PnsRO w' v st.panes) (hl : st.panes.length ≤ 1073741824) (hf : ∀ p ∈ st.panes, p.fits) (hx : x.fits) => oper_step qq st x w' hv hl hf hx)
  have ksame := Lib.hid (fun (st : Stt) (v v' : Value) w' (hv : PnsRO w' v st.panes) (hv' : PnsRO w' v' st.panes) (hl : st.panes.length ≤ 1073741824) (hf : ∀ p ∈ st.panes, p.fits) => oper_same st w' hv hv' hl hf)
  have kright := Lib.hid (fun (st : Stt) (v : Value) w' (hv : PnsRO w' v st.panes) (hl : st.panes.length ≤ 1073741824) (hf : ∀ p ∈ st.panes, p.fits) => oper_right qq st w' hv hl hf)
  have kval := Lib.hid (fun (g : Ag) (hv : Value) w' (hr : IntsRO w' hv g.top) (hg : g.right qq = true) => agg_val qq g w' hr hg)
  have hgood := Lib.hid (fun (st : Stt) (x : Itm) (h : (stepM qq st x).e = 0) => And.intro (step_good h) (step_right h))
  have hstop := Lib.hid (fun (st : Stt) (x : Itm) (h : (stepM qq st x).e ≠ 0) => step_stop h)
  have hvals := Lib.hid (fun (st : Stt) (x : Itm) => And.intro (step_outs qq st x) (step_vals (q := qq) (s := st) (x := x)))
  have hlate : qq.right = true → 0 ≤ qq.late ∧ qq.late ≤ 1073741824 := fun h => by
    unfold Qry.right at h
    simp only [Bool.and_eq_true, decide_eq_true_eq] at h
    exact h.1.1.2
  obtain ⟨ia, ic, rfl, hic, hifit, hix⟩ := hi
  have hixh := Lib.hid hix
  have hifith := Lib.hid hifit
  clear hifit hix
  unfold qyV qyC at kst kright kval kq
  unfold qyV qyC
  have H0 : St (fun _ => False) w _ [_] := (St.nil _ w).allocAt rfl #[.int .i64 qq.kind, .int .i64 qq.size, .int .i64 qq.slide, .int .i64 qq.late, .int .i64 qq.agg, .int .i64 qq.k] 23
  go_enter Tryz.func5, Tryz.ntmps5
  go_upto_region 1 with (fail)
  obtain ⟨qb, hqb⟩ : ∃ b, w.heap.size = b := ⟨_, rfl⟩
  obtain ⟨wa, hwa⟩ : ∃ z, w.alloc (.cells #[.int .i64 qq.kind, .int .i64 qq.size, .int .i64 qq.slide, .int .i64 qq.late, .int .i64 qq.agg, .int .i64 qq.k] 23) = z := ⟨_, rfl⟩
  rw [hwa, hqb] at H0
  try rw [hwa]
  try simp only [hqb]
  have H0b : St (fun _ => False) w wa [Blk qb #[.int .i64 qq.kind, .int .i64 qq.size, .int .i64 qq.slide, .int .i64 qq.late, .int .i64 qq.agg, .int .i64 qq.k] 23] := H0
  have hqbh := Lib.hid hqb
  clear hwa hqb H0
  go_upto_region 3 with (go_at_call 19; go_must (refine (St.callPast (kf _) H0b).mono ?_; rintro e wb ⟨rfl, H1⟩))
  obtain ⟨G, hG⟩ : ∃ G, IntKind.i64.wrap (wt5 l : Int) = G := ⟨_, rfl⟩
  rw [hG] at kg
  clear hG
  by_cases hgt : 1500 < G
  · have z : decide ((1500 : Int) < G) = true := by simpa using (by omega : (1500 : Int) < G)
    go_wp2_with (go_at_call 20; go_must (refine (St.callPast (kg _ H1.kept) H1).mono ?_; rintro e wc ⟨rfl, H2⟩))
    go_ret
    exact ⟨rfl, H2.below (Nat.le_refl _) (fun _ h => h.elim)⟩
  have z : decide ((1500 : Int) < G) = false := by simpa using (by omega : ¬ (1500 : Int) < G)
  obtain ⟨qr, hqr⟩ : ∃ z, qq.right = z := ⟨_, rfl⟩
  rw [hqr] at kq hlate
  have hqrh := Lib.hid hqr
  clear hqr
  cases qr with
  | false =>
    go_wp2_with (first
      | (go_at_call 20; go_must (refine (St.callPast (kg _ H1.kept) H1).mono ?_; rintro e wc ⟨rfl, H2⟩; have c0 := H2.cell 0 0 rfl rfl; have c1 := H2.cell 0 1 rfl rfl; have c2 := H2.cell 0 2 rfl rfl; have c3 := H2.cell 0 3 rfl rfl; have c4 := H2.cell 0 4 rfl rfl; have c5 := H2.cell 0 5 rfl rfl))
      | (go_at_call 16; go_must (refine (St.callPast (kq _) H2).mono ?_; rintro e wd ⟨rfl, H3⟩)))
    go_ret
    exact ⟨rfl, H3.below (Nat.le_refl _) (fun _ h => h.elim)⟩
  | true =>
  obtain ⟨hla, hlb⟩ := hlate rfl
  clear hlate
  go_upto_region 5 with (first
      | (go_at_call 20; go_must (refine (St.callPast (kg _ H1.kept) H1).mono ?_; rintro e wc ⟨rfl, H2⟩; have c0 := H2.cell 0 0 rfl rfl; have c1 := H2.cell 0 1 rfl rfl; have c2 := H2.cell 0 2 rfl rfl; have c3 := H2.cell 0 3 rfl rfl; have c4 := H2.cell 0 4 rfl rfl; have c5 := H2.cell 0 5 rfl rfl))
      | (go_at_call 16; go_must (refine (St.callPast (kq _) H2).mono ?_; rintro e wd ⟨rfl, H3⟩)))
  clear H0b H1 c0 c1 c2 c3 c4 c5 H2 kf kg kq z hgt
  go_upto_block 1 with (first
    | (go_at_call 22; go_must (refine (St.callPast (knew _) H3).mono ?_; rintro e w5 ⟨rfl, H4⟩; have H5 := H4.allocAt rfl #[.int .i64 0, .slice none 0 0] 45))
    | ((with_reducible show Go.wpList _ _ _ (Oper.mk none (Op.store 45 (Operand.tmp 5) _) _ _ _ _ :: _) _ _); go_must (refine St.list_store H5 0 rfl rfl 45 (.tmp 5) (.tmp 26) rfl #[.int .i64 (-1), .slice none 0 0] rfl rfl (by kernel_rfl) rfl (by simp [Value.oneCell']) ?_; intro w6 H6 hzw6; clear hzw6)))
  obtain ⟨sb, hsb⟩ : ∃ z, w5.heap.size = z := ⟨_, rfl⟩
  rw [hsb] at H6
  try simp only [hsb]
  have H7 : St (fun _ => False) w w6 [Blk sb #[.int .i64 (-1), .slice none 0 0] 45, Row 68 8 (.slice none 0 0) 0 (encP.all []), Pool [], Blk qb #[.int .i64 qq.kind, .int .i64 qq.size, .int .i64 qq.slide, .int .i64 qq.late, .int .i64 qq.agg, .int .i64 qq.k] 23] := (St.pool_nil (St.row_nil (l := [Blk sb #[.int .i64 (-1), .slice none 0 0] 45, Blk qb #[.int .i64 qq.kind, .int .i64 qq.size, .int .i64 qq.slide, .int .i64 qq.late, .int .i64 qq.agg, .int .i64 qq.k] 23]) H6 68 8)).pick [2, 1, 0, 3]
  clear H3 H4 H5 H6 hsb knew
  go_loopw [7, 8, 9, 10, 12, 13, 15, 29] (fun _ _ _ _ _ _ _ j wr => ∃ (i : Nat) (st : Stt) (ms1 : List Pm) (HH : List (Value × List Int)) (pa : Option Addr) (pc : Nat), i ≤ l.length ∧ j = .int .i64 i ∧ Hid (ms1.map (·.p) = st.panes ∧ (∀ m ∈ ms1, Pm.own m ∈ HH) ∧ st.panes.length ≤ 1073741824 ∧ (∀ p ∈ st.panes, p.fits)) ∧ St (fun _ => False) w wr [Blk sb #[.int .i64 st.mark, .slice pa ms1.length pc] 45, Row 68 8 (.slice pa ms1.length pc) ms1.length (encP.all ms1), Pool HH, Blk qb #[.int .i64 qq.kind, .int .i64 qq.size, .int .i64 qq.slide, .int .i64 qq.late, .int .i64 qq.agg, .int .i64 qq.k] 23]) (fun _ _ _ _ _ _ _ j _ => l.length - (intOf j).toNat)
  case atStart => exact ⟨0, ⟨-1, []⟩, [], [], none, 0, Nat.zero_le _, rfl, Lib.hid ⟨rfl, by simp, by simp, by simp⟩, H7⟩
  case round =>
    clear H7
    obtain ⟨i, st, ms1, HH, pa, pc, hi, rfl, hall, HM⟩ := hrel
    by_cases hlt : i < l.length
    · obtain ⟨bi, oi, rfl, hbi, hcx⟩ := hixh.out (by intro e; rw [e] at hlt; simp at hlt)
      obtain ⟨x, hx⟩ : ∃ x, l[i]? = some x := ⟨_, List.getElem?_eq_getElem hlt⟩
      have hxf := hifith.out x (List.mem_of_getElem? hx)
      have hst := kst.out st x (.slice pa ms1.length pc)
      have hgd := hgood.out st x
      have hsp := hstop.out st x
      have hva := hvals.out st x
      obtain ⟨R, hR⟩ : ∃ z, stepM qq st x = z := ⟨_, rfl⟩
      rw [hR] at hst hgd hsp hva
      clear hR
      have hgdh := Lib.hid hgd
      have hsph := Lib.hid hsp
      have hvah := Lib.hid hva
      obtain ⟨hms1, hmo1, hpl1, hpf1⟩ := hall.out
      have hms1h := Lib.hid hms1
      have hmo1h := Lib.hid hmo1
      have hpl1h := Lib.hid hpl1
      have hpf1h := Lib.hid hpf1
      have hro : ∀ w' (L : List SP), St (fun _ => False) w w' L → ∀ a b : Nat, L[a]? = some (Row 68 8 (.slice pa ms1.length pc) ms1.length (encP.all ms1)) → L[b]? = some (Pool HH) → PnsRO w' (.slice pa ms1.length pc) st.panes := fun w' L h a b ha hb => by
        rw [← hms1h.out]
        exact h.pnsRO a b ha hb hmo1h.out
      have hroh := Lib.hid hro
      have kstp := Lib.hid (fun w' hv => hst w' hv hpl1 hpf1 hxf)
      have ksm0 := fun w' (v' : Value) (hv : PnsRO w' (.slice pa ms1.length pc) st.panes) (hv' : PnsRO w' v' st.panes) => ksame.out st (.slice pa ms1.length pc) v' w' hv hv' hpl1 hpf1
      obtain ⟨x0, x1, x2, x3⟩ := itm_cells (hcx i x hx) (HM.kept.block bi hbi id)
      clear hgd hsp hva hms1 hmo1 hpl1 hpf1 hro hcx hst hx hxf
      obtain ⟨smk, hsmk⟩ : ∃ z, st.mark = z := ⟨_, rfl⟩
      rw [hsmk] at HM kstp
      simp only [hsmk] at ksm0
      have hsmkh := Lib.hid hsmk
      clear hsmk
      obtain ⟨xk, xy, xt, xv⟩ := x
      unfold textV at x1
      unfold itmV textV at kstp
      simp only at x0 x1 x2 x3 kstp
      have HA : St (fun _ => False) w _ (_ :: _) := HM.allocAt rfl #[.int .i64 0, .string ⟨#[]⟩, .int .i64 0, .int .i64 0] 56
      go_upto_region 9 with ((with_reducible show Go.wpList _ _ _ (Oper.mk none (Op.store 56 (Operand.tmp 7) _) _ _ _ _ :: _) _ _); go_must (refine St.list_store HA 0 rfl rfl 56 (.tmp 7) (.tmp 32) rfl #[.int .i64 xk, .string ⟨xy.toArray⟩, .int .i64 xt, .int .i64 xv] rfl rfl (by kernel_rfl) rfl (by simp [Value.oneCell']) ?_; intro wb HB hzwb; clear hzwb))
      obtain ⟨xb, hxb⟩ : ∃ xb, wr.heap.size = xb := ⟨_, rfl⟩
      rw [hxb] at HB
      try simp only [hxb]
      have HB : St (fun _ => False) w wb [Blk xb #[.int .i64 xk, .string ⟨xy.toArray⟩, .int .i64 xt, .int .i64 xv] 56, Blk sb #[.int .i64 smk, .slice pa ms1.length pc] 45, Row 68 8 (.slice pa ms1.length pc) ms1.length (encP.all ms1), Pool HH, Blk qb #[.int .i64 qq.kind, .int .i64 qq.size, .int .i64 qq.slide, .int .i64 qq.late, .int .i64 qq.agg, .int .i64 qq.k] 23] := HB
      clear hxb x0 x1 x2 x3 HM HA
      have d0 := HB.cell 4 0 rfl rfl
      have d1 := HB.cell 4 1 rfl rfl
      have d2 := HB.cell 4 2 rfl rfl
      have d3 := HB.cell 4 3 rfl rfl
      have d4 := HB.cell 4 4 rfl rfl
      have d5 := HB.cell 4 5 rfl rfl
      have s0 := HB.cell 1 0 rfl rfl
      have s1 := HB.cell 1 1 rfl rfl
      have y0 := HB.cell 0 0 rfl rfl
      have y1 := HB.cell 0 1 rfl rfl
      have y2 := HB.cell 0 2 rfl rfl
      have y3 := HB.cell 0 3 rfl rfl
      obtain ⟨⟨mk2, ps2⟩, O2, e2⟩ := R
      simp only at hgdh hsph hvah
      go_upto_region 10 with (first
        | (go_at_call 27; go_must (refine (kstp.out wb (hroh.out wb _ HB 2 3 rfl rfl)).mono ?_; rintro e w3 ⟨hs, ho, ms2, os2, H2, rfl, hm2, ho2, hmo2, hoo2, G1⟩; have hm2h := Lib.hid hm2; have ho2h := Lib.hid ho2; have hmo2h := Lib.hid hmo2; have hoo2h := Lib.hid hoo2; clear hm2 ho2 hmo2 hoo2; obtain ⟨p2, c2, rfl, -, -⟩ := slice_form' (G1.row 0 rfl); obtain ⟨o2, k2, rfl, -, -⟩ := slice_form' (G1.row 1 rfl); have HC := (HB.call0 G1).allocAt rfl #[.int .i64 0, .slice none 0 0] 45))
        | ((with_reducible show Go.wpList _ _ _ (Oper.mk none (Op.store 45 (Operand.tmp 8) _) _ _ _ _ :: _) _ _); go_must (refine St.list_store HC 0 rfl rfl 45 (.tmp 8) (.tmp 38) rfl #[.int .i64 mk2, .slice p2 ms2.length c2] rfl rfl (by kernel_rfl) rfl (by simp [Value.oneCell']) ?_; intro w4 HD hzw4; clear hzw4)))
      obtain ⟨tb, htb⟩ : ∃ z, w3.heap.size = z := ⟨_, rfl⟩
      rw [htb] at HD
      try simp only [htb]
      have HD : St (fun _ => False) w w4 [Blk tb #[.int .i64 mk2, .slice p2 ms2.length c2] 45, Row 68 8 (.slice p2 ms2.length c2) ms2.length (encP.all ms2), Row 63 10 (.slice o2 os2.length k2) os2.length (encO.all os2), Pool H2, Blk xb #[.int .i64 xk, .string ⟨xy.toArray⟩, .int .i64 xt, .int .i64 xv] 56, Blk sb #[.int .i64 smk, .slice pa ms1.length pc] 45, Row 68 8 (.slice pa ms1.length pc) ms1.length (encP.all ms1), Pool HH, Blk qb #[.int .i64 qq.kind, .int .i64 qq.size, .int .i64 qq.slide, .int .i64 qq.late, .int .i64 qq.agg, .int .i64 qq.k] 23] := HD
      clear htb HC HB G1 d0 d1 d2 d3 d4 d5 s0 s1 y0 y1 y2 y3 kstp
      have hr2 : ∀ w' (L : List SP), St (fun _ => False) w w' L → ∀ a b : Nat, L[a]? = some (Row 68 8 (.slice p2 ms2.length c2) ms2.length (encP.all ms2)) → L[b]? = some (Pool H2) → PnsRO w' (.slice p2 ms2.length c2) ps2 := fun w' L h a b ha hb => by
        rw [← show ms2.map (·.p) = ps2 from hm2h.out]
        exact h.pnsRO a b ha hb hmo2h.out
      have hosl : os2.length ≤ 256 := by
        have := hvah.out.1
        rw [← show os2.map (·.o) = O2 from ho2h.out, List.length_map] at this
        exact this
      by_cases he : e2 = 0
      · subst he
        obtain ⟨⟨-, -, hgg, hgl⟩, hrt, hmono, hou⟩ := hgdh.out rfl
        have hmsl : ms2.length ≤ 256 := by
          have := hgl
          try simp only at this
          rw [← show ms2.map (·.p) = ps2 from hm2h.out, List.length_map] at this
          exact this
        have hggh := Lib.hid hgg
        have hrth := Lib.hid hrt
        have houh := Lib.hid hou
        have krr := fun w' (hv : PnsRO w' (.slice p2 ms2.length c2) ps2) => kright.out ⟨mk2, ps2⟩ _ w' hv (by (try simp only at hgl ⊢); omega) (good_fits hggh.out)
        rw [hrt] at krr
        simp only at krr hmono
        have hr2h := Lib.hid hr2
        have zm : decide (mk2 < smk) = false := by
          have := hsmkh.out
          simp only [decide_eq_false_iff_not]
          omega
        have hmkb := hrth.out
        obtain ⟨-, hmkb, -, -, -, -⟩ := right_parts hmkb
        simp only at hmkb
        clear hgg hrt hou hgdh hsph hr2
        have d0 := HD.cell 8 0 rfl rfl
        have d1 := HD.cell 8 1 rfl rfl
        have d2 := HD.cell 8 2 rfl rfl
        have d3 := HD.cell 8 3 rfl rfl
        have d4 := HD.cell 8 4 rfl rfl
        have d5 := HD.cell 8 5 rfl rfl
        have t0 := HD.cell 0 0 rfl rfl
        have t1 := HD.cell 0 1 rfl rfl
        have s0 := HD.cell 5 0 rfl rfl
        have s1 := HD.cell 5 1 rfl rfl
        go_upto_block 3 with (go_at_call 29; go_must (refine (St.callPast (krr _ (hr2h.out _ _ HD 1 3 rfl rfl)) HD).mono ?_; rintro e w5 ⟨rfl, HE⟩; have t0 := HE.cell 0 0 rfl rfl; have t1 := HE.cell 0 1 rfl rfl; have s0 := HE.cell 5 0 rfl rfl; have s1 := HE.cell 5 1 rfl rfl))
        clear HD krr d0 d1 d2 d3 d4 d5 t0 t1 s0 s1 zm
        go_loopw [12, 13, 15, 65] (fun _ _ _ j wr => ∃ (k : Nat), k ≤ os2.length ∧ j = .int .i64 k ∧ St (fun _ => False) w wr [Blk tb #[.int .i64 mk2, .slice p2 ms2.length c2] 45, Row 68 8 (.slice p2 ms2.length c2) ms2.length (encP.all ms2), Row 63 10 (.slice o2 os2.length k2) os2.length (encO.all os2), Pool H2, Blk xb #[.int .i64 xk, .string ⟨xy.toArray⟩, .int .i64 xt, .int .i64 xv] 56, Blk sb #[.int .i64 smk, .slice pa ms1.length pc] 45, Row 68 8 (.slice pa ms1.length pc) ms1.length (encP.all ms1), Pool HH, Blk qb #[.int .i64 qq.kind, .int .i64 qq.size, .int .i64 qq.slide, .int .i64 qq.late, .int .i64 qq.agg, .int .i64 qq.k] 23]) (fun _ _ _ j _ => os2.length - (intOf j).toNat)
        case atStart => exact ⟨0, Nat.zero_le _, rfl, HE⟩
        case round =>
          clear HE
          obtain ⟨k, hk, rfl, HK⟩ := hrel
          by_cases hlk : k < os2.length
          · obtain ⟨ao, cp, eo, -, hro2⟩ := Enc.own encO (HK.row 2 rfl) rfl
            simp only [Value.slice.injEq, true_and] at eo
            obtain ⟨eo1, eo2⟩ := eo
            subst eo1 eo2
            obtain ⟨bo, oo, rfl, hbo, hcx⟩ := hro2 (by intro e; rw [e] at hlk; simp at hlk)
            obtain ⟨y, hy⟩ : ∃ y, os2[k]? = some y := ⟨_, List.getElem?_eq_getElem hlk⟩
            have hym : y.o ∈ O2 := by
              rw [← show os2.map (·.o) = O2 from ho2h.out]
              exact List.mem_map_of_mem (List.mem_of_getElem? hy)
            have hyo := hoo2h.out y (List.mem_of_getElem? hy)
            have hyv := hvah.out.2 y.o hym
            have hyq := houh.out y.o hym
            have hyoh := Lib.hid hyo
            obtain ⟨q0, q1, q2, q3, q4, q5, q6, q7, q8, q9⟩ := ot_cells (hcx k y hy) rfl
            have hlk2 : (k : Int) < (os2.length : Int) := by omega
            clear hcx hro2 hy hym hyo
            obtain ⟨⟨ol, ⟨ik, iy, it, iw⟩, ⟨wk, wf, wt⟩, rd, vs⟩, va, vc⟩ := y
            try unfold Om.hd at q9
            simp only at q0 q1 q2 q3 q4 q5 q6 q7 q8 q9 hyq hyv
            unfold textV at q2 q5
            have hyqh := Lib.hid hyq
            clear hyq
            have HA2 : St (fun _ => False) w _ (_ :: _) := HK.allocAt rfl #[.bool false, .int .i64 0, .string ⟨#[]⟩, .int .i64 0, .int .i64 0, .string ⟨#[]⟩, .int .i64 0, .int .i64 0, .int .i64 0, .slice none 0 0] 63
            go_upto_region 18 with ((with_reducible show Go.wpList _ _ _ (Oper.mk none (Op.store 63 (Operand.tmp 12) _) _ _ _ _ :: _) _ _); go_must (refine St.list_store HA2 0 rfl rfl 63 (.tmp 12) (.tmp 68) rfl #[.bool ol, .int .i64 ik, .string ⟨iy.toArray⟩, .int .i64 it, .int .i64 iw, .string ⟨wk.toArray⟩, .int .i64 wf, .int .i64 wt, .int .i64 rd, .slice va vs.length vc] rfl rfl (by kernel_rfl) rfl (by simp [Value.oneCell']) ?_; intro wo HO hzwo; clear hzwo))
            obtain ⟨ob, hob⟩ : ∃ z, wr.heap.size = z := ⟨_, rfl⟩
            rw [hob] at HO
            try simp only [hob]
            have HO : St (fun _ => False) w wo [Blk ob #[.bool ol, .int .i64 ik, .string ⟨iy.toArray⟩, .int .i64 it, .int .i64 iw, .string ⟨wk.toArray⟩, .int .i64 wf, .int .i64 wt, .int .i64 rd, .slice va vs.length vc] 63, Blk tb #[.int .i64 mk2, .slice p2 ms2.length c2] 45, Row 68 8 (.slice p2 ms2.length c2) ms2.length (encP.all ms2), Row 63 10 (.slice (some ⟨bo, oo, none⟩) os2.length k2) os2.length (encO.all os2), Pool H2, Blk xb #[.int .i64 xk, .string ⟨xy.toArray⟩, .int .i64 xt, .int .i64 xv] 56, Blk sb #[.int .i64 smk, .slice pa ms1.length pc] 45, Row 68 8 (.slice pa ms1.length pc) ms1.length (encP.all ms1), Pool HH, Blk qb #[.int .i64 qq.kind, .int .i64 qq.size, .int .i64 qq.slide, .int .i64 qq.late, .int .i64 qq.agg, .int .i64 qq.k] 23] := HO
            clear hob HA2 HK q0 q1 q2 q3 q4 q5 q6 q7 q8 q9
            have y0 := HO.cell 0 0 rfl rfl
            have y1 := HO.cell 0 1 rfl rfl
            have y2 := HO.cell 0 2 rfl rfl
            have y3 := HO.cell 0 3 rfl rfl
            have y4 := HO.cell 0 4 rfl rfl
            have y5 := HO.cell 0 5 rfl rfl
            have y6 := HO.cell 0 6 rfl rfl
            have y7 := HO.cell 0 7 rfl rfl
            have y8 := HO.cell 0 8 rfl rfl
            have y9 := HO.cell 0 9 rfl rfl
            have x0 := HO.cell 5 0 rfl rfl
            have x1 := HO.cell 5 1 rfl rfl
            have x2 := HO.cell 5 2 rfl rfl
            have x3 := HO.cell 5 3 rfl rfl
            have t0 := HO.cell 1 0 rfl rfl
            have t1 := HO.cell 1 1 rfl rfl
            have s0 := HO.cell 6 0 rfl rfl
            have s1 := HO.cell 6 1 rfl rfl
            have d0 := HO.cell 9 0 rfl rfl
            have d1 := HO.cell 9 1 rfl rfl
            have d2 := HO.cell 9 2 rfl rfl
            have d3 := HO.cell 9 3 rfl rfl
            have d4 := HO.cell 9 4 rfl rfl
            have d5 := HO.cell 9 5 rfl rfl
            rcases hyqh.out with ⟨hla, hsame⟩ | ⟨⟨hol, hwr⟩, hto, hrd, hfound⟩
            · simp only [lateO, Ot.mk.injEq, Itm.mk.injEq] at hla
              obtain ⟨rfl, ⟨rfl, rfl, rfl, rfl⟩, -, -, -⟩ := hla
              have hps : ps2 = st.panes := by rw [← hsame]
              have hmk : mk2 = smk := by rw [← hsmkh.out, ← hsame]
              have hr3h := Lib.hid (fun w' (L : List SP) (h : St (fun _ => False) w w' L) (a b : Nat) ha hb => hps ▸ hr2h.out w' L h a b ha hb)
              clear hsame hyqh
              subst hmk
              have ksm := ksm0
              clear hps
              go_wp2_with (go_at_call 28; go_must (refine (St.callPast (ksm _ _ (hroh.out _ _ HO 7 8 rfl rfl) (hr3h.out _ _ HO 2 4 rfl rfl)) HO).mono ?_; rintro e w7 ⟨rfl, HP⟩))
              go_roundw
              case rel => exact ⟨k + 1, by omega, by go_num, HP.pick [1, 2, 3, 4, 5, 6, 7, 8, 9]⟩
              case measure => simp [intOf]; omega
            · subst hol
              have hfh := Lib.hid hfound
              have hwi := right_iff.1 hwr
              have hwi1 : 0 ≤ wt ∧ wt ≤ 4398046511104 := by
                have := hwi.2
                simp only at this
                omega
              have hwp : IntKind.i64.wrap (wt + qq.late) = wt + qq.late := by rw [IntKind.wrap_i64]; omega
              obtain ⟨F, hF⟩ : ∃ F, decide (wt + qq.late ≤ mk2) = F := ⟨_, rfl⟩
              have hFh := Lib.hid hF
              have zto : decide (mk2 < wt) = false := by simp only [decide_eq_false_iff_not]; simp only at hto; omega
              have zrd : decide (rd < 1) = false := by simp only [decide_eq_false_iff_not]; simp only at hrd; omega
              clear hfound hwi hyqh
              go_upto_block 5 with (fail)
              clear hF hwp
              go_loopw [13, 15, 93] (fun p13 _ j wr => ∃ (j' : Nat) (F' : Bool), j' ≤ ms2.length ∧ p13 = .bool F' ∧ j = .int .i64 j' ∧ Hid (F' = false → ¬ (wt + qq.late ≤ mk2) ∧ ∀ (a : Nat) m, a < j' → ms2[a]? = some m → m.p.w ≠ ⟨wk, wf, wt⟩) ∧ St (fun _ => False) w wr [Blk ob #[.bool false, .int .i64 ik, .string ⟨iy.toArray⟩, .int .i64 it, .int .i64 iw, .string ⟨wk.toArray⟩, .int .i64 wf, .int .i64 wt, .int .i64 rd, .slice va vs.length vc] 63, Blk tb #[.int .i64 mk2, .slice p2 ms2.length c2] 45, Row 68 8 (.slice p2 ms2.length c2) ms2.length (encP.all ms2), Row 63 10 (.slice (some ⟨bo, oo, none⟩) os2.length k2) os2.length (encO.all os2), Pool H2, Blk xb #[.int .i64 xk, .string ⟨xy.toArray⟩, .int .i64 xt, .int .i64 xv] 56, Blk sb #[.int .i64 smk, .slice pa ms1.length pc] 45, Row 68 8 (.slice pa ms1.length pc) ms1.length (encP.all ms1), Pool HH, Blk qb #[.int .i64 qq.kind, .int .i64 qq.size, .int .i64 qq.slide, .int .i64 qq.late, .int .i64 qq.agg, .int .i64 qq.k] 23]) (fun _ _ j _ => ms2.length - (intOf j).toNat)
              case atStart => exact ⟨0, F, Nat.zero_le _, rfl, rfl, Lib.hid (fun h => ⟨of_decide_eq_false (hFh.out.trans h), fun a m ha => by omega⟩), HO⟩
              case round =>
                clear HO y0 y1 y2 y3 y4 y5 y6 y7 y8 y9 x0 x1 x2 x3 t0 t1 s0 s1 d0 d1 d2 d3 d4 d5
                obtain ⟨j, F', hj, rfl, rfl, hno, HL⟩ := hrel
                by_cases hlj : j < ms2.length
                · obtain ⟨ao, cp, eo, -, hro2⟩ := Enc.own encP (HL.row 2 rfl) rfl
                  simp only [Value.slice.injEq, true_and] at eo
                  obtain ⟨eo1, eo2⟩ := eo
                  subst eo1 eo2
                  obtain ⟨bp, op, rfl, hbp, hcx⟩ := hro2 (by intro e; rw [e] at hlj; simp at hlj)
                  obtain ⟨m, hm⟩ : ∃ y, ms2[j]? = some y := ⟨_, List.getElem?_eq_getElem hlj⟩
                  have hmm : m.p ∈ ps2 := by
                    rw [← show ms2.map (·.p) = ps2 from hm2h.out]
                    exact List.mem_map_of_mem (List.mem_of_getElem? hm)
                  have hmr := (hggh.out m.p hmm).1
                  have hmo := hmo2h.out m (List.mem_of_getElem? hm)
                  have heq : ¬ (wt + qq.late ≤ mk2) → m.p.w = ⟨wk, wf, wt⟩ → m.p.round = rd ∧ valueM qq m.p.g = vs := fun h1 h2 => by
                    rcases hfh.out with h3 | ⟨p, hp, g1, g2, g3⟩
                    · exact absurd h3 h1
                    · have : p = m.p := by
                        obtain ⟨-, -, -, -, hord, -⟩ := right_parts hrth.out
                        have hpw := ord_ne hord
                        obtain ⟨a, ha⟩ := List.getElem?_of_mem hp
                        obtain ⟨b, hb⟩ := List.getElem?_of_mem hmm
                        obtain ⟨ha1, ha2⟩ := List.getElem?_eq_some_iff.1 ha
                        obtain ⟨hb1, hb2⟩ := List.getElem?_eq_some_iff.1 hb
                        rw [List.pairwise_iff_getElem] at hpw
                        rcases Nat.lt_trichotomy a b with hab | hab | hab
                        · exact absurd (by rw [ha2, hb2, g1, h2]) (hpw a b ha1 hb1 hab)
                        · subst hab
                          rw [ha] at hb
                          exact Option.some.inj hb
                        · exact absurd (by rw [ha2, hb2, g1, h2]) (hpw b a hb1 ha1 hab)
                      rw [← this]
                      exact ⟨g2, g3⟩
                  obtain ⟨q0, q1, q2, q3, q4, q5, q6, q7⟩ := pn_cells (hcx j m hm) rfl
                  have hlj2 : (j : Int) < (ms2.length : Int) := by omega
                  have hmrh := Lib.hid hmr
                  have hmoh := Lib.hid hmo
                  have heqh := Lib.hid heq
                  have hmh := Lib.hid hm
                  clear hcx hro2 hm hmm hmr hmo heq
                  obtain ⟨⟨⟨pk, pf, pt⟩, ⟨gn, ga, gt, gx, gy⟩, rr⟩, xa, xc⟩ := m
                  try unfold Pm.hd at q5
                  simp only at q0 q1 q2 q3 q4 q5 q6 q7
                  unfold textV at q0
                  have kv := fun w' h => kval.out ⟨gn, ga, gt, gx, gy⟩ (.slice xa gt.length xc) w' h hmrh.out
                  unfold agV agC at kv
                  simp only at kv
                  obtain ⟨X, hX⟩ : ∃ X, ib gx = X := ⟨_, rfl⟩
                  obtain ⟨Y, hY⟩ : ∃ Y, ib gy = Y := ⟨_, rfl⟩
                  simp only [hX, hY] at kv q6
                  clear hX hY
                  have HA3 : St (fun _ => False) w _ (_ :: _) := HL.allocAt rfl #[.string ⟨#[]⟩, .int .i64 0, .int .i64 0, .int .i64 0, .int .i64 0, .slice none 0 0, .complex .f64 0 0, .int .i64 0] 68
                  go_upto_region 25 with ((with_reducible show Go.wpList _ _ _ (Oper.mk none (Op.store 68 (Operand.tmp 15) _) _ _ _ _ :: _) _ _); go_must (refine St.list_store HA3 0 rfl rfl 68 (.tmp 15) (.tmp 96) rfl #[.string ⟨pk.toArray⟩, .int .i64 pf, .int .i64 pt, .int .i64 gn, .int .i64 ga, .slice xa gt.length xc, .complex .f64 X Y, .int .i64 rr] rfl rfl (by kernel_rfl) rfl (by simp [Value.oneCell']) ?_; intro wp HP hzwp; clear hzwp))
                  obtain ⟨pb, hpb⟩ : ∃ z, wr.heap.size = z := ⟨_, rfl⟩
                  rw [hpb] at HP
                  try simp only [hpb]
                  have HP : St (fun _ => False) w wp [Blk pb #[.string ⟨pk.toArray⟩, .int .i64 pf, .int .i64 pt, .int .i64 gn, .int .i64 ga, .slice xa gt.length xc, .complex .f64 X Y, .int .i64 rr] 68, Blk ob #[.bool false, .int .i64 ik, .string ⟨iy.toArray⟩, .int .i64 it, .int .i64 iw, .string ⟨wk.toArray⟩, .int .i64 wf, .int .i64 wt, .int .i64 rd, .slice va vs.length vc] 63, Blk tb #[.int .i64 mk2, .slice (some ⟨bp, op, none⟩) ms2.length c2] 45, Row 68 8 (.slice (some ⟨bp, op, none⟩) ms2.length c2) ms2.length (encP.all ms2), Row 63 10 (.slice (some ⟨bo, oo, none⟩) os2.length k2) os2.length (encO.all os2), Pool H2, Blk xb #[.int .i64 xk, .string ⟨xy.toArray⟩, .int .i64 xt, .int .i64 xv] 56, Blk sb #[.int .i64 smk, .slice pa ms1.length pc] 45, Row 68 8 (.slice pa ms1.length pc) ms1.length (encP.all ms1), Pool HH, Blk qb #[.int .i64 qq.kind, .int .i64 qq.size, .int .i64 qq.slide, .int .i64 qq.late, .int .i64 qq.agg, .int .i64 qq.k] 23] := HP
                  clear hpb HA3 HL q0 q1 q2 q3 q4 q5 q6 q7
                  cases F' with
                  | true =>
                    refine wp_calm (fun w' => St (fun _ => False) w w' [Blk pb #[.string ⟨pk.toArray⟩, .int .i64 pf, .int .i64 pt, .int .i64 gn, .int .i64 ga, .slice xa gt.length xc, .complex .f64 X Y, .int .i64 rr] 68, Blk ob #[.bool false, .int .i64 ik, .string ⟨iy.toArray⟩, .int .i64 it, .int .i64 iw, .string ⟨wk.toArray⟩, .int .i64 wf, .int .i64 wt, .int .i64 rd, .slice va vs.length vc] 63, Blk tb #[.int .i64 mk2, .slice (some ⟨bp, op, none⟩) ms2.length c2] 45, Row 68 8 (.slice (some ⟨bp, op, none⟩) ms2.length c2) ms2.length (encP.all ms2), Row 63 10 (.slice (some ⟨bo, oo, none⟩) os2.length k2) os2.length (encO.all os2), Pool H2, Blk xb #[.int .i64 xk, .string ⟨xy.toArray⟩, .int .i64 xt, .int .i64 xv] 56, Blk sb #[.int .i64 smk, .slice pa ms1.length pc] 45, Row 68 8 (.slice pa ms1.length pc) ms1.length (encP.all ms1), Pool HH, Blk qb #[.int .i64 qq.kind, .int .i64 qq.size, .int .i64 qq.slide, .int .i64 qq.late, .int .i64 qq.agg, .int .i64 qq.k] 23]) (by kernel_rfl) (by kernel_rfl) (HP.drew) ?_
                    iterate 25 first
                      | (apply calm_pass
                         · rfl
                         intro K hK
                         go_simp
                         refine hK _ ?_
                         clear hK K)
                      | (apply calm_step
                         · rfl
                         · intro w1 h1
                           (first | ((with_reducible show CameTo _ _ _ ((execOp _ (Oper.mk _ (Op.load _ _) _ _ _ _)).run _ _)); have p0 := h1.cell 0 0 rfl rfl; have p1 := h1.cell 0 1 rfl rfl; have p2 := h1.cell 0 2 rfl rfl; have p3 := h1.cell 0 3 rfl rfl; have p4 := h1.cell 0 4 rfl rfl; have p5 := h1.cell 0 5 rfl rfl; have p6 := h1.cell 0 6 rfl rfl; have p7 := h1.cell 0 7 rfl rfl; have y0 := h1.cell 1 0 rfl rfl; have y1 := h1.cell 1 1 rfl rfl; have y2 := h1.cell 1 2 rfl rfl; have y3 := h1.cell 1 3 rfl rfl; have y4 := h1.cell 1 4 rfl rfl; have y5 := h1.cell 1 5 rfl rfl; have y6 := h1.cell 1 6 rfl rfl; have y7 := h1.cell 1 7 rfl rfl; have y8 := h1.cell 1 8 rfl rfl; have y9 := h1.cell 1 9 rfl rfl; have c0 := h1.cell 10 0 rfl rfl; have c1 := h1.cell 10 1 rfl rfl; have c2 := h1.cell 10 2 rfl rfl; have c3 := h1.cell 10 3 rfl rfl; have c4 := h1.cell 10 4 rfl rfl; have c5 := h1.cell 10 5 rfl rfl) | skip)
                           first
                             | (go_simp
                                first
                                  | rfl
                                  | exact ⟨rfl, h1⟩
                               )
                         intro K hK
                         go_simp
                         refine hK _ ?_
                         clear hK K)
                    refine calm_nil ?_
                    intro w9 H9
                    go_wp2
                    go_roundw
                    case rel => exact ⟨j + 1, true, by omega, by first | rfl | go_num, by first | rfl | go_num, Lib.hid (fun h => by cases h), H9.pick [1, 2, 3, 4, 5, 6, 7, 8, 9, 10]⟩
                    case measure => simp [intOf]; omega
                  | false =>
                    by_cases hall2 : pk = wk ∧ pf = wf ∧ pt = wt
                    · obtain ⟨rfl, rfl, rfl⟩ := hall2
                      obtain ⟨hq1, hq2⟩ := heqh.out (hno.out rfl).1 rfl
                      simp only at hq1 hq2
                      subst hq1
                      have hq2h := Lib.hid hq2
                      have kin : ∀ w' (nv : Value), St (fun _ => False) w w' [Row 3 1 nv (valueM qq ⟨gn, ga, gt, gx, gy⟩).length (intCells (valueM qq ⟨gn, ga, gt, gx, gy⟩)), Blk pb #[.string ⟨pk.toArray⟩, .int .i64 pf, .int .i64 pt, .int .i64 gn, .int .i64 ga, .slice xa gt.length xc, .complex .f64 X Y, .int .i64 rr] 68, Blk ob #[.bool false, .int .i64 ik, .string ⟨iy.toArray⟩, .int .i64 it, .int .i64 iw, .string ⟨pk.toArray⟩, .int .i64 pf, .int .i64 pt, .int .i64 rr, .slice va vs.length vc] 63, Blk tb #[.int .i64 mk2, .slice (some ⟨bp, op, none⟩) ms2.length c2] 45, Row 68 8 (.slice (some ⟨bp, op, none⟩) ms2.length c2) ms2.length (encP.all ms2), Row 63 10 (.slice (some ⟨bo, oo, none⟩) os2.length k2) os2.length (encO.all os2), Pool H2, Blk xb #[.int .i64 xk, .string ⟨xy.toArray⟩, .int .i64 xt, .int .i64 xv] 56, Blk sb #[.int .i64 smk, .slice pa ms1.length pc] 45, Row 68 8 (.slice pa ms1.length pc) ms1.length (encP.all ms1), Pool HH, Blk qb #[.int .i64 qq.kind, .int .i64 qq.size, .int .i64 qq.slide, .int .i64 qq.late, .int .i64 qq.agg, .int .i64 qq.k] 23] → Calls Tryz.prog 30 #[nv, .slice va vs.length vc] w' fun e w'' => e = .returned (.bool true) ∧ Below w'.heap.size w' w'' := fun w' nv h => by
                        have hy : IntsRO w' (.slice va vs.length vc) vs := h.pool_get 6 rfl hyoh.out
                        have h1 := h.row 0 rfl
                        rw [hq2h.out] at h1
                        exact ref_ints (ints_own h1 (by obtain ⟨_, _, _, _, hr, _⟩ := hy; exact hr)) hy (by omega)
                      clear hq2
                      refine wp_script [(0, false), (1, false), (2, false), (3, false), (4, false), (5, false), (6, false), (7, false), (8, false), (9, false), (10, false), (11, false), (12, false), (13, false), (14, false), (15, false), (16, false), (17, false), (19, false), (20, false), (18, true), (21, false), (22, false), (23, false), (24, false)] (Fam fun w' => St (fun _ => False) w w' [Blk pb #[.string ⟨pk.toArray⟩, .int .i64 pf, .int .i64 pt, .int .i64 gn, .int .i64 ga, .slice xa gt.length xc, .complex .f64 X Y, .int .i64 rr] 68, Blk ob #[.bool false, .int .i64 ik, .string ⟨iy.toArray⟩, .int .i64 it, .int .i64 iw, .string ⟨pk.toArray⟩, .int .i64 pf, .int .i64 pt, .int .i64 rr, .slice va vs.length vc] 63, Blk tb #[.int .i64 mk2, .slice (some ⟨bp, op, none⟩) ms2.length c2] 45, Row 68 8 (.slice (some ⟨bp, op, none⟩) ms2.length c2) ms2.length (encP.all ms2), Row 63 10 (.slice (some ⟨bo, oo, none⟩) os2.length k2) os2.length (encO.all os2), Pool H2, Blk xb #[.int .i64 xk, .string ⟨xy.toArray⟩, .int .i64 xt, .int .i64 xv] 56, Blk sb #[.int .i64 smk, .slice pa ms1.length pc] 45, Row 68 8 (.slice pa ms1.length pc) ms1.length (encP.all ms1), Pool HH, Blk qb #[.int .i64 qq.kind, .int .i64 qq.size, .int .i64 qq.slide, .int .i64 qq.late, .int .i64 qq.agg, .int .i64 qq.k] 23]) (fun w' => St (fun _ => False) w w' [Blk pb #[.string ⟨pk.toArray⟩, .int .i64 pf, .int .i64 pt, .int .i64 gn, .int .i64 ga, .slice xa gt.length xc, .complex .f64 X Y, .int .i64 rr] 68, Blk ob #[.bool false, .int .i64 ik, .string ⟨iy.toArray⟩, .int .i64 it, .int .i64 iw, .string ⟨pk.toArray⟩, .int .i64 pf, .int .i64 pt, .int .i64 rr, .slice va vs.length vc] 63, Blk tb #[.int .i64 mk2, .slice (some ⟨bp, op, none⟩) ms2.length c2] 45, Row 68 8 (.slice (some ⟨bp, op, none⟩) ms2.length c2) ms2.length (encP.all ms2), Row 63 10 (.slice (some ⟨bo, oo, none⟩) os2.length k2) os2.length (encO.all os2), Pool H2, Blk xb #[.int .i64 xk, .string ⟨xy.toArray⟩, .int .i64 xt, .int .i64 xv] 56, Blk sb #[.int .i64 smk, .slice pa ms1.length pc] 45, Row 68 8 (.slice pa ms1.length pc) ms1.length (encP.all ms1), Pool HH, Blk qb #[.int .i64 qq.kind, .int .i64 qq.size, .int .i64 qq.slide, .int .i64 qq.late, .int .i64 qq.agg, .int .i64 qq.k] 23]) (by kernel_rfl) (by rfl) (by kernel_rfl) (by kernel_rfl) HP.drew (Fam.st (fun _ h => h.pick [0, 1, 2, 3, 4, 5, 6, 7, 8, 9, 10])) ?_
                      iterate 20 first
                        | (apply script_pass
                           · rfl
                           · rfl
                           intro K hK
                           go_simp
                           refine hK _ ?_
                           clear hK K)
                        | (apply script_step
                           · rfl
                           · rfl
                           · intro I hI w1 h1'
                             have h1 := hI.2 _ h1'
                             have p0 := h1.cell 0 0 rfl rfl
                             have p1 := h1.cell 0 1 rfl rfl
                             have p2 := h1.cell 0 2 rfl rfl
                             have p3 := h1.cell 0 3 rfl rfl
                             have p4 := h1.cell 0 4 rfl rfl
                             have p5 := h1.cell 0 5 rfl rfl
                             have p6 := h1.cell 0 6 rfl rfl
                             have p7 := h1.cell 0 7 rfl rfl
                             have y0 := h1.cell 1 0 rfl rfl
                             have y1 := h1.cell 1 1 rfl rfl
                             have y2 := h1.cell 1 2 rfl rfl
                             have y3 := h1.cell 1 3 rfl rfl
                             have y4 := h1.cell 1 4 rfl rfl
                             have y5 := h1.cell 1 5 rfl rfl
                             have y6 := h1.cell 1 6 rfl rfl
                             have y7 := h1.cell 1 7 rfl rfl
                             have y8 := h1.cell 1 8 rfl rfl
                             have y9 := h1.cell 1 9 rfl rfl
                             have c0 := h1.cell 10 0 rfl rfl
                             have c1 := h1.cell 10 1 rfl rfl
                             have c2 := h1.cell 10 2 rfl rfl
                             have c3 := h1.cell 10 3 rfl rfl
                             have c4 := h1.cell 10 4 rfl rfl
                             have c5 := h1.cell 10 5 rfl rfl
                             first
                               | (go_simp
                                  first
                                    | rfl
                                    | exact ⟨rfl, h1'⟩
                                 )
                           intro K hK
                           go_simp
                           refine hK _ ?_
                           clear hK K)
                      refine script_alone rfl rfl ?_
                      intro V hV w1 h1
                      go_simp
                      refine (kv w1 (h1.pool_get 5 rfl hmoh.out)).mono ?_
                      rintro e w2 ⟨nv, rfl, G1⟩
                      have HX : St (fun _ => False) w w2 [Row 3 1 nv (valueM qq ⟨gn, ga, gt, gx, gy⟩).length (intCells (valueM qq ⟨gn, ga, gt, gx, gy⟩)), Blk pb #[.string ⟨pk.toArray⟩, .int .i64 pf, .int .i64 pt, .int .i64 gn, .int .i64 ga, .slice xa gt.length xc, .complex .f64 X Y, .int .i64 rr] 68, Blk ob #[.bool false, .int .i64 ik, .string ⟨iy.toArray⟩, .int .i64 it, .int .i64 iw, .string ⟨pk.toArray⟩, .int .i64 pf, .int .i64 pt, .int .i64 rr, .slice va vs.length vc] 63, Blk tb #[.int .i64 mk2, .slice (some ⟨bp, op, none⟩) ms2.length c2] 45, Row 68 8 (.slice (some ⟨bp, op, none⟩) ms2.length c2) ms2.length (encP.all ms2), Row 63 10 (.slice (some ⟨bo, oo, none⟩) os2.length k2) os2.length (encO.all os2), Pool H2, Blk xb #[.int .i64 xk, .string ⟨xy.toArray⟩, .int .i64 xt, .int .i64 xv] 56, Blk sb #[.int .i64 smk, .slice pa ms1.length pc] 45, Row 68 8 (.slice pa ms1.length pc) ms1.length (encP.all ms1), Pool HH, Blk qb #[.int .i64 qq.kind, .int .i64 qq.size, .int .i64 qq.slide, .int .i64 qq.late, .int .i64 qq.agg, .int .i64 qq.k] 23] := h1.call0 G1
                      refine ⟨_, rfl, fun w' => St (fun _ => False) w w' [Row 3 1 nv (valueM qq ⟨gn, ga, gt, gx, gy⟩).length (intCells (valueM qq ⟨gn, ga, gt, gx, gy⟩)), Blk pb #[.string ⟨pk.toArray⟩, .int .i64 pf, .int .i64 pt, .int .i64 gn, .int .i64 ga, .slice xa gt.length xc, .complex .f64 X Y, .int .i64 rr] 68, Blk ob #[.bool false, .int .i64 ik, .string ⟨iy.toArray⟩, .int .i64 it, .int .i64 iw, .string ⟨pk.toArray⟩, .int .i64 pf, .int .i64 pt, .int .i64 rr, .slice va vs.length vc] 63, Blk tb #[.int .i64 mk2, .slice (some ⟨bp, op, none⟩) ms2.length c2] 45, Row 68 8 (.slice (some ⟨bp, op, none⟩) ms2.length c2) ms2.length (encP.all ms2), Row 63 10 (.slice (some ⟨bo, oo, none⟩) os2.length k2) os2.length (encO.all os2), Pool H2, Blk xb #[.int .i64 xk, .string ⟨xy.toArray⟩, .int .i64 xt, .int .i64 xv] 56, Blk sb #[.int .i64 smk, .slice pa ms1.length pc] 45, Row 68 8 (.slice pa ms1.length pc) ms1.length (encP.all ms1), Pool HH, Blk qb #[.int .i64 qq.kind, .int .i64 qq.size, .int .i64 qq.slide, .int .i64 qq.late, .int .i64 qq.agg, .int .i64 qq.k] 23], hV _ _ _ (fun I hI => Fam.mono (fun w' h => St.pick (l := [Row 3 1 nv (valueM qq ⟨gn, ga, gt, gx, gy⟩).length (intCells (valueM qq ⟨gn, ga, gt, gx, gy⟩)), Blk pb #[.string ⟨pk.toArray⟩, .int .i64 pf, .int .i64 pt, .int .i64 gn, .int .i64 ga, .slice xa gt.length xc, .complex .f64 X Y, .int .i64 rr] 68, Blk ob #[.bool false, .int .i64 ik, .string ⟨iy.toArray⟩, .int .i64 it, .int .i64 iw, .string ⟨pk.toArray⟩, .int .i64 pf, .int .i64 pt, .int .i64 rr, .slice va vs.length vc] 63, Blk tb #[.int .i64 mk2, .slice (some ⟨bp, op, none⟩) ms2.length c2] 45, Row 68 8 (.slice (some ⟨bp, op, none⟩) ms2.length c2) ms2.length (encP.all ms2), Row 63 10 (.slice (some ⟨bo, oo, none⟩) os2.length k2) os2.length (encO.all os2), Pool H2, Blk xb #[.int .i64 xk, .string ⟨xy.toArray⟩, .int .i64 xt, .int .i64 xv] 56, Blk sb #[.int .i64 smk, .slice pa ms1.length pc] 45, Row 68 8 (.slice pa ms1.length pc) ms1.length (encP.all ms1), Pool HH, Blk qb #[.int .i64 qq.kind, .int .i64 qq.size, .int .i64 qq.slide, .int .i64 qq.late, .int .i64 qq.agg, .int .i64 qq.k] 23]) h [1, 2, 3, 4, 5, 6, 7, 8, 9, 10, 11]) I hI) (Fam.st (B := fun w' => St (fun _ => False) w w' [Row 3 1 nv (valueM qq ⟨gn, ga, gt, gx, gy⟩).length (intCells (valueM qq ⟨gn, ga, gt, gx, gy⟩)), Blk pb #[.string ⟨pk.toArray⟩, .int .i64 pf, .int .i64 pt, .int .i64 gn, .int .i64 ga, .slice xa gt.length xc, .complex .f64 X Y, .int .i64 rr] 68, Blk ob #[.bool false, .int .i64 ik, .string ⟨iy.toArray⟩, .int .i64 it, .int .i64 iw, .string ⟨pk.toArray⟩, .int .i64 pf, .int .i64 pt, .int .i64 rr, .slice va vs.length vc] 63, Blk tb #[.int .i64 mk2, .slice (some ⟨bp, op, none⟩) ms2.length c2] 45, Row 68 8 (.slice (some ⟨bp, op, none⟩) ms2.length c2) ms2.length (encP.all ms2), Row 63 10 (.slice (some ⟨bo, oo, none⟩) os2.length k2) os2.length (encO.all os2), Pool H2, Blk xb #[.int .i64 xk, .string ⟨xy.toArray⟩, .int .i64 xt, .int .i64 xv] 56, Blk sb #[.int .i64 smk, .slice pa ms1.length pc] 45, Row 68 8 (.slice pa ms1.length pc) ms1.length (encP.all ms1), Pool HH, Blk qb #[.int .i64 qq.kind, .int .i64 qq.size, .int .i64 qq.slide, .int .i64 qq.late, .int .i64 qq.agg, .int .i64 qq.k] 23]) (fun _ h => h)) ?_, HX⟩
                      intro K hK
                      go_simp
                      refine hK _ ?_
                      clear hK K hV V
                      clear HX h1 G1 w1 w2
                      iterate 4 first
                        | (apply script_pass
                           · rfl
                           · rfl
                           intro K hK
                           go_simp
                           refine hK _ ?_
                           clear hK K)
                        | (apply script_step
                           · rfl
                           · rfl
                           · intro I hI w1 h1'
                             have h1 := hI.2 _ h1'
                             first
                               | (go_simp
                                  first
                                    | rfl
                                    | exact ⟨rfl, h1'⟩
                                    | (go_at_call 30; with_reducible exact Fam.call hI h1' (kin w1 nv h1))
                                 )
                           intro K hK
                           go_simp
                           refine hK _ ?_
                           clear hK K)
                      refine script_nil ?_
                      intro w9 H9
                      go_wp2
                      go_roundw
                      case rel => exact ⟨j + 1, true, by omega, by first | rfl | go_num, by first | rfl | go_num, Lib.hid (fun h => by cases h), H9.pick [2, 3, 4, 5, 6, 7, 8, 9, 10, 11]⟩
                      case measure => simp [intOf]; omega
                    · have hne := Lib.hid (show (⟨pk, pf, pt⟩ : Wd) ≠ ⟨wk, wf, wt⟩ from fun e => hall2 (by cases e; exact ⟨rfl, rfl, rfl⟩))
                      have h3 : (¬ pk = wk) ∨ (pk = wk ∧ ¬ pf = wf) ∨ (pk = wk ∧ pf = wf ∧ ¬ pt = wt) := by
                        by_cases h1 : pk = wk
                        · by_cases h2 : pf = wf
                          · exact .inr (.inr ⟨h1, h2, fun h3 => hall2 ⟨h1, h2, h3⟩⟩)
                          · exact .inr (.inl ⟨h1, h2⟩)
                        · exact .inl h1
                      have hno2 : Hid (false = false → ¬ (wt + qq.late ≤ mk2) ∧ ∀ (a : Nat) m, a < j + 1 → ms2[a]? = some m → m.p.w ≠ ⟨wk, wf, wt⟩) := Lib.hid (fun _ => ⟨(hno.out rfl).1, fun a m ha hm => by
                        by_cases e : a = j
                        · subst e
                          rw [hmh.out] at hm
                          obtain rfl := Option.some.inj hm
                          exact hne.out
                        · exact (hno.out rfl).2 a m (by omega) hm⟩)
                      clear hall2
                      rcases h3 with h3 | ⟨rfl, h3⟩ | ⟨rfl, rfl, h3⟩
                      · skip
                        refine wp_calm (fun w' => St (fun _ => False) w w' [Blk pb #[.string ⟨pk.toArray⟩, .int .i64 pf, .int .i64 pt, .int .i64 gn, .int .i64 ga, .slice xa gt.length xc, .complex .f64 X Y, .int .i64 rr] 68, Blk ob #[.bool false, .int .i64 ik, .string ⟨iy.toArray⟩, .int .i64 it, .int .i64 iw, .string ⟨wk.toArray⟩, .int .i64 wf, .int .i64 wt, .int .i64 rd, .slice va vs.length vc] 63, Blk tb #[.int .i64 mk2, .slice (some ⟨bp, op, none⟩) ms2.length c2] 45, Row 68 8 (.slice (some ⟨bp, op, none⟩) ms2.length c2) ms2.length (encP.all ms2), Row 63 10 (.slice (some ⟨bo, oo, none⟩) os2.length k2) os2.length (encO.all os2), Pool H2, Blk xb #[.int .i64 xk, .string ⟨xy.toArray⟩, .int .i64 xt, .int .i64 xv] 56, Blk sb #[.int .i64 smk, .slice pa ms1.length pc] 45, Row 68 8 (.slice pa ms1.length pc) ms1.length (encP.all ms1), Pool HH, Blk qb #[.int .i64 qq.kind, .int .i64 qq.size, .int .i64 qq.slide, .int .i64 qq.late, .int .i64 qq.agg, .int .i64 qq.k] 23]) (by kernel_rfl) (by kernel_rfl) (HP.drew) ?_
                        iterate 25 first
                          | (apply calm_pass
                             · rfl
                             intro K hK
                             go_simp
                             refine hK _ ?_
                             clear hK K)
                          | (apply calm_step
                             · rfl
                             · intro w1 h1
                               (first | ((with_reducible show CameTo _ _ _ ((execOp _ (Oper.mk _ (Op.load _ _) _ _ _ _)).run _ _)); have p0 := h1.cell 0 0 rfl rfl; have p1 := h1.cell 0 1 rfl rfl; have p2 := h1.cell 0 2 rfl rfl; have p3 := h1.cell 0 3 rfl rfl; have p4 := h1.cell 0 4 rfl rfl; have p5 := h1.cell 0 5 rfl rfl; have p6 := h1.cell 0 6 rfl rfl; have p7 := h1.cell 0 7 rfl rfl; have y0 := h1.cell 1 0 rfl rfl; have y1 := h1.cell 1 1 rfl rfl; have y2 := h1.cell 1 2 rfl rfl; have y3 := h1.cell 1 3 rfl rfl; have y4 := h1.cell 1 4 rfl rfl; have y5 := h1.cell 1 5 rfl rfl; have y6 := h1.cell 1 6 rfl rfl; have y7 := h1.cell 1 7 rfl rfl; have y8 := h1.cell 1 8 rfl rfl; have y9 := h1.cell 1 9 rfl rfl; have c0 := h1.cell 10 0 rfl rfl; have c1 := h1.cell 10 1 rfl rfl; have c2 := h1.cell 10 2 rfl rfl; have c3 := h1.cell 10 3 rfl rfl; have c4 := h1.cell 10 4 rfl rfl; have c5 := h1.cell 10 5 rfl rfl) | skip)
                               first
                                 | (go_simp
                                    first
                                      | rfl
                                      | exact ⟨rfl, h1⟩
                                   )
                             intro K hK
                             go_simp
                             refine hK _ ?_
                             clear hK K)
                        refine calm_nil ?_
                        intro w9 H9
                        go_wp2
                        go_roundw
                        case rel => exact ⟨j + 1, false, by omega, by first | rfl | go_num, by first | rfl | go_num, hno2, H9.pick [1, 2, 3, 4, 5, 6, 7, 8, 9, 10]⟩
                        case measure => simp [intOf]; omega
                      · skip
                        refine wp_calm (fun w' => St (fun _ => False) w w' [Blk pb #[.string ⟨pk.toArray⟩, .int .i64 pf, .int .i64 pt, .int .i64 gn, .int .i64 ga, .slice xa gt.length xc, .complex .f64 X Y, .int .i64 rr] 68, Blk ob #[.bool false, .int .i64 ik, .string ⟨iy.toArray⟩, .int .i64 it, .int .i64 iw, .string ⟨pk.toArray⟩, .int .i64 wf, .int .i64 wt, .int .i64 rd, .slice va vs.length vc] 63, Blk tb #[.int .i64 mk2, .slice (some ⟨bp, op, none⟩) ms2.length c2] 45, Row 68 8 (.slice (some ⟨bp, op, none⟩) ms2.length c2) ms2.length (encP.all ms2), Row 63 10 (.slice (some ⟨bo, oo, none⟩) os2.length k2) os2.length (encO.all os2), Pool H2, Blk xb #[.int .i64 xk, .string ⟨xy.toArray⟩, .int .i64 xt, .int .i64 xv] 56, Blk sb #[.int .i64 smk, .slice pa ms1.length pc] 45, Row 68 8 (.slice pa ms1.length pc) ms1.length (encP.all ms1), Pool HH, Blk qb #[.int .i64 qq.kind, .int .i64 qq.size, .int .i64 qq.slide, .int .i64 qq.late, .int .i64 qq.agg, .int .i64 qq.k] 23]) (by kernel_rfl) (by kernel_rfl) (HP.drew) ?_
                        iterate 25 first
                          | (apply calm_pass
                             · rfl
                             intro K hK
                             go_simp
                             refine hK _ ?_
                             clear hK K)
                          | (apply calm_step
                             · rfl
                             · intro w1 h1
                               (first | ((with_reducible show CameTo _ _ _ ((execOp _ (Oper.mk _ (Op.load _ _) _ _ _ _)).run _ _)); have p0 := h1.cell 0 0 rfl rfl; have p1 := h1.cell 0 1 rfl rfl; have p2 := h1.cell 0 2 rfl rfl; have p3 := h1.cell 0 3 rfl rfl; have p4 := h1.cell 0 4 rfl rfl; have p5 := h1.cell 0 5 rfl rfl; have p6 := h1.cell 0 6 rfl rfl; have p7 := h1.cell 0 7 rfl rfl; have y0 := h1.cell 1 0 rfl rfl; have y1 := h1.cell 1 1 rfl rfl; have y2 := h1.cell 1 2 rfl rfl; have y3 := h1.cell 1 3 rfl rfl; have y4 := h1.cell 1 4 rfl rfl; have y5 := h1.cell 1 5 rfl rfl; have y6 := h1.cell 1 6 rfl rfl; have y7 := h1.cell 1 7 rfl rfl; have y8 := h1.cell 1 8 rfl rfl; have y9 := h1.cell 1 9 rfl rfl; have c0 := h1.cell 10 0 rfl rfl; have c1 := h1.cell 10 1 rfl rfl; have c2 := h1.cell 10 2 rfl rfl; have c3 := h1.cell 10 3 rfl rfl; have c4 := h1.cell 10 4 rfl rfl; have c5 := h1.cell 10 5 rfl rfl) | skip)
                               first
                                 | (go_simp
                                    first
                                      | rfl
                                      | exact ⟨rfl, h1⟩
                                   )
                             intro K hK
                             go_simp
                             refine hK _ ?_
                             clear hK K)
                        refine calm_nil ?_
                        intro w9 H9
                        go_wp2
                        go_roundw
                        case rel => exact ⟨j + 1, false, by omega, by first | rfl | go_num, by first | rfl | go_num, hno2, H9.pick [1, 2, 3, 4, 5, 6, 7, 8, 9, 10]⟩
                        case measure => simp [intOf]; omega
                      · skip
                        refine wp_calm (fun w' => St (fun _ => False) w w' [Blk pb #[.string ⟨pk.toArray⟩, .int .i64 pf, .int .i64 pt, .int .i64 gn, .int .i64 ga, .slice xa gt.length xc, .complex .f64 X Y, .int .i64 rr] 68, Blk ob #[.bool false, .int .i64 ik, .string ⟨iy.toArray⟩, .int .i64 it, .int .i64 iw, .string ⟨pk.toArray⟩, .int .i64 pf, .int .i64 wt, .int .i64 rd, .slice va vs.length vc] 63, Blk tb #[.int .i64 mk2, .slice (some ⟨bp, op, none⟩) ms2.length c2] 45, Row 68 8 (.slice (some ⟨bp, op, none⟩) ms2.length c2) ms2.length (encP.all ms2), Row 63 10 (.slice (some ⟨bo, oo, none⟩) os2.length k2) os2.length (encO.all os2), Pool H2, Blk xb #[.int .i64 xk, .string ⟨xy.toArray⟩, .int .i64 xt, .int .i64 xv] 56, Blk sb #[.int .i64 smk, .slice pa ms1.length pc] 45, Row 68 8 (.slice pa ms1.length pc) ms1.length (encP.all ms1), Pool HH, Blk qb #[.int .i64 qq.kind, .int .i64 qq.size, .int .i64 qq.slide, .int .i64 qq.late, .int .i64 qq.agg, .int .i64 qq.k] 23]) (by kernel_rfl) (by kernel_rfl) (HP.drew) ?_
                        iterate 25 first
                          | (apply calm_pass
                             · rfl
                             intro K hK
                             go_simp
                             refine hK _ ?_
                             clear hK K)
                          | (apply calm_step
                             · rfl
                             · intro w1 h1
                               (first | ((with_reducible show CameTo _ _ _ ((execOp _ (Oper.mk _ (Op.load _ _) _ _ _ _)).run _ _)); have p0 := h1.cell 0 0 rfl rfl; have p1 := h1.cell 0 1 rfl rfl; have p2 := h1.cell 0 2 rfl rfl; have p3 := h1.cell 0 3 rfl rfl; have p4 := h1.cell 0 4 rfl rfl; have p5 := h1.cell 0 5 rfl rfl; have p6 := h1.cell 0 6 rfl rfl; have p7 := h1.cell 0 7 rfl rfl; have y0 := h1.cell 1 0 rfl rfl; have y1 := h1.cell 1 1 rfl rfl; have y2 := h1.cell 1 2 rfl rfl; have y3 := h1.cell 1 3 rfl rfl; have y4 := h1.cell 1 4 rfl rfl; have y5 := h1.cell 1 5 rfl rfl; have y6 := h1.cell 1 6 rfl rfl; have y7 := h1.cell 1 7 rfl rfl; have y8 := h1.cell 1 8 rfl rfl; have y9 := h1.cell 1 9 rfl rfl; have c0 := h1.cell 10 0 rfl rfl; have c1 := h1.cell 10 1 rfl rfl; have c2 := h1.cell 10 2 rfl rfl; have c3 := h1.cell 10 3 rfl rfl; have c4 := h1.cell 10 4 rfl rfl; have c5 := h1.cell 10 5 rfl rfl) | skip)
                               first
                                 | (go_simp
                                    first
                                      | rfl
                                      | exact ⟨rfl, h1⟩
                                   )
                             intro K hK
                             go_simp
                             refine hK _ ?_
                             clear hK K)
                        refine calm_nil ?_
                        intro w9 H9
                        go_wp2
                        go_roundw
                        case rel => exact ⟨j + 1, false, by omega, by first | rfl | go_num, by first | rfl | go_num, hno2, H9.pick [1, 2, 3, 4, 5, 6, 7, 8, 9, 10]⟩
                        case measure => simp [intOf]; omega
                · obtain rfl : j = ms2.length := by omega
                  cases F' with
                  | true =>
                    have y0 := HL.cell 0 0 rfl rfl
                    have y1 := HL.cell 0 1 rfl rfl
                    have y2 := HL.cell 0 2 rfl rfl
                    have y3 := HL.cell 0 3 rfl rfl
                    have y4 := HL.cell 0 4 rfl rfl
                    have y5 := HL.cell 0 5 rfl rfl
                    have y6 := HL.cell 0 6 rfl rfl
                    have y7 := HL.cell 0 7 rfl rfl
                    have y8 := HL.cell 0 8 rfl rfl
                    have y9 := HL.cell 0 9 rfl rfl
                    have t0 := HL.cell 1 0 rfl rfl
                    have t1 := HL.cell 1 1 rfl rfl
                    go_wp2
                    go_roundw
                    case rel => exact ⟨k + 1, by omega, by go_num, HL.pick [1, 2, 3, 4, 5, 6, 7, 8, 9]⟩
                    case measure => simp [intOf]; omega
                  | false =>
                    exfalso
                    obtain ⟨n1, n2⟩ := hno.out rfl
                    rcases hfh.out with h3 | ⟨p, hp, g1, -, -⟩
                    · exact n1 h3
                    · rw [← show ms2.map (·.p) = ps2 from hm2h.out] at hp
                      obtain ⟨m, hm, rfl⟩ := List.mem_map.1 hp
                      obtain ⟨a, ha⟩ := List.getElem?_of_mem hm
                      exact n2 a m (List.getElem?_eq_some_iff.1 ha).1 ha g1
          · obtain rfl : k = os2.length := by omega
            have t0 := HK.cell 0 0 rfl rfl
            have t1 := HK.cell 0 1 rfl rfl
            go_wp2_with ((with_reducible show Go.wpList _ _ _ (Oper.mk none (Op.store 45 (Operand.tmp 5) _) _ _ _ _ :: _) _ _); go_must (refine St.list_store HK 5 rfl rfl 45 (.tmp 5) (.tmp 138) rfl #[.int .i64 mk2, .slice p2 ms2.length c2] rfl rfl (by kernel_rfl) rfl (by simp [Value.oneCell']) ?_; intro w8 HN hzw8; clear hzw8))
            go_roundw
            case rel => exact ⟨i + 1, ⟨mk2, ps2⟩, ms2, H2, p2, c2, by omega, by first | rfl | go_num, Lib.hid ⟨hm2h.out, hmo2h.out, by (try simp only at hgl ⊢); omega, good_fits hggh.out⟩, HN.pick [5, 1, 3, 8]⟩
            case measure => simp [intOf]; omega
      · obtain ⟨hsame, hO2⟩ := hsph.out he
        obtain rfl : os2 = [] := List.map_eq_nil_iff.1 (ho2h.out.trans hO2)
        have hps : ps2 = st.panes := by rw [← hsame]
        have hmk : mk2 = smk := by rw [← hsmkh.out, ← hsame]
        have hr2h := Lib.hid (fun w' (L : List SP) (h : St (fun _ => False) w w' L) (a b : Nat) ha hb => hps ▸ hr2 w' L h a b ha hb)
        clear hsame hr2 hO2
        subst hmk
        have ksm := ksm0
        clear hps
        have t0 := HD.cell 0 0 rfl rfl
        have t1 := HD.cell 0 1 rfl rfl
        have s0 := HD.cell 5 0 rfl rfl
        have s1 := HD.cell 5 1 rfl rfl
        go_wp2_with (go_at_call 28; go_must (refine (St.callPast (ksm _ _ (hroh.out _ _ HD 6 7 rfl rfl) (hr2h.out _ _ HD 1 3 rfl rfl)) HD).mono ?_; rintro e w7 ⟨rfl, HP⟩))
        go_roundw
        case rel => exact ⟨i + 1, st, ms1, HH, pa, pc, by omega, by first | rfl | go_num, hall, by rw [hsmkh.out]; exact HP.pick [5, 6, 7, 8]⟩
        case measure => simp [intOf]; omega
    · obtain rfl : i = l.length := by omega
      go_wp2
      go_ret
      exact ⟨rfl, HM.below (Nat.le_refl _) (fun _ h => h.elim)⟩

end Go.Proofs.YtiglgfonhdfpmaaGreat

/- What came in, read by its type, within the form's own reach (a slice's bytes). Laws over any program. -/
set_option linter.unusedVariables false
set_option linter.unusedSimpArgs false
namespace Go.Proofs.YtiglgfonhdfpmaaGreat
open Go.RowKit

def RZ (P : Program) (w : World) (t : TypeId) (cs : List Value) : Prop :=
  ∃ (H : Type) (enc : TypeId × Value → H) (spare : Nat → Bool) (held : Bool) (fuel : Nat) (x : DataW H × List MemPlace), DataW.trod enc P w 0 spare held fuel t cs = some x ∧ (x.1.weights P t).all (· ≤ reachBytes) = true
section
variable {P : Program} {w : World} {t e : TypeId} {cs : List Value}
theorem RZ.r (h : RZ P w t cs) : R P w t cs := by
  obtain ⟨H, enc, spare, held, fuel, x, h, _⟩ := h
  exact ⟨H, enc, spare, held, fuel, x, h⟩
theorem RZ.len (ht : P.underlying t = some (.slice e)) (h : RZ P w t cs) {ao : Option Addr} {len cap : Nat} (hc : cs = [.slice ao len cap]) : len * P.bytesOf e ≤ 140737488351232 := by
  obtain ⟨H, enc, spare, held, fuel, x, h, hz⟩ := h
  rcases DataW.trod_slice ht h with ⟨h0, _⟩ | ⟨a, len', cap', elems, rest, n, rfl, hcs, hx, hb, hl, hm, hlen, hel, _⟩
  · rw [hc] at h0
    simp only [List.cons.injEq, Value.slice.injEq, and_true] at h0
    rw [h0.2.1]
    omega
  · rw [hc] at hcs
    simp only [List.cons.injEq, Value.slice.injEq, and_true] at hcs
    rw [hcs.2.1]
    have h1 : ((elems.length + rest.length) * P.bytesOf e) ∈ x.1.weights P t := by
      rw [hx]
      simp [DataW.weights, ht]
    have h2 : (elems.length + rest.length) * P.bytesOf e ≤ 140737488351232 := of_decide_eq_true (List.all_eq_true.1 hz _ h1)
    have h3 : len' * P.bytesOf e ≤ (elems.length + rest.length) * P.bytesOf e := Nat.mul_le_mul_right _ (by omega)
    omega
end
end Go.Proofs.YtiglgfonhdfpmaaGreat

/- Items that come in, within the form's own reach (turned from ClockWeaves). Plain laws. -/
set_option linter.unusedVariables false
set_option linter.unusedSimpArgs false
namespace Go.Proofs.YtiglgfonhdfpmaaGreat
open Go.RowKit

theorem item_read {w : World} {cs : List Value} (h : R Tryz.prog w 56 cs) : ∃ x : Itm, cs = (itmC x).toList ∧ x.fits := by
  have hl : cs.length = 4 := (R.struct Tryz.underlying56 h).1.trans (by kernel_rfl)
  obtain ⟨c0, c1, c2, c3, rfl⟩ : ∃ a b c d, cs = [a, b, c, d] := by
    match cs, hl with
    | [a, b, c, d], _ => exact ⟨a, b, c, d, rfl⟩
  have r0 : R Tryz.prog w 3 [c0] := R.field Tryz.underlying56 h 0 rfl (o := 0) (n := 1) rfl rfl (by kernel_rfl)
  have r1 : R Tryz.prog w 9 [c1] := R.field Tryz.underlying56 h 1 rfl (o := 1) (n := 1) rfl rfl (by kernel_rfl)
  have r2 : R Tryz.prog w 3 [c2] := R.field Tryz.underlying56 h 2 rfl (o := 2) (n := 1) rfl rfl (by kernel_rfl)
  have r3 : R Tryz.prog w 3 [c3] := R.field Tryz.underlying56 h 3 rfl (o := 3) (n := 1) rfl rfl (by kernel_rfl)
  obtain ⟨n0, e0, g0⟩ := R.int Tryz.underlying3 r0
  obtain ⟨s, e1, g1⟩ := R.text Tryz.underlying9 r1
  obtain ⟨n2, e2, g2⟩ := R.int Tryz.underlying3 r2
  obtain ⟨n3, e3, g3⟩ := R.int Tryz.underlying3 r3
  simp only [List.cons.injEq, and_true] at e0 e1 e2 e3
  subst e0 e1 e2 e3
  have hs : s.data.toList.length = s.size := Array.length_toList
  have hm : maxLen = 9223372036854775807 := rfl
  refine ⟨⟨n0, s.data.toList, n2, n3⟩, ?_, ⟨int_bounds g0, by simp only; omega, int_bounds g2, int_bounds g3⟩⟩
  cases s
  simp [textV]
theorem items_read {w : World} {v : Value} (h : RZ Tryz.prog w 41 v.cells.toList) (hs : ∃ a len cap, v = .slice a len cap) : ∃ l, ItmsRO w v l ∧ l.length ≤ 3518437208880 := by
  obtain ⟨a, len, cap, rfl⟩ := hs
  obtain ⟨ao, cap', l, e, h1, h2, h3⟩ := R.list (p := fun cs (x : Itm) => cs = (itmC x).toList ∧ x.fits) Tryz.underlying41 (by kernel_rfl) (size := 4) (by omega) (fun cs' h => item_read h) h.r
  have hz := RZ.len Tryz.underlying41 h (ao := ao) (len := l.length) (cap := cap') e
  rw [show Tryz.prog.bytesOf 56 = 40 by kernel_rfl] at hz
  have e2 : Value.slice a len cap = .slice ao l.length cap' := by simpa [Value.cells] using e
  rw [e2]
  have hx : ∀ x ∈ l, x.fits := fun x hx => by
    obtain ⟨b, o, _, _, hc⟩ := h3 (by rintro rfl; cases hx)
    obtain ⟨i, hi⟩ := List.getElem?_of_mem hx
    obtain ⟨cs', _, _, _, g⟩ := hc i x hi
    exact g
  refine ⟨l, ⟨ao, cap', rfl, h1, hx, fun hl => ?_⟩, by omega⟩
  obtain ⟨b, o, rfl, hb, hc⟩ := h3 hl
  refine ⟨b, o, rfl, hb, fun i x hi => ?_⟩
  obtain ⟨cs', _, g2, rfl, _⟩ := hc i x hi
  exact g2

end Go.Proofs.YtiglgfonhdfpmaaGreat
