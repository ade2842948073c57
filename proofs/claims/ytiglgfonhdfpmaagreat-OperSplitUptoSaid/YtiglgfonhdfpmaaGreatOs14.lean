import Derived.Test.YtiglgfonhdfpmaaGreatOs1
import Derived.Test.YtiglgfonhdfpmaaGreatOs2
import Derived.Test.YtiglgfonhdfpmaaGreatOs3
import Derived.Test.YtiglgfonhdfpmaaGreatOs4
import Derived.Test.YtiglgfonhdfpmaaGreatOs13
import Derived.Deep.CutBlock
import Derived.Lib.ItoaNum
import Derived.Lib.AtoiAll
import Derived.Lib.Split
import Derived.Lib.SplitLaws
import Derived.Lib.IndexLaws
import Derived.Lib.CountLaws
/- oper.SameOuts of the same ones. Condition: they fit. (Printed by a program of mine.) -/
set_option linter.unusedVariables false
set_option linter.unusedSimpArgs false
namespace Go.Proofs.YtiglgfonhdfpmaaGreat
open Go.RowKit
/-- The cells of an out of a slice. -/
theorem ot_cells {w w' : World} {b o i : Nat} {x : Om} (h : w.rangeAt b (o + i * 10) (otC x).toList) (hb : w'.heap[b]? = w.heap[b]?) :
    w'.cell? ⟨b, o + i * 10, none⟩ = some (.bool x.o.late) ∧ w'.cell? ⟨b, o + i * 10 + 1, none⟩ = some (.int .i64 x.o.item.kind) ∧ w'.cell? ⟨b, o + i * 10 + 2, none⟩ = some (textV x.o.item.key) ∧ w'.cell? ⟨b, o + i * 10 + 3, none⟩ = some (.int .i64 x.o.item.time) ∧ w'.cell? ⟨b, o + i * 10 + 4, none⟩ = some (.int .i64 x.o.item.value) ∧
    w'.cell? ⟨b, o + i * 10 + 5, none⟩ = some (textV x.o.w.key) ∧ w'.cell? ⟨b, o + i * 10 + 6, none⟩ = some (.int .i64 x.o.w.frm) ∧ w'.cell? ⟨b, o + i * 10 + 7, none⟩ = some (.int .i64 x.o.w.to) ∧ w'.cell? ⟨b, o + i * 10 + 8, none⟩ = some (.int .i64 x.o.round) ∧ w'.cell? ⟨b, o + i * 10 + 9, none⟩ = some x.hd :=
  ⟨Enc.at (E := encO) h hb (j := 0) rfl, Enc.at (E := encO) h hb (j := 1) rfl, Enc.at (E := encO) h hb (j := 2) rfl, Enc.at (E := encO) h hb (j := 3) rfl, Enc.at (E := encO) h hb (j := 4) rfl, Enc.at (E := encO) h hb (j := 5) rfl, Enc.at (E := encO) h hb (j := 6) rfl, Enc.at (E := encO) h hb (j := 7) rfl, Enc.at (E := encO) h hb (j := 8) rfl, Enc.at (E := encO) h hb (j := 9) rfl⟩
set_option maxHeartbeats 4000000 in
set_option maxRecDepth 100000 in
theorem out_same (m m' : Om) (w : World) (he : m.o = m'.o) (hr : IntsRO w m.hd m.o.value) (hr' : IntsRO w m'.hd m'.o.value) (hf : m.o.value.length ≤ 1073741824) :
    Calls Tryz.prog 69 #[otV m, otV m'] w fun e w' => e = .returned (.bool true) ∧ Below w.heap.size w w' := by
  obtain ⟨p, xa, xc⟩ := m
  obtain ⟨p', xa', xc'⟩ := m'
  simp only at he hf hr hr'
  subst he
  have ke := fun w' (hk : Kept (fun _ => False) w w') => ints_equal (hr.later hk) (hr'.later hk) hf
  clear hr hr' hf
  obtain ⟨ol, ⟨ik, iy, it, iv⟩, ⟨xk, xf, xt⟩, xr, vs⟩ := p
  unfold otV otC textV
  simp only at ke ⊢
  obtain ⟨b, hb⟩ : ∃ g, w.heap.size = g := ⟨_, rfl⟩
  obtain ⟨b2, hb2⟩ : ∃ b2, b + 1 = b2 := ⟨_, rfl⟩
  have H0 : St (fun _ => False) w _ [_] := (St.nil _ w).allocAt hb #[.bool ol, .int .i64 ik, .string ⟨iy.toArray⟩, .int .i64 it, .int .i64 iv, .string ⟨xk.toArray⟩, .int .i64 xf, .int .i64 xt, .int .i64 xr, .slice xa vs.length xc] 63
  have H := H0.allocAt (B := b2) (by rw [← hb2, ← hb]; exact Array.size_push _) #[.bool ol, .int .i64 ik, .string ⟨iy.toArray⟩, .int .i64 it, .int .i64 iv, .string ⟨xk.toArray⟩, .int .i64 xf, .int .i64 xt, .int .i64 xr, .slice xa' vs.length xc'] 63
  obtain ⟨w1, hw1⟩ : ∃ w1, (w.alloc (.cells #[.bool ol, .int .i64 ik, .string ⟨iy.toArray⟩, .int .i64 it, .int .i64 iv, .string ⟨xk.toArray⟩, .int .i64 xf, .int .i64 xt, .int .i64 xr, .slice xa vs.length xc] 63)).alloc (.cells #[.bool ol, .int .i64 ik, .string ⟨iy.toArray⟩, .int .i64 it, .int .i64 iv, .string ⟨xk.toArray⟩, .int .i64 xf, .int .i64 xt, .int .i64 xr, .slice xa' vs.length xc'] 63) = w1 := ⟨_, rfl⟩
  rw [hw1] at H
  go_enter Tryz.func69, Tryz.ntmps69
  go_upto_region 1 with (fail)
  try simp only [hb, hb2]
  try rw [hw1]
  have hbh := Lib.hid hb
  clear hw1 hb hb2 H0
  have H3 : St (fun _ => False) w w1 [Blk b2 #[.bool ol, .int .i64 ik, .string ⟨iy.toArray⟩, .int .i64 it, .int .i64 iv, .string ⟨xk.toArray⟩, .int .i64 xf, .int .i64 xt, .int .i64 xr, .slice xa' vs.length xc'] 63, Blk b #[.bool ol, .int .i64 ik, .string ⟨iy.toArray⟩, .int .i64 it, .int .i64 iv, .string ⟨xk.toArray⟩, .int .i64 xf, .int .i64 xt, .int .i64 xr, .slice xa vs.length xc] 63] := H
  clear H
  have c0 := H3.cell 0 0 rfl rfl
  have d0 := H3.cell 1 0 rfl rfl
  have c1 := H3.cell 0 1 rfl rfl
  have d1 := H3.cell 1 1 rfl rfl
  have c2 := H3.cell 0 2 rfl rfl
  have d2 := H3.cell 1 2 rfl rfl
  have c3 := H3.cell 0 3 rfl rfl
  have d3 := H3.cell 1 3 rfl rfl
  have c4 := H3.cell 0 4 rfl rfl
  have d4 := H3.cell 1 4 rfl rfl
  have c5 := H3.cell 0 5 rfl rfl
  have d5 := H3.cell 1 5 rfl rfl
  have c6 := H3.cell 0 6 rfl rfl
  have d6 := H3.cell 1 6 rfl rfl
  have c7 := H3.cell 0 7 rfl rfl
  have d7 := H3.cell 1 7 rfl rfl
  have c8 := H3.cell 0 8 rfl rfl
  have d8 := H3.cell 1 8 rfl rfl
  have c9 := H3.cell 0 9 rfl rfl
  have d9 := H3.cell 1 9 rfl rfl
  go_wp2_with (go_at_call 70; go_must (refine (St.callPast (ke _ H3.kept) H3).mono ?_; rintro e w2 ⟨rfl, H2⟩))
  go_ret
  exact ⟨rfl, H2.below (Nat.le_refl _) (fun _ h => h.elim)⟩

set_option maxHeartbeats 4000000 in
set_option maxRecDepth 100000 in
theorem ots_equal {v v' : Value} {l : List Ot} (w : World) (hv : OtsRO w v l) (hv' : OtsRO w v' l) (hl : l.length ≤ 1073741824) (hf : ∀ p ∈ l, p.value.length ≤ 1073741824) :
    Calls Tryz.prog 68 #[v, v', .func (.func 69) #[] #[]] w fun e w' => e = .returned (.bool true) ∧ Below w.heap.size w w' := by
  obtain ⟨ms, hm, hic0, hro⟩ := hv
  obtain ⟨ms', hm', hic0', hro'⟩ := hv'
  obtain ⟨ao, cap, rfl, hcap, hic⟩ := hic0
  obtain ⟨ao', cap', rfl, hcap', hic'⟩ := hic0'
  have e1 : ms.length = l.length := by rw [← hm, List.length_map]
  have e2 : ms'.length = l.length := by rw [← hm', List.length_map]
  have ks := Lib.hid (fun (i : Nat) (m m' : Om) (h1 : ms[i]? = some m) (h2 : ms'[i]? = some m') w' (hk : Kept (fun _ => False) w w') => by
    have a1 : l[i]? = some m.o := by rw [← hm, List.getElem?_map, h1]; rfl
    have a2 : l[i]? = some m'.o := by rw [← hm', List.getElem?_map, h2]; rfl
    have hp : m.o = m'.o := by rw [a1] at a2; exact Option.some.inj a2
    exact And.intro hp (out_same m m' w' hp ((hro m (List.mem_of_getElem? h1)).later hk) ((hro' m' (List.mem_of_getElem? h2)).later hk) (hf m.o (List.mem_of_getElem? a1))))
  have hich := Lib.hid hic
  have hich' := Lib.hid hic'
  rw [e1, e2]
  have e1h := Lib.hid e1
  have e2h := Lib.hid e2
  clear hic hic' hro hro' hm hm' e1 e2
  have H1 : St (fun _ => False) w w [] := St.nil _ w
  go_enter Tryz.func68, Tryz.ntmps68
  go_upto_block 2 with (fail)
  go_loopw [7, 8, 9, 17] (fun _ _ _ j wr => ∃ (i : Nat), i ≤ l.length ∧ j = .int .i64 i ∧ St (fun _ => False) w wr []) (fun _ _ _ j _ => l.length - (intOf j).toNat)
  case atStart => exact ⟨0, by omega, rfl, H1⟩
  case round =>
    clear H1
    obtain ⟨i, hi, rfl, HM⟩ := hrel
    by_cases hlt : i < l.length
    · have hlt1 : i < ms.length := by rw [e1h.out]; exact hlt
      have hlt2 : i < ms'.length := by rw [e2h.out]; exact hlt
      obtain ⟨b, o, rfl, hb, hc⟩ := hich.out (by intro e; rw [e] at hlt1; simp at hlt1)
      obtain ⟨b', o', rfl, hb', hc'⟩ := hich'.out (by intro e; rw [e] at hlt2; simp at hlt2)
      obtain ⟨y, hy⟩ : ∃ y, ms[i]? = some y := ⟨_, List.getElem?_eq_getElem hlt1⟩
      obtain ⟨y', hy'⟩ : ∃ y, ms'[i]? = some y := ⟨_, List.getElem?_eq_getElem hlt2⟩
      have hc := hc i y hy
      have hc' := hc' i y' hy'
      obtain ⟨hpp, -⟩ := ks.out i y y' hy hy' wr HM.kept
      have kk := fun w' hk => (ks.out i y y' hy hy' w' hk).2
      have hlt3 : (i : Int) < (l.length : Int) := by omega
      clear hy hy' hlt1 hlt2
      obtain ⟨q0, q1, q2, q3, q4, q5, q6, q7, q8, q9⟩ := ot_cells hc (HM.kept.block b hb id)
      obtain ⟨P, xa, xc⟩ := y
      obtain ⟨P', xa', xc'⟩ := y'
      simp only at hpp
      subst hpp
      obtain ⟨ol, ⟨ik, iy, it, iv⟩, ⟨xk, xf, xt⟩, xr, vs⟩ := P
      have hch' := Lib.hid hc'
      clear hc hc'
      unfold otV otC Om.hd textV at kk
      simp only at q0 q1 q2 q3 q4 q5 q6 q7 q8 q9 kk
      unfold textV at q2 q5
      try unfold Om.hd at q9
      try simp only at q9
      have HA : St (fun _ => False) w _ [_] := HM.allocAt rfl #[.bool ol, .int .i64 ik, .string ⟨iy.toArray⟩, .int .i64 it, .int .i64 iv, .string ⟨xk.toArray⟩, .int .i64 xf, .int .i64 xt, .int .i64 xr, .slice xa vs.length xc] 63
      go_upto_region 6 with (fail)
      obtain ⟨wb, hwb⟩ : ∃ wb, wr.alloc (.cells #[.bool ol, .int .i64 ik, .string ⟨iy.toArray⟩, .int .i64 it, .int .i64 iv, .string ⟨xk.toArray⟩, .int .i64 xf, .int .i64 xt, .int .i64 xr, .slice xa vs.length xc] 63) = wb := ⟨_, rfl⟩
      obtain ⟨yb, hyb⟩ : ∃ yb, wr.heap.size = yb := ⟨_, rfl⟩
      rw [hwb, hyb] at HA
      try rw [hwb]
      try simp only [hyb]
      have HA2 : St (fun _ => False) w wb [Blk yb #[.bool ol, .int .i64 ik, .string ⟨iy.toArray⟩, .int .i64 it, .int .i64 iv, .string ⟨xk.toArray⟩, .int .i64 xf, .int .i64 xt, .int .i64 xr, .slice xa vs.length xc] 63] := HA
      clear hwb hyb q0 q1 q2 q3 q4 q5 q6 q7 q8 q9 HM HA
      obtain ⟨r0, r1, r2, r3, r4, r5, r6, r7, r8, r9⟩ := ot_cells hch'.out (HA2.kept.block b' hb' id)
      simp only at r0 r1 r2 r3 r4 r5 r6 r7 r8 r9
      unfold textV at r2 r5
      try unfold Om.hd at r9
      try simp only at r9
      have HB : St (fun _ => False) w _ [_, _] := HA2.allocAt rfl #[.bool ol, .int .i64 ik, .string ⟨iy.toArray⟩, .int .i64 it, .int .i64 iv, .string ⟨xk.toArray⟩, .int .i64 xf, .int .i64 xt, .int .i64 xr, .slice xa' vs.length xc'] 63
      go_upto_region 7 with (fail)
      obtain ⟨wc, hwc⟩ : ∃ wc, wb.alloc (.cells #[.bool ol, .int .i64 ik, .string ⟨iy.toArray⟩, .int .i64 it, .int .i64 iv, .string ⟨xk.toArray⟩, .int .i64 xf, .int .i64 xt, .int .i64 xr, .slice xa' vs.length xc'] 63) = wc := ⟨_, rfl⟩
      obtain ⟨zb, hzb⟩ : ∃ zb, wb.heap.size = zb := ⟨_, rfl⟩
      rw [hwc, hzb] at HB
      try rw [hwc]
      try simp only [hzb]
      have HB2 : St (fun _ => False) w wc [Blk zb #[.bool ol, .int .i64 ik, .string ⟨iy.toArray⟩, .int .i64 it, .int .i64 iv, .string ⟨xk.toArray⟩, .int .i64 xf, .int .i64 xt, .int .i64 xr, .slice xa' vs.length xc'] 63, Blk yb #[.bool ol, .int .i64 ik, .string ⟨iy.toArray⟩, .int .i64 it, .int .i64 iv, .string ⟨xk.toArray⟩, .int .i64 xf, .int .i64 xt, .int .i64 xr, .slice xa vs.length xc] 63] := HB
      clear hwc hzb r0 r1 r2 r3 r4 r5 r6 r7 r8 r9 HB HA2
      have c0 := HB2.cell 1 0 rfl rfl
      have d0 := HB2.cell 0 0 rfl rfl
      have c1 := HB2.cell 1 1 rfl rfl
      have d1 := HB2.cell 0 1 rfl rfl
      have c2 := HB2.cell 1 2 rfl rfl
      have d2 := HB2.cell 0 2 rfl rfl
      have c3 := HB2.cell 1 3 rfl rfl
      have d3 := HB2.cell 0 3 rfl rfl
      have c4 := HB2.cell 1 4 rfl rfl
      have d4 := HB2.cell 0 4 rfl rfl
      have c5 := HB2.cell 1 5 rfl rfl
      have d5 := HB2.cell 0 5 rfl rfl
      have c6 := HB2.cell 1 6 rfl rfl
      have d6 := HB2.cell 0 6 rfl rfl
      have c7 := HB2.cell 1 7 rfl rfl
      have d7 := HB2.cell 0 7 rfl rfl
      have c8 := HB2.cell 1 8 rfl rfl
      have d8 := HB2.cell 0 8 rfl rfl
      have c9 := HB2.cell 1 9 rfl rfl
      have d9 := HB2.cell 0 9 rfl rfl
      go_wp2_with (go_at_call 69; go_must (refine (St.callPast (kk _ HB2.kept) HB2).mono ?_; rintro e w3 ⟨rfl, H3⟩))
      go_roundw
      case rel => exact ⟨i + 1, by omega, by go_num, H3.pick []⟩
      case measure => simp [intOf]; omega
    · obtain rfl : i = l.length := by omega
      go_wp2
      go_ret
      exact ⟨rfl, HM.below (Nat.le_refl _) (fun _ h => h.elim)⟩

set_option maxHeartbeats 2000000 in
set_option maxRecDepth 100000 in
theorem oper_outs {v v' : Value} {l : List Ot} (w : World) (hv : OtsRO w v l) (hv' : OtsRO w v' l) (hl : l.length ≤ 1073741824) (hf : ∀ p ∈ l, p.value.length ≤ 1073741824) :
    Calls Tryz.prog 26 #[v, v'] w fun e w' => e = .returned (.bool true) ∧ Below w.heap.size w w' := by
  have ke := ots_equal w hv hv' hl hf
  obtain ⟨ms, hm, hv0, -⟩ := hv
  obtain ⟨ms', hm', hv0', -⟩ := hv'
  obtain ⟨va, vc, rfl, -, -⟩ := hv0
  obtain ⟨va', vc', rfl, -, -⟩ := hv0'
  clear hm hm' hl hf
  have H : St (fun _ => False) w w [] := St.nil _ w
  go_enter Tryz.func26, Tryz.ntmps26
  go_wp2_with (go_at_call 68; go_must (refine (St.callPast ke H).mono ?_; rintro e w2 ⟨rfl, H2⟩))
  go_ret
  exact ⟨rfl, H2.below (Nat.le_refl _) (fun _ h => h.elim)⟩

end Go.Proofs.YtiglgfonhdfpmaaGreat

/- The document's SameInts and Same of what a window knows, of the same ones. Condition: they fit. -/
set_option linter.unusedVariables false
set_option linter.unusedSimpArgs false
namespace Go.Proofs.YtiglgfonhdfpmaaGreat
open Go.RowKit

set_option maxHeartbeats 2000000 in
set_option maxRecDepth 100000 in
theorem ref_ints {v v' : Value} {l : List Int} {w : World} (hv : IntsRO w v l) (hv' : IntsRO w v' l) (hl : l.length ≤ 1073741824) :
    Calls Tryz.prog 30 #[v, v'] w fun e w' => e = .returned (.bool true) ∧ Below w.heap.size w w' := by
  obtain ⟨ao, cap, rfl, hcap, hfit, hic⟩ := hv
  obtain ⟨ao', cap', rfl, hcap', -, hic'⟩ := hv'
  have hich := Lib.hid hic
  have hich' := Lib.hid hic'
  clear hic hfit hic'
  have H1 : St (fun _ => False) w w [] := St.nil _ w
  go_enter Tryz.func30, Tryz.ntmps30
  go_upto_block 1 with (fail)
  go_loopw [5, 13] (fun _ j wr => ∃ (i : Nat), i ≤ l.length ∧ j = .int .i64 i ∧ St (fun _ => False) w wr []) (fun _ j _ => l.length - (intOf j).toNat)
  case atStart => exact ⟨0, by omega, rfl, H1⟩
  case round =>
    clear H1
    obtain ⟨i, hi, rfl, HM⟩ := hrel
    by_cases hlt : i < l.length
    · obtain ⟨b, o, rfl, hb, hc⟩ := hich.out (by intro e; rw [e] at hlt; simp at hlt)
      obtain ⟨b', o', rfl, hb', hc'⟩ := hich'.out (by intro e; rw [e] at hlt; simp at hlt)
      obtain ⟨y, hy⟩ : ∃ y, l[i]? = some y := ⟨_, List.getElem?_eq_getElem hlt⟩
      have hc := hc i y hy
      have hc' := hc' i y hy
      have hlt2 : (i : Int) < (l.length : Int) := by omega
      clear hy
      go_upto_region 6 with (fail)
      refine wp_calm (fun w' => St (fun _ => False) w w' []) (by kernel_rfl) (by kernel_rfl) (HM.drew) ?_
      iterate 9 first
        | (apply calm_pass
           · rfl
           intro K hK
           go_simp
           refine hK _ ?_
           clear hK K)
        | (apply calm_step
           · rfl
           · intro w1 h1
             have d0 := (World.cell?_of_block (h1.kept.block b hb id)).trans hc
             have d1 := (World.cell?_of_block (h1.kept.block b' hb' id)).trans hc'
             first
               | (go_simp
                  first
                    | rfl
                    | exact ⟨rfl, h1⟩
                 )
           intro K hK
           go_simp
           refine hK _ ?_
           clear hK K)
      refine calm_nil ?_
      intro w2 H2
      go_wp2
      go_roundw
      case rel =>
        exact ⟨i + 1, by omega, by go_num, H2⟩
      case measure => simp [intOf]; omega
    · obtain rfl : i = l.length := by omega
      go_wp2
      go_ret
      exact ⟨rfl, HM.below (Nat.le_refl _) (fun _ h => h.elim)⟩
end Go.Proofs.YtiglgfonhdfpmaaGreat

/- The document's Same of states and SameOuts, of the same ones. Condition: they fit. (Printed by a program of mine.) -/
set_option linter.unusedVariables false
set_option linter.unusedSimpArgs false
namespace Go.Proofs.YtiglgfonhdfpmaaGreat
open Go.RowKit

section
variable {P : Program} {S : Nat → Prop} {w0 w : World} {l : List SP}
/-- A whole variable stored, as an operation of a script. -/
theorem St.came_store (H : St S w0 w l) (i : Nat) {g : Nat} {old : Array Value} {t : TypeId} (hi' : l[i]? = some (Blk g old t)) {o : Oper} {a : Act} (ty : TypeId) (x y : Operand) (ho : o.op = .store ty x y)
    (cells : Array Value) (hx : a.eval x = .pointer (some ⟨g, 0, none⟩)) (hy : a.eval y = .agg cells) (hi : (P.info? ty).map (·.size) = some cells.size) (hn : 0 < cells.size) (hold : old.size = cells.size) (h1 : allOne cells = true)
    {V : Value → (World → Prop) → Prop} (h : ∀ w', St S w0 w' (l.set i (Blk g cells t)) → ∃ I', V undef I' ∧ I' w') : CameV P V ((execOp a.eval o).run P w) := by
  obtain ⟨dst, op, ty', pos, after, gd⟩ := o
  simp only at ho
  subst ho
  have hb : rowSize w g = cells.size := by
    unfold rowSize
    rw [H.blk i hi']
    exact hold
  have hr := run_store_at (P := P) (w := w) (a := a) (dst := dst) (ty' := ty') (pos := pos) (after := after) (g := gd) (t := ty) (x := x) (y := y) (n := cells.size) hi hn (by rw [hx]; rfl) (by rw [hx]; rfl) (by rw [hx]; exact hb) (by rw [hy]; rfl) (by rw [hy]; rfl) (by rw [hy]; exact h1)
  rw [hr, hx, hy]
  exact h _ (H.setRow i hi' cells)
end
end Go.Proofs.YtiglgfonhdfpmaaGreat

/- What a step leaves: panes that may be. Plain laws. -/
set_option linter.unusedVariables false
set_option linter.unusedSimpArgs false
namespace Go.Proofs.YtiglgfonhdfpmaaGreat
open Go.RowKit

/-- Panes that a machine can hold. -/
def GoodA (q : Qry) (l : List Pn) : Prop := ∀ p ∈ l, p.g.right q = true ∧ (0 ≤ p.round ∧ p.round ≤ 1073741824) ∧ p.w.right = true
theorem good_fits {q : Qry} {l : List Pn} (h : GoodA q l) : ∀ p ∈ l, p.fits := fun p hp => by
  obtain ⟨h1, -, h3⟩ := h p hp
  obtain ⟨-, -, -, ht, -, -, hx, hy⟩ := right_nums h1
  exact ⟨fits_right h3, by omega, by omega, by omega⟩
theorem right_good {q : Qry} {s : Stt} (h : s.right q = true) : GoodA q s.panes := fun p hp => by
  obtain ⟨-, -, -, h4, -, -⟩ := right_parts h
  have := ok_parts (h4 p hp)
  exact ⟨this.2.2.2.2.1, this.2.2.2.1, this.2.1⟩
theorem with_mem {l : List Pn} {p y : Pn} : y ∈ withP l p ↔ y = p ∨ y ∈ l := by
  unfold withP
  constructor
  · intro h
    rcases List.mem_append.1 h with h | h
    · exact .inr (List.mem_of_mem_take h)
    · rcases List.mem_cons.1 h with h | h
      · exact .inl h
      · exact .inr (List.mem_of_mem_drop h)
  · rintro (rfl | h)
    · exact List.mem_append_right _ (List.mem_cons_self)
    · rw [← List.take_append_drop (placeP l p.w) l] at h
      rcases List.mem_append.1 h with h | h
      · exact List.mem_append_left _ h
      · exact List.mem_append_right _ (List.mem_cons_of_mem _ h)
theorem lay_good {q : Qry} {mk : Int} {x : Wd} {old : Wd → Bool} {v : Int} {l : List Pn} {y : List Pn × List Ot} (hq : q.right = true) (hv : valB v = true) (hx : x.right = true) (h : GoodA q l) (hy : layM q mk x old v l = some y) : GoodA q y.1 := by
  unfold layM at hy
  cases hg : gathM q x old l (Ag.zero, 0) with
  | none => rw [hg] at hy; cases hy
  | some s =>
    rw [hg] at hy
    simp only at hy
    have hs : s.1.right q = true ∧ 0 ≤ s.2 ∧ s.2 ≤ 1073741824 := gath_right (s := (Ag.zero, 0)) (fun p hp => ⟨(h p hp).1, (h p hp).2.1.1, (h p hp).2.1.2⟩) (zero_right hq) ⟨Int.le_refl 0, (by decide : (0 : Int) ≤ 1073741824)⟩ hg
    cases hp : putM q mk x s.1 s.2 v with
    | none => rw [hp] at hy; cases hy
    | some z =>
      rw [hp] at hy
      simp only [Option.some.injEq] at hy
      rw [← hy]
      have hz := put_good hs.1 hs.2 hv hp
      have hzw := put_w hp
      intro p hp2
      rcases with_mem.1 hp2 with rfl | hp2
      · exact ⟨hz.1, hz.2.1, by rw [hzw]; exact hx⟩
      · exact h p (List.mem_filter.1 hp2).1
theorem bec_right (q : Qry) {l : List Pn} {own : Wd} (h : own.right = true) : (becM q l own).right = true := by
  unfold becM
  split
  · exact (bec_law h _).1
  · exact h
theorem lays_good {q : Qry} {mk v : Int} (hq : q.right = true) (hv : valB v = true) : ∀ {ws : List Wd} {s y : EvS}, (∀ x ∈ ws, x.right = true) → GoodA q s.panes → laysM q mk v ws s = some y → GoodA q y.panes
  | [], s, y, _, h, hy => by
    obtain rfl : s = y := by simpa [laysM] using hy
    exact h
  | own :: r, s, y, hw, h, hy => by
    rw [lays_cons] at hy
    split at hy
    · exact lays_good hq hv (fun x hx => hw x (List.mem_cons_of_mem _ hx)) h hy
    · cases hl : layM q mk (becM q s.panes own) (oldM q own) v s.panes with
      | none => rw [hl] at hy; cases hy
      | some z =>
        rw [hl] at hy
        exact lays_good hq hv (fun x hx => hw x (List.mem_cons_of_mem _ hx)) (s := ⟨z.1, s.outs ++ z.2, true⟩) (lay_good hq hv (bec_right q (hw own (by simp))) h hl) hy
theorem right_val {x : Itm} (h : x.right = true) (hk : ¬ x.kind = 2) : valB x.value = true := by
  unfold Itm.right at h
  simp only [Bool.and_eq_true, decide_eq_true_eq] at h
  obtain ⟨-, h⟩ := h
  split at h
  · simp only [Bool.and_eq_true, decide_eq_true_eq] at h
    exact valB_iff.2 ⟨h.1.2, h.2⟩
  · first
    | (rw [if_neg hk] at h; cases h)
    | cases h
/-- Where a step goes, the state was right, and its panes may be. -/
theorem step_good {q : Qry} {s : Stt} {x : Itm} (h : (stepM q s x).e = 0) : s.right q = true ∧ x.right = true ∧ GoodA q (stepM q s x).s.panes ∧ (stepM q s x).s.panes.length ≤ 256 := by
  unfold stepM at h ⊢
  by_cases hr : (s.right q && x.right) = true
  · rw [if_pos hr] at h ⊢
    simp only [Bool.and_eq_true] at hr
    obtain ⟨h1, h2⟩ := hr
    have hg := right_good h1
    obtain ⟨hq, hmk, hlen, -, -, -⟩ := right_parts h1
    refine ⟨h1, h2, ?_⟩
    by_cases hk : x.kind = 2
    · rw [if_pos hk]
      simp only
      unfold markM
      split
      · exact ⟨hg, hlen⟩
      · refine ⟨fun p hp => ?_, ?_⟩
        · obtain ⟨y, hy, rfl⟩ := List.mem_map.1 (List.mem_filter.1 hp).1
          obtain ⟨g1, g2, g3⟩ := hg y hy
          unfold Pn.fire
          split
          · exact ⟨g1, ⟨by simp, by simp⟩, g3⟩
          · exact ⟨g1, g2, g3⟩
        · have := List.length_filter_le (fun p : Pn => !p.w.gone q x.time) (s.panes.map (Pn.fire x.time))
          rw [List.length_map] at this
          simp only
          omega
    · rw [if_neg hk] at h ⊢
      unfold eventM at h ⊢
      cases hl : laysM q s.mark x.value (winsOf q x.key x.time) ⟨s.panes, [], false⟩ with
      | none => exact ⟨hg, hlen⟩
      | some y =>
        simp only
        by_cases hf : 256 < y.panes.length
        · rw [if_pos hf]
          exact ⟨hg, hlen⟩
        · rw [if_neg hf]
          exact ⟨lays_good hq (right_val h2 hk) (fun z hz => (wins_right z hz).1) (s := ⟨s.panes, [], false⟩) hg hl, by simp only; omega⟩
  · rw [if_neg hr] at h
    simp at h
theorem outs_lays {q : Qry} {mk v : Int} : ∀ {ws : List Wd} {s y : EvS}, laysM q mk v ws s = some y → y.outs.length ≤ s.outs.length + ws.length
  | [], s, y, hy => by
    obtain rfl : s = y := by simpa [laysM] using hy
    simp
  | own :: r, s, y, hy => by
    rw [lays_cons] at hy
    split at hy
    · have := outs_lays hy
      rw [List.length_cons]
      omega
    · cases hl : layM q mk (becM q s.panes own) (oldM q own) v s.panes with
      | none => rw [hl] at hy; cases hy
      | some z =>
        rw [hl] at hy
        have h1 := outs_lay hl
        have h2 := outs_lays hy
        simp only [List.length_append, List.length_cons] at h2 ⊢
        omega
theorem sortC_len (l : List Pn) : (sortC l).length = l.length := (sortC_perm l).length_eq
theorem step_outs (q : Qry) (s : Stt) (x : Itm) : (stepM q s x).outs.length ≤ 256 := by
  unfold stepM
  by_cases hr : (s.right q && x.right) = true
  · rw [if_pos hr]
    simp only [Bool.and_eq_true] at hr
    obtain ⟨hq, hmk, hlen, -, -, -⟩ := right_parts hr.1
    by_cases hk : x.kind = 2
    · rw [if_pos hk]
      simp only
      unfold markM
      split
      · simp
      · simp only [List.length_map, sortC_len]
        have := List.length_filter_le (Pn.now x.time) s.panes
        omega
    · rw [if_neg hk]
      unfold eventM
      cases hl : laysM q s.mark x.value (winsOf q x.key x.time) ⟨s.panes, [], false⟩ with
      | none => simp
      | some y =>
        simp only
        have h1 := outs_lays hl
        have h2 := wins_len q x.key x.time
        simp only [List.length_nil] at h1
        split
        · simp
        · split
          · simp only; omega
          · simp only [List.length_append, List.length_singleton]; omega
  · rw [if_neg hr]
    simp

end Go.Proofs.YtiglgfonhdfpmaaGreat

/- oper.Run. Conditions: the state and the items fit the machine; so many. -/
set_option linter.unusedVariables false
set_option linter.unusedSimpArgs false
namespace Go.Proofs.YtiglgfonhdfpmaaGreat
open Go.RowKit

theorem results_cttt {P : Program} {fn : Func} {t a1 b1 c1 : Tmp} {ty : TypeId} (h : fn.results = #[.cell t ty, .tmp a1, .tmp b1, .tmp c1]) {tmps : Array Value} {w : World} {b : Nat} {cs : List Value} {d : TypeDesc} (ht : tmps.getD t undef = .pointer (some ⟨b, 0, none⟩)) (hr : w.rangeAt b 0 cs)
    (hu : P.underlying ty = some d) (hd : d.isRow = true) (hi : (P.info? ty).map (·.size) = some cs.length) : (results fn tmps).run P w = .ok (.tuple #[.agg cs.toArray, tmps.getD a1 undef, tmps.getD b1 undef, tmps.getD c1 undef]) w := by
  have h2 := run_loadVar_mid (P := P) w b 0 ty cs d hr hu hd hi
  have h3 : tmps[t]?.getD undef = .pointer (some ⟨b, 0, none⟩) := by simpa using ht
  simp [results, h, h3, asAddr, h2]
/-- What a run hands back, all its own. -/
def RunOk (S : Nat → Prop) (w : World) (r : RunR) (e : Ending) (w' : World) : Prop :=
  ∃ hs ho ms os H, e = .returned (.tuple #[.agg #[.int .i64 r.s.mark, hs], ho, .int .i64 r.n, .int .i64 r.e]) ∧ ms.map (·.p) = r.s.panes ∧ os.map (·.o) = r.outs ∧ (∀ m ∈ ms, Pm.own m ∈ H) ∧ (∀ y ∈ os, Om.own y ∈ H) ∧
    St S w w' [Row 68 8 hs ms.length (encP.all ms), Row 63 10 ho os.length (encO.all os), Pool H]
theorem runs_drop {q : Qry} {l : List Itm} {i : Nat} {x : Itm} (h : l[i]? = some x) (r : RunR) : runsM q (l.drop i) r = if (stepM q r.s x).e = 0 then runsM q (l.drop (i + 1)) ⟨(stepM q r.s x).s, r.outs ++ (stepM q r.s x).outs, r.n + 1, 0⟩ else ⟨r.s, r.outs, r.n, (stepM q r.s x).e⟩ := by
  obtain ⟨hlt, hx⟩ := List.getElem?_eq_some_iff.1 h
  rw [List.drop_eq_getElem_cons hlt, hx, runsM]

set_option maxHeartbeats 8000000 in
set_option maxRecDepth 100000 in
theorem oper_run (q : Qry) (s : Stt) (l : List Itm) {v iv : Value} (w : World) (hv : PnsRO w v s.panes) (hsl : s.panes.length ≤ 1073741824) (hf : ∀ p ∈ s.panes, p.fits) (hi : ItmsRO w iv l) (hil : l.length ≤ 1048576) :
    Calls Tryz.prog 21 #[qyV q, .agg #[.int .i64 s.mark, v], iv] w fun e w' => RunOk (fun _ => False) w (runsM q l ⟨s, [], 0, 0⟩) e w' := by
  obtain ⟨res, hres⟩ : ∃ z, runsM q l ⟨s, [], 0, 0⟩ = z := ⟨_, rfl⟩
  rw [hres]
  have hresh := Lib.hid hres
  clear hres
  have kc := fun w' (hk : Kept (fun _ => False) w w') => oper_copied (hv.later hk) hsl (fun p hp => (hf p hp).2.1)
  obtain ⟨ia, ic, rfl, hic, hifit, hix⟩ := hi
  have hixh := Lib.hid hix
  have hifith := Lib.hid hifit
  have hfh := Lib.hid hf
  obtain ⟨ms0, hm0, hv0, -⟩ := hv
  obtain ⟨va, vc, rfl, -, -⟩ := hv0
  have e0 : ms0.length = s.panes.length := by rw [← hm0, List.length_map]
  rw [e0] at kc ⊢
  clear hm0 e0 hf hifit hix
  have kst := Lib.hid (fun (st : Stt) (x : Itm) (v : Value) w' (hv : PnsRO w' v st.panes) (hl : st.panes.length ≤ 1073741824) (hf : ∀ p ∈ st.panes, p.fits) (hx : x.fits) => oper_step q st x w' hv hl hf hx)
  have hgood := Lib.hid (fun (st : Stt) (x : Itm) (h : (stepM q st x).e = 0) => step_good h)
  have houts := Lib.hid (fun (st : Stt) (x : Itm) => step_outs q st x)
  obtain ⟨SM, hSM⟩ : ∃ z : Stt → Itm → StepR, z = stepM q := ⟨_, rfl⟩
  have hSMh := Lib.hid hSM
  clear hSM
  obtain ⟨mk, ps⟩ := s
  simp only at kc hsl hfh ⊢
  unfold qyV qyC at kst
  unfold qyV qyC
  have H1 : St (fun _ => False) w _ [_] := (St.nil _ w).allocAt rfl #[.int .i64 q.kind, .int .i64 q.size, .int .i64 q.slide, .int .i64 q.late, .int .i64 q.agg, .int .i64 q.k] 23
  have H2 : St (fun _ => False) w _ [_, _] := H1.allocAt (B := w.heap.size + 1) (Array.size_push _) #[.int .i64 mk, .slice va ps.length vc] 45
  have H3 : St (fun _ => False) w _ [_, _, _] := H2.allocAt (B := w.heap.size + 1 + 1) (by simp [Array.size_push]) #[.int .i64 0, .slice none 0 0] 45
  go_enter Tryz.func21, Tryz.ntmps21
  go_upto_region 2 with (fail)
  obtain ⟨qb, hqb⟩ : ∃ b, w.heap.size = b := ⟨_, rfl⟩
  obtain ⟨sb, hsb⟩ : ∃ b, qb + 1 = b := ⟨_, rfl⟩
  obtain ⟨rb, hrb⟩ : ∃ b, sb + 1 = b := ⟨_, rfl⟩
  simp only [hqb, hsb, hrb] at H3 ⊢
  obtain ⟨w1, hw1⟩ : ∃ z, ((w.alloc (.cells #[.int .i64 q.kind, .int .i64 q.size, .int .i64 q.slide, .int .i64 q.late, .int .i64 q.agg, .int .i64 q.k] 23)).alloc (.cells #[.int .i64 mk, .slice va ps.length vc] 45)).alloc (.cells #[.int .i64 0, .slice none 0 0] 45) = z := ⟨_, rfl⟩
  rw [hw1] at H3
  rw [hw1]
  have H5 : St (fun _ => False) w w1 [Blk sb #[.int .i64 mk, .slice va ps.length vc] 45, Blk rb #[.int .i64 0, .slice none 0 0] 45, Blk qb #[.int .i64 q.kind, .int .i64 q.size, .int .i64 q.slide, .int .i64 q.late, .int .i64 q.agg, .int .i64 q.k] 23] := H3.pick [1, 0, 2]
  have hqbh := Lib.hid hqb
  clear hw1 hqb hsb hrb H1 H2 H3
  refine wp_script_tail 5 [(0, false), (1, false), (2, false), (3, false), (4, true)] (Fam fun w' => St (fun _ => False) w w' [Blk sb #[.int .i64 mk, .slice va ps.length vc] 45]) (fun w' => St (fun _ => False) w w' [Blk sb #[.int .i64 mk, .slice va ps.length vc] 45, Blk rb #[.int .i64 0, .slice none 0 0] 45, Blk qb #[.int .i64 q.kind, .int .i64 q.size, .int .i64 q.slide, .int .i64 q.late, .int .i64 q.agg, .int .i64 q.k] 23]) (by kernel_rfl) (by rfl) (by kernel_rfl) (by kernel_rfl) H5.drew (Fam.st (fun _ h => h.pick [0])) ?_
  iterate 4 first
    | (apply script_pass
       · rfl
       · rfl
       intro K hK
       go_simp
       refine hK _ ?_
       clear hK K)
    | (apply script_step
       · rfl
       · rfl
       · intro I hI w1 h1'
         have h1 := hI.2 _ h1'
         have c0 := h1.cell 0 0 rfl rfl
         have c1 := h1.cell 0 1 rfl rfl
         first
           | (go_simp
              first
                | rfl
                | exact ⟨rfl, h1'⟩
             )
       intro K hK
       go_simp
       refine hK _ ?_
       clear hK K)
  refine script_alone rfl rfl ?_
  intro V hV w1 h1
  go_simp
  refine (kc w1 h1.kept).mono ?_
  rintro e w2 ⟨cv, ms, rfl, hms, G1⟩
  have hmsh := Lib.hid hms
  clear hms
  obtain ⟨ca, cc, rfl, -, -⟩ := slice_form' (G1.row 0 rfl)
  have HX : St (fun _ => False) w w2 [Blk sb #[.int .i64 mk, .slice va ps.length vc] 45, Row 68 8 (.slice ca ms.length cc) ms.length (encP.all ms), Pool (ms.map Pm.own), Blk rb #[.int .i64 0, .slice none 0 0] 45, Blk qb #[.int .i64 q.kind, .int .i64 q.size, .int .i64 q.slide, .int .i64 q.late, .int .i64 q.agg, .int .i64 q.k] 23] := (h1.call0 G1).pick [2, 0, 1, 3, 4]
  refine ⟨_, rfl, fun w' => St (fun _ => False) w w' [Blk sb #[.int .i64 mk, .slice va ps.length vc] 45, Row 68 8 (.slice ca ms.length cc) ms.length (encP.all ms), Pool (ms.map Pm.own), Blk rb #[.int .i64 0, .slice none 0 0] 45, Blk qb #[.int .i64 q.kind, .int .i64 q.size, .int .i64 q.slide, .int .i64 q.late, .int .i64 q.agg, .int .i64 q.k] 23], hV _ _ _ (fun _ h => h) (Fam.st (fun _ h => h.pick [0])) ?_, HX⟩
  intro K hK
  go_simp
  refine hK _ ?_
  clear hK K hV V
  clear HX h1 G1 w1 w2
  refine script_nil ?_
  intro w5 H8
  simp only [List.drop_succ_cons, List.drop_zero]
  have hmsh := (by assumption : Hid (ms.map (·.p) = ps))
  have r0 := H8.free 0 0 rfl
  have r1 := H8.free 0 1 rfl
  have x0 := H8.cell 0 0 rfl rfl
  have x1 := H8.cell 0 1 rfl rfl
  have H8b := (H8.set 0 rfl 0 (.int .i64 mk)).set 0 rfl 1 (.slice ca ms.length cc)
  clear H5 kc
  go_upto_block 1 with (fail)
  obtain ⟨w6, hw6⟩ : ∃ z, (w5.setCell ⟨sb, 0, none⟩ (.int .i64 mk)).setCell ⟨sb, 1, none⟩ (.slice ca ms.length cc) = z := ⟨_, rfl⟩
  rw [hw6] at H8b
  try rw [hw6]
  have H9 : St (fun _ => False) w w6 [Blk sb #[.int .i64 mk, .slice ca ms.length cc] 45, Row 68 8 (.slice ca ms.length cc) ms.length (encP.all ms), Row 63 10 (.slice none 0 0) 0 (encO.all []), Pool (ms.map Pm.own), Blk rb #[.int .i64 0, .slice none 0 0] 45, Blk qb #[.int .i64 q.kind, .int .i64 q.size, .int .i64 q.slide, .int .i64 q.late, .int .i64 q.agg, .int .i64 q.k] 23] := (St.row_nil (l := [Blk sb #[.int .i64 mk, .slice ca ms.length cc] 45, _, _, _, _]) H8b 63 10).pick [1, 2, 0, 3, 4, 5]
  clear H8 H8b hw6 r0 r1 x0 x1
  go_loopw [10, 11, 12, 13, 14, 15, 24] (fun u _ _ _ _ _ j wr => ∃ (i : Nat) (st : Stt) (O : List Ot) (ms : List Pm) (os : List Om) (HH : List (Value × List Int)) (pa : Option Addr) (pc : Nat) (oa : Option Addr) (oc : Nat), i ≤ l.length ∧ u = .slice oa os.length oc ∧ j = .int .i64 i ∧ Hid (runsM q (l.drop i) ⟨st, O, i, 0⟩ = res) ∧ Hid (ms.map (·.p) = st.panes ∧ os.map (·.o) = O ∧ (∀ m ∈ ms, Pm.own m ∈ HH) ∧ (∀ y ∈ os, Om.own y ∈ HH) ∧ st.panes.length ≤ 1073741824 ∧ (∀ p ∈ st.panes, p.fits)) ∧ os.length ≤ 256 * i ∧ St (fun _ => False) w wr [Blk sb #[.int .i64 st.mark, .slice pa ms.length pc] 45, Row 68 8 (.slice pa ms.length pc) ms.length (encP.all ms), Row 63 10 (.slice oa os.length oc) os.length (encO.all os), Pool HH, Blk rb #[.int .i64 0, .slice none 0 0] 45, Blk qb #[.int .i64 q.kind, .int .i64 q.size, .int .i64 q.slide, .int .i64 q.late, .int .i64 q.agg, .int .i64 q.k] 23]) (fun _ _ _ _ _ _ j _ => l.length - (intOf j).toNat)
  case atStart => exact ⟨0, ⟨mk, ps⟩, [], ms, [], ms.map Pm.own, ca, cc, none, 0, Nat.zero_le _, rfl, rfl, Lib.hid (by rw [List.drop_zero]; exact hresh.out), Lib.hid ⟨hmsh.out, rfl, fun m hm => List.mem_map_of_mem hm, fun y hy => (by cases hy), hsl, hfh.out⟩, by simp, H9⟩
  case round =>
    clear H9 hmsh
    obtain ⟨i, st, O, ms1, os, HH, pa, pc, oa, oc, hi, rfl, rfl, hrun, hall, hos, HM⟩ := hrel
    by_cases hlt : i < l.length
    · obtain ⟨bi, oi, rfl, hbi, hcx⟩ := hixh.out (by intro e; rw [e] at hlt; simp at hlt)
      obtain ⟨x, hx⟩ : ∃ x, l[i]? = some x := ⟨_, List.getElem?_eq_getElem hlt⟩
      have hxf := hifith.out x (List.mem_of_getElem? hx)
      have hrd := runs_drop (q := q) hx ⟨st, O, i, 0⟩
      simp only at hrd
      have hst := kst.out st x (.slice pa ms1.length pc)
      have hgd := hgood.out st x
      have hou := houts.out st x
      obtain ⟨R, hR⟩ : ∃ z, stepM q st x = z := ⟨_, rfl⟩
      rw [hR] at hst hrd hgd hou
      clear hR
      have hrdh := Lib.hid hrd
      have hgdh := Lib.hid hgd
      have hrunh := hrun
      obtain ⟨hms1, hos1, hmo1, hoo1, hpl1, hpf1⟩ := hall.out
      have hms1h := Lib.hid hms1
      have hos1h := Lib.hid hos1
      have hmo1h := Lib.hid hmo1
      have hoo1h := Lib.hid hoo1
      have hro : ∀ w' (L : List SP), St (fun _ => False) w w' L → ∀ a b : Nat, L[a]? = some (Row 68 8 (.slice pa ms1.length pc) ms1.length (encP.all ms1)) → L[b]? = some (Pool HH) → PnsRO w' (.slice pa ms1.length pc) st.panes := fun w' L h a b ha hb => by
        rw [← hms1h.out]
        exact h.pnsRO a b ha hb hmo1h.out
      have hroh := Lib.hid hro
      have kstp := Lib.hid (fun w' hv => hst w' hv hpl1 hpf1 hxf)
      obtain ⟨x0, x1, x2, x3⟩ := itm_cells (hcx i x hx) (HM.kept.block bi hbi id)
      clear hrd hgd hrun hall hms1 hos1 hmo1 hoo1 hpl1 hpf1 hro hcx hst hx hxf
      obtain ⟨smk, hsmk⟩ : ∃ z, st.mark = z := ⟨_, rfl⟩
      rw [hsmk] at HM kstp
      have hsmkh := Lib.hid hsmk
      clear hsmk
      obtain ⟨xk, xy, xt, xv⟩ := x
      unfold textV at x1
      unfold itmV textV at kstp
      simp only at x0 x1 x2 x3 kstp
      have HA : St (fun _ => False) w _ (_ :: _) := HM.allocAt rfl #[.int .i64 xk, .string ⟨xy.toArray⟩, .int .i64 xt, .int .i64 xv] 56
      go_upto_region 6 with (fail)
      obtain ⟨wb, hwb⟩ : ∃ wb, wr.alloc (.cells #[.int .i64 xk, .string ⟨xy.toArray⟩, .int .i64 xt, .int .i64 xv] 56) = wb := ⟨_, rfl⟩
      obtain ⟨xb, hxb⟩ : ∃ xb, wr.heap.size = xb := ⟨_, rfl⟩
      rw [hwb, hxb] at HA
      try rw [hwb]
      try simp only [hxb]
      have HB : St (fun _ => False) w wb [Blk xb #[.int .i64 xk, .string ⟨xy.toArray⟩, .int .i64 xt, .int .i64 xv] 56, Blk sb #[.int .i64 smk, .slice pa ms1.length pc] 45, Row 68 8 (.slice pa ms1.length pc) ms1.length (encP.all ms1), Row 63 10 (.slice oa os.length oc) os.length (encO.all os), Pool HH, Blk rb #[.int .i64 0, .slice none 0 0] 45, Blk qb #[.int .i64 q.kind, .int .i64 q.size, .int .i64 q.slide, .int .i64 q.late, .int .i64 q.agg, .int .i64 q.k] 23] := HA
      clear hwb hxb x0 x1 x2 x3 HM HA
      have d0 := HB.cell 6 0 rfl rfl
      have d1 := HB.cell 6 1 rfl rfl
      have d2 := HB.cell 6 2 rfl rfl
      have d3 := HB.cell 6 3 rfl rfl
      have d4 := HB.cell 6 4 rfl rfl
      have d5 := HB.cell 6 5 rfl rfl
      have s0 := HB.cell 1 0 rfl rfl
      have s1 := HB.cell 1 1 rfl rfl
      have y0 := HB.cell 0 0 rfl rfl
      have y1 := HB.cell 0 1 rfl rfl
      have y2 := HB.cell 0 2 rfl rfl
      have y3 := HB.cell 0 3 rfl rfl
      obtain ⟨⟨mk2, ps2⟩, O2, e2⟩ := R
      simp only at hrdh hgdh hou
      go_upto_region 7 with (go_at_call 27; go_must (refine (kstp.out wb (hroh.out wb _ HB 2 4 rfl rfl)).mono ?_; rintro e w3 ⟨hs, ho, ms2, os2, H2, rfl, hm2, ho2, hmo2, hoo2, G1⟩; have hm2h := Lib.hid hm2; have ho2h := Lib.hid ho2; have hmo2h := Lib.hid hmo2; have hoo2h := Lib.hid hoo2; clear hm2 ho2 hmo2 hoo2; obtain ⟨p2, c2, rfl, -, -⟩ := slice_form' (G1.row 0 rfl); obtain ⟨o2, k2, rfl, -, -⟩ := slice_form' (G1.row 1 rfl); have HC := (HB.call0 G1).allocAt rfl #[.int .i64 mk2, .slice p2 ms2.length c2] 45))
      obtain ⟨w4, hw4⟩ : ∃ z, w3.alloc (.cells #[.int .i64 mk2, .slice p2 ms2.length c2] 45) = z := ⟨_, rfl⟩
      obtain ⟨nb, hnb⟩ : ∃ z, w3.heap.size = z := ⟨_, rfl⟩
      rw [hw4, hnb] at HC
      try rw [hw4]
      try simp only [hnb]
      have HD : St (fun _ => False) w w4 [Blk nb #[.int .i64 mk2, .slice p2 ms2.length c2] 45, Row 68 8 (.slice p2 ms2.length c2) ms2.length (encP.all ms2), Row 63 10 (.slice o2 os2.length k2) os2.length (encO.all os2), Pool H2, Blk xb #[.int .i64 xk, .string ⟨xy.toArray⟩, .int .i64 xt, .int .i64 xv] 56, Blk sb #[.int .i64 smk, .slice pa ms1.length pc] 45, Row 68 8 (.slice pa ms1.length pc) ms1.length (encP.all ms1), Row 63 10 (.slice oa os.length oc) os.length (encO.all os), Pool HH, Blk rb #[.int .i64 0, .slice none 0 0] 45, Blk qb #[.int .i64 q.kind, .int .i64 q.size, .int .i64 q.slide, .int .i64 q.late, .int .i64 q.agg, .int .i64 q.k] 23] := HC
      clear hw4 hnb HC HB G1 d0 d1 d2 d3 d4 d5 s0 s1 y0 y1 y2 y3 kstp hroh
      by_cases he : e2 = 0
      · subst he
        have hrd2 : runsM q (l.drop i) ⟨st, O, i, 0⟩ = runsM q (l.drop (i + 1)) ⟨⟨mk2, ps2⟩, O ++ O2, i + 1, 0⟩ := by rw [hrdh.out, if_pos rfl]
        have hrd2h := Lib.hid hrd2
        obtain ⟨-, -, hgg, hgl⟩ := hgdh.out rfl
        have hggh := Lib.hid hgg
        have ho2l : os2.length ≤ 256 := by
          have := hou
          rw [← ho2h.out, List.length_map] at this
          exact this
        clear hrd2 hgg hrdh hgdh hou
        go_upto_region 9 with (fail)
        refine wp_script [(0, false), (1, false), (2, false), (3, true), (4, true), (5, false)] (Fam fun w' => St (fun _ => False) w w' [Blk nb #[.int .i64 mk2, .slice p2 ms2.length c2] 45]) (fun w' => St (fun _ => False) w w' [Blk nb #[.int .i64 mk2, .slice p2 ms2.length c2] 45, Row 68 8 (.slice p2 ms2.length c2) ms2.length (encP.all ms2), Row 63 10 (.slice o2 os2.length k2) os2.length (encO.all os2), Pool H2, Blk xb #[.int .i64 xk, .string ⟨xy.toArray⟩, .int .i64 xt, .int .i64 xv] 56, Blk sb #[.int .i64 smk, .slice pa ms1.length pc] 45, Row 68 8 (.slice pa ms1.length pc) ms1.length (encP.all ms1), Row 63 10 (.slice oa os.length oc) os.length (encO.all os), Pool HH, Blk rb #[.int .i64 0, .slice none 0 0] 45, Blk qb #[.int .i64 q.kind, .int .i64 q.size, .int .i64 q.slide, .int .i64 q.late, .int .i64 q.agg, .int .i64 q.k] 23]) (by kernel_rfl) (by rfl) (by kernel_rfl) (by kernel_rfl) HD.drew (Fam.st (fun _ h => h.pick [0])) ?_
        iterate 3 first
          | (apply script_pass
             · rfl
             · rfl
             intro K hK
             go_simp
             refine hK _ ?_
             clear hK K)
          | (apply script_step
             · rfl
             · rfl
             · intro I hI w1 h1'
               have h1 := hI.2 _ h1'
               have c0 := h1.cell 0 0 rfl rfl
               have c1 := h1.cell 0 1 rfl rfl
               first
                 | (go_simp
                    first
                      | rfl
                      | exact ⟨rfl, h1'⟩
                   )
             intro K hK
             go_simp
             refine hK _ ?_
             clear hK K)
        refine script_alone rfl rfl ?_
        intro V hV w1 h1
        have hro2 := Enc.RO.cells (Enc.own encO (h1.row 2 rfl) rfl)
        obtain ⟨ro1, ro2, ro3, ro4, ro5⟩ := hro2
        cases ro3
        refine h1.came_append 7 rfl (.tmp 44) (.tmp 45) 46 rfl Tryz.underlying46 Tryz.info63 (by decide) rfl (encO.all os2) rfl (encO.all_len os2) (fun e => by rw [ro4 e]; rfl) (fun ad e j u hj => ro5 ad e j u hj) (encO.all_one1 os2) (by omega) ?_
        intro v' w2 HX
        obtain ⟨na, nc, rfl, -, -⟩ := slice_form' (HX.row 7 rfl)
        have HY : St (fun _ => False) w w2 [Blk nb #[.int .i64 mk2, .slice p2 ms2.length c2] 45, Row 68 8 (.slice p2 ms2.length c2) ms2.length (encP.all ms2), Row 63 10 (.slice o2 os2.length k2) os2.length (encO.all os2), Pool H2, Blk xb #[.int .i64 xk, .string ⟨xy.toArray⟩, .int .i64 xt, .int .i64 xv] 56, Blk sb #[.int .i64 smk, .slice pa ms1.length pc] 45, Row 68 8 (.slice pa ms1.length pc) ms1.length (encP.all ms1), Row 63 10 (.slice na (os.length + os2.length) nc) (os.length + os2.length) (encO.all os ++ encO.all os2), Pool HH, Blk rb #[.int .i64 0, .slice none 0 0] 45, Blk qb #[.int .i64 q.kind, .int .i64 q.size, .int .i64 q.slide, .int .i64 q.late, .int .i64 q.agg, .int .i64 q.k] 23] := HX
        refine ⟨fun w' => St (fun _ => False) w w' [Blk nb #[.int .i64 mk2, .slice p2 ms2.length c2] 45, Row 68 8 (.slice p2 ms2.length c2) ms2.length (encP.all ms2), Row 63 10 (.slice o2 os2.length k2) os2.length (encO.all os2), Pool H2, Blk xb #[.int .i64 xk, .string ⟨xy.toArray⟩, .int .i64 xt, .int .i64 xv] 56, Blk sb #[.int .i64 smk, .slice pa ms1.length pc] 45, Row 68 8 (.slice pa ms1.length pc) ms1.length (encP.all ms1), Row 63 10 (.slice na (os.length + os2.length) nc) (os.length + os2.length) (encO.all os ++ encO.all os2), Pool HH, Blk rb #[.int .i64 0, .slice none 0 0] 45, Blk qb #[.int .i64 q.kind, .int .i64 q.size, .int .i64 q.slide, .int .i64 q.late, .int .i64 q.agg, .int .i64 q.k] 23], hV _ _ _ (fun _ h => h) (Fam.st (fun _ h => h.pick [0])) ?_, HY⟩
        intro K hK
        go_simp
        refine hK _ ?_
        clear hK K hV V
        clear HY HX h1 ro4 ro5 w1 w2
        refine script_alone rfl rfl ?_
        intro V hV w1 h1
        have r0 := h1.free 5 0 rfl
        have r1 := h1.free 5 1 rfl
        have z0 := h1.cell 5 0 rfl rfl
        have z1 := h1.cell 5 1 rfl rfl
        have HY := (h1.set 5 rfl 0 (.int .i64 mk2)).set 5 rfl 1 (.slice p2 ms2.length c2)
        go_simp
        refine ⟨fun w' => St (fun _ => False) w w' [Blk nb #[.int .i64 mk2, .slice p2 ms2.length c2] 45, Row 68 8 (.slice p2 ms2.length c2) ms2.length (encP.all ms2), Row 63 10 (.slice o2 os2.length k2) os2.length (encO.all os2), Pool H2, Blk xb #[.int .i64 xk, .string ⟨xy.toArray⟩, .int .i64 xt, .int .i64 xv] 56, Blk sb #[.int .i64 mk2, .slice p2 ms2.length c2] 45, Row 68 8 (.slice pa ms1.length pc) ms1.length (encP.all ms1), Row 63 10 (.slice na (os.length + os2.length) nc) (os.length + os2.length) (encO.all os ++ encO.all os2), Pool HH, Blk rb #[.int .i64 0, .slice none 0 0] 45, Blk qb #[.int .i64 q.kind, .int .i64 q.size, .int .i64 q.slide, .int .i64 q.late, .int .i64 q.agg, .int .i64 q.k] 23], hV _ _ _ (fun _ h => h) (Fam.st (fun _ h => h.pick [0])) ?_, HY⟩
        intro K hK
        go_simp
        refine hK _ ?_
        clear hK K hV V
        clear HY h1 w1 r0 r1 z0 z1
        iterate 1 first
          | (apply script_pass
             · rfl
             · rfl
             intro K hK
             go_simp
             refine hK _ ?_
             clear hK K)
          | (apply script_step
             · rfl
             · rfl
             · intro I hI w1 h1'
               have h1 := hI.2 _ h1'
               first
                 | (go_simp
                    first
                      | rfl
                      | exact ⟨rfl, h1'⟩
                   )
             intro K hK
             go_simp
             refine hK _ ?_
             clear hK K)
        refine script_nil ?_
        intro w9 H9
        have HJ := (St.pool_join (H9.pick [3, 8, 5, 1, 7, 9, 10])).pick [1, 2, 3, 0, 4, 5]
        go_wp2
        go_roundw
        case rel =>
          refine ⟨i + 1, ⟨mk2, ps2⟩, O ++ O2, ms2, os ++ os2, H2 ++ HH, p2, c2, na, nc, by omega, by rw [List.length_append], by first | rfl | go_num, Lib.hid (by rw [← hrunh.out, hrd2h.out]), Lib.hid ⟨hm2h.out, by rw [List.map_append, hos1h.out, ho2h.out], fun m hm => List.mem_append_left _ (hmo2h.out m hm), ?_, Nat.le_trans hgl (by decide), good_fits hggh.out⟩, by rw [List.length_append]; omega, ?_⟩
          · intro y hy
            rcases List.mem_append.1 hy with hy | hy
            · exact List.mem_append_right _ (hoo1h.out y hy)
            · exact List.mem_append_left _ (hoo2h.out y hy)
          · rw [List.length_append, Enc.all_app]
            exact HJ
        case measure => simp [intOf]; omega
      · have hrd2 : res = ⟨st, O, i, e2⟩ := by rw [← hrunh.out, hrdh.out, if_neg he]
        have hfres := Lib.hid hrd2
        clear hrd2 hrdh hgdh hou
        have s0 := HD.cell 5 0 rfl rfl
        have s1 := HD.cell 5 1 rfl rfl
        have r0 := HD.free 9 0 rfl
        have r1 := HD.free 9 1 rfl
        have z0 := HD.cell 9 0 rfl rfl
        have z1 := HD.cell 9 1 rfl rfl
        have HE := (HD.set 9 rfl 0 (.int .i64 smk)).set 9 rfl 1 (.slice pa ms1.length pc)
        go_wp2
        try simp only [Exit.inBlock, Exit.then]
        refine bodyPost_ret (results_cttt rfl rfl (blk_range (cs := [.int .i64 smk, .slice pa ms1.length pc]) (HE.blk 9 rfl)) Tryz.underlying45 rfl (by kernel_rfl)) rfl ?_
        rw [hfres.out]
        exact ⟨.slice pa ms1.length pc, .slice oa os.length oc, ms1, os, HH, by rw [hsmkh.out]; rfl, hms1h.out, hos1h.out, hmo1h.out, hoo1h.out, HE.pick [6, 7, 8]⟩
    · obtain rfl : i = l.length := by omega
      have hres2 : ⟨st, O, l.length, 0⟩ = res := by rw [← hrun.out, List.drop_length]; rfl
      have hfres := Lib.hid hres2
      obtain ⟨hms1, hos1, hmo1, hoo1, -, -⟩ := hall.out
      have hms1h := Lib.hid hms1
      have hos1h := Lib.hid hos1
      have hmo1h := Lib.hid hmo1
      have hoo1h := Lib.hid hoo1
      clear hres2 hrun hall hms1 hos1 hmo1 hoo1
      obtain ⟨smk, hsmk⟩ : ∃ z, st.mark = z := ⟨_, rfl⟩
      rw [hsmk] at HM
      have hsmkh := Lib.hid hsmk
      clear hsmk
      have s0 := HM.cell 0 0 rfl rfl
      have s1 := HM.cell 0 1 rfl rfl
      have r0 := HM.free 4 0 rfl
      have r1 := HM.free 4 1 rfl
      have z0 := HM.cell 4 0 rfl rfl
      have z1 := HM.cell 4 1 rfl rfl
      have HE := (HM.set 4 rfl 0 (.int .i64 smk)).set 4 rfl 1 (.slice pa ms1.length pc)
      go_wp2
      try simp only [Exit.inBlock, Exit.then]
      refine bodyPost_ret (results_cttt rfl rfl (blk_range (cs := [.int .i64 smk, .slice pa ms1.length pc]) (HE.blk 4 rfl)) Tryz.underlying45 rfl (by kernel_rfl)) rfl ?_
      rw [← hfres.out]
      exact ⟨.slice pa ms1.length pc, .slice oa os.length oc, ms1, os, HH, by rw [hsmkh.out]; rfl, hms1h.out, hos1h.out, hmo1h.out, hoo1h.out, HE.pick [1, 2, 3]⟩

end Go.Proofs.YtiglgfonhdfpmaaGreat

/- A long region that draws its order: a quicker look at its order. Laws over any program. -/
set_option linter.unusedVariables false
set_option linter.unusedSimpArgs false
namespace Go.Proofs.YtiglgfonhdfpmaaGreat
open Go.RowKit

def edgesBack (k : Nat) (o : Oper) : Bool := o.after.toList.all fun e => !Region.binds .any e || decide (e.on < k)
def pairOk (ops : Array Oper) (i : Nat) (oi oj : Oper) : Bool := oi.apart ops oj || oj.after.toList.any (fun e => Region.binds .any e && e.on == i)
def lexGo (ops : Array Oper) : Nat → List Oper → Bool
  | _, [] => true
  | k, o :: r => edgesBack k o && r.all (fun oj => pairOk ops k o oj) && lexGo ops (k + 1) r
def lexFast (l : List Oper) : Bool := Region.noSelect l.toArray && lexGo l.toArray 0 l
theorem lexGo_from {ops : Array Oper} : ∀ (r : List Oper) (k : Nat) (listed : Array Bool), (∀ j, r[j]? = ops[k + j]?) → k + r.length = ops.size → listed.size = ops.size → (∀ (j : Nat) (h : j < listed.size), listed[j] = decide (j < k)) → lexGo ops k r = true → Region.lexFrom .any ops r.length k listed = true
  | [], k, listed, _, hk, hs, hl, _ => by
    simp only [List.length_nil, Nat.add_zero] at hk
    simp only [List.length_nil, Region.lexFrom]
    rw [List.isEmpty_iff]
    refine List.eq_nil_iff_forall_not_mem.2 (fun j hj => ?_)
    obtain ⟨h1, o, h2, -⟩ := mem_ready.1 hj
    have hlt := (Array.getElem?_eq_some_iff.1 h2).1
    rw [Array.getD_eq_getD_getElem?, Array.getElem?_eq_getElem (by omega)] at h1
    simp only [Option.getD_some, hl, decide_eq_false_iff_not] at h1
    omega
  | o :: r, k, listed, hr, hk, hs, hl, h => by
    simp only [lexGo, Bool.and_eq_true] at h
    obtain ⟨⟨h1, h2⟩, h3⟩ := h
    have h0 : ops[k]? = some o := by simpa using (hr 0).symm
    have hklt := (Array.getElem?_eq_some_iff.1 h0).1
    simp only [List.length_cons, Region.lexFrom, Bool.and_eq_true]
    refine ⟨⟨?_, ?_⟩, ?_⟩
    · rw [List.contains_iff_mem]
      refine mem_ready.2 ⟨?_, o, h0, fun e he hb => ?_⟩
      · rw [Array.getD_eq_getD_getElem?, Array.getElem?_eq_getElem (by omega)]
        simp [hl]
      · have := List.all_eq_true.1 h1 e (by simpa using he)
        rw [hb] at this
        simp only [Bool.not_true, Bool.false_or, decide_eq_true_eq] at this
        rw [Array.getD_eq_getD_getElem?, Array.getElem?_eq_getElem (by omega)]
        simp [hl, this]
    · unfold Region.free
      rw [h0]
      simp only [List.all_eq_true, List.mem_range]
      intro j hj
      by_cases e1 : j = k
      · simp [e1]
      · by_cases e2 : j < k
        · have : listed.getD j true = true := by
            rw [Array.getD_eq_getD_getElem?, Array.getElem?_eq_getElem (by omega)]
            simp [hl, e2]
          simp [this]
        · obtain ⟨oj, hoj⟩ : ∃ oj, ops[j]? = some oj := ⟨_, Array.getElem?_eq_getElem hj⟩
          have hm : r[j - k - 1]? = some oj := by
            have := hr (j - k - 1 + 1)
            rw [show k + (j - k - 1 + 1) = j by omega, hoj] at this
            simpa using this
          have := List.all_eq_true.1 h2 oj (List.mem_of_getElem? hm)
          unfold pairOk at this
          rw [hoj]
          simp only [Bool.or_eq_true] at this ⊢
          rcases this with this | this
          · exact .inr (.inr this)
          · exact .inr (.inl (by rw [← Array.any_toList]; exact this))
    · refine lexGo_from r (k + 1) _ (fun j => ?_) (by simp only [List.length_cons] at hk; omega) (by simp [hs]) (fun j hj => ?_) h3
      · have := hr (j + 1)
        rw [show k + 1 + j = k + (j + 1) by omega, ← this]
        simp
      · simp only [Array.size_setIfInBounds] at hj
        rw [Array.getElem_setIfInBounds hj]
        by_cases e : k = j
        · simp [e]
        · rw [if_neg e, hl]
          by_cases e2 : j < k
          · simp [e2, show j < k + 1 by omega]
          · simp [e2, show ¬ j < k + 1 by omega]
theorem lexB_fast {l : List Oper} (h : lexFast l = true) : Region.lexB .any l.toArray = true := by
  unfold lexFast at h
  simp only [Bool.and_eq_true] at h
  unfold Region.lexB
  rw [h.1, Bool.true_and]
  have := lexGo_from (ops := l.toArray) l 0 (Array.replicate l.toArray.size false) (by simp) (by simp) (by simp) (by simp) h.2
  simpa using this
section
variable {P : Program}
theorem wp_calmF {id : Nat} {Q : Exit → Act → World → Prop} {a : Act} {w : World} {l : List Oper} (I : World → Prop) (hm : P.follows .mixedOrders = true) (hB : lexFast l = true) (h0 : I w.drew)
    (h : Calm P l.toArray I (fun a' => ∀ w', I w' → Q .normal a' w') l a) : (Code.region id l.toArray true).wp P Q a w := wp_calm I hm (lexB_fast hB) h0 h
end

end Go.Proofs.YtiglgfonhdfpmaaGreat

/- law10's first. (Printed by a program of mine.) -/
set_option linter.unusedVariables false
set_option linter.unusedSimpArgs false
namespace Go.Proofs.YtiglgfonhdfpmaaGreat
open Go.RowKit

def q10 : Qry := ⟨1, 10, 0, 0, 2, 0⟩
def e10 : Itm := ⟨1, [97], 3, 5⟩
def m10 : Itm := ⟨2, [], 10, 0⟩
def l10 : List Itm := [e10, e10, m10, e10]
def o10 : Ot := ⟨false, itm00, ⟨[97], 0, 10⟩, 1, [10]⟩
def p10 : Ot := ⟨true, e10, wd000, 0, []⟩
theorem l10_fit : ∀ x ∈ l10, x.fits := by
  intro x hx
  simp only [l10, List.mem_cons, List.not_mem_nil, or_false] at hx
  rcases hx with rfl | rfl | rfl | rfl <;> simp [Itm.fits, e10, m10]
theorem runs10 : runsM q10 l10 ⟨stt0, [], 0, 0⟩ = ⟨⟨10, []⟩, [o10, p10], 4, 0⟩ := by kernel_rfl
theorem step10 : stepM q10 ⟨10, []⟩ itm00 = ⟨⟨10, []⟩, [], 2⟩ := by kernel_rfl
theorem right10 : Stt.right q10 ⟨10, []⟩ = true := by kernel_rfl
theorem two_outs {os : List Om} {a b : Ot} (h : os.map (·.o) = [a, b]) : ∃ y0 y1, os = [y0, y1] ∧ y0.o = a ∧ y1.o = b := by
  match os, h with
  | [y0, y1], h =>
    simp only [List.map_cons, List.map_nil, List.cons.injEq, and_true] at h
    exact ⟨y0, y1, rfl, h.1, h.2⟩
theorem new_below (w : World) : Calls Tryz.prog 22 #[] w fun e w' => e = .returned (.agg #[.int .i64 (-1), .slice none 0 0]) ∧ Below w.heap.size w w' := by
  refine (oper_new w).mono ?_
  rintro e w' ⟨rfl, H⟩
  exact ⟨rfl, H.below (Nat.le_refl _) (fun _ h => h.elim)⟩

set_option maxHeartbeats 8000000 in
set_option maxRecDepth 100000 in
theorem first10 (w : World) : Calls Tryz.prog 19 #[] w fun e w' => e = .returned (.bool true) ∧ Below w.heap.size w w' := by
  have kr := fun w' (iv : Value) (h : ItmsRO w' iv l10) => oper_run q10 stt0 l10 w' (PnsRO.nil w') (by simp [stt0]) (fun p hp => by simp [stt0] at hp) h (by decide)
  rw [runs10] at kr
  unfold RunOk at kr
  simp only [stt0] at kr
  unfold qyV qyC at kr
  simp only [q10] at kr
  have e4 : (((4 : Nat)) : Int) = 4 := rfl
  simp only [e4] at kr
  have ks := fun w' (v : Value) (hv : PnsRO w' v []) => oper_step q10 ⟨10, []⟩ itm00 w' hv (by simp) (fun p hp => by simp at hp) (by simp [Itm.fits, itm00])
  rw [step10] at ks
  unfold StepOk at ks
  unfold qyV qyC itmV textV at ks
  simp only [q10, itm00] at ks
  have kt := fun w' (v v' : Value) (hv : PnsRO w' v []) (hv' : PnsRO w' v' []) => oper_same ⟨10, []⟩ w' hv hv' (by simp) (fun p hp => by simp at hp)
  simp only at kt
  have kg := fun w' (v : Value) (hv : PnsRO w' v []) => oper_right q10 ⟨10, []⟩ w' hv (by simp) (fun p hp => by simp at hp)
  rw [right10] at kg
  unfold qyV qyC at kg
  simp only [q10] at kg
  have ko := fun w' (v : Value) (hv : OtsRO w' v [o10, p10]) => oper_outs w' hv hv (by simp) (fun p hp => by
    simp only [List.mem_cons, List.not_mem_nil, or_false] at hp
    rcases hp with rfl | rfl <;> simp [o10, p10])
  have kn := fun w' => new_below w'
  have H1 : St (fun _ => False) w _ [Blk w.heap.size #[.int .i64 0, .int .i64 0, .int .i64 0, .int .i64 0, .int .i64 0, .int .i64 0] 23] := (St.nil _ w).allocAt rfl #[.int .i64 0, .int .i64 0, .int .i64 0, .int .i64 0, .int .i64 0, .int .i64 0] 23
  go_enter Tryz.func19, Tryz.ntmps19
  go_upto_region 2 with ((with_reducible show Go.wpList _ _ _ (Oper.mk none (Op.store 23 (Operand.tmp 1) _) _ _ _ _ :: _) _ _); go_must (refine St.list_store H1 0 rfl rfl 23 (.tmp 1) (.tmp 11) rfl #[.int .i64 1, .int .i64 10, .int .i64 0, .int .i64 0, .int .i64 2, .int .i64 0] rfl rfl (by kernel_rfl) rfl (by simp [Value.oneCell']) ?_; intro wq H2 hzwq; clear hzwq))
  obtain ⟨qb, hqb⟩ : ∃ g, w.heap.size = g := ⟨_, rfl⟩
  rw [hqb] at H2
  try simp only [hqb]
  have H3 : St (fun _ => False) w _ [_, _, _] := (H2.allocAt rfl #[.int .i64 0, .string ⟨#[]⟩, .int .i64 0, .int .i64 0] 56).allocAt (B := wq.heap.size + 1) (by simp [Array.size_push]) #[.int .i64 0, .string ⟨#[]⟩, .int .i64 0, .int .i64 0] 56
  go_upto_region 3 with (first | ((with_reducible show Go.wpList _ _ _ (Oper.mk none (Op.store 56 (Operand.tmp 2) _) _ _ _ _ :: _) _ _); go_must (refine St.list_store H3 1 rfl rfl 56 (.tmp 2) (.tmp 12) rfl #[.int .i64 1, .string ⟨#[97]⟩, .int .i64 3, .int .i64 5] rfl rfl (by kernel_rfl) rfl (by simp [Value.oneCell']) ?_; intro we H4 hzwe; clear hzwe)) | ((with_reducible show Go.wpList _ _ _ (Oper.mk none (Op.store 56 (Operand.tmp 3) _) _ _ _ _ :: _) _ _); go_must (refine St.list_store H4 0 rfl rfl 56 (.tmp 3) (.tmp 13) rfl #[.int .i64 2, .string ⟨#[]⟩, .int .i64 10, .int .i64 0] rfl rfl (by kernel_rfl) rfl (by simp [Value.oneCell']) ?_; intro wm H5 hzwm; clear hzwm)))
  obtain ⟨eb, heb⟩ : ∃ g, wq.heap.size = g := ⟨_, rfl⟩
  rw [heb] at H5
  try simp only [heb]
  obtain ⟨mb, hmb⟩ : ∃ g, eb + 1 = g := ⟨_, rfl⟩
  rw [hmb] at H5
  try simp only [hmb]
  have H6 : St (fun _ => False) w wm [Blk qb #[.int .i64 1, .int .i64 10, .int .i64 0, .int .i64 0, .int .i64 2, .int .i64 0] 23, Blk eb #[.int .i64 1, .string ⟨#[97]⟩, .int .i64 3, .int .i64 5] 56, Blk mb #[.int .i64 2, .string ⟨#[]⟩, .int .i64 10, .int .i64 0] 56] := H5.pick [2, 1, 0]
  have hqbh := Lib.hid hqb
  clear hqb heb hmb H1 H2 H3 H4 H5
  go_simp
  go_cut [4, 5, 6, 7, 14] from 15 to 26 (fun p4 p5 p6 p7 _ wx => ∃ (sb : Nat) (pa : Option Addr) (pc : Nat) (oa : Option Addr) (oc : Nat) (y0 y1 : Om) (H : List (Value × List Int)), p4 = .pointer (some ⟨sb, 0, none⟩) ∧ p5 = .slice oa 2 oc ∧ p6 = .int .i64 4 ∧ p7 = .int .i64 0 ∧ Hid ((y0.o = o10 ∧ y1.o = p10) ∧ Om.own y0 ∈ H ∧ Om.own y1 ∈ H) ∧ St (fun _ => False) w wx [Blk sb #[.int .i64 10, .slice pa 0 pc] 45, Row 68 8 (.slice pa 0 pc) 0 (encP.all []), Row 63 10 (.slice oa 2 oc) 2 (encO.all [y0, y1]), Pool H, Blk qb #[.int .i64 1, .int .i64 10, .int .i64 0, .int .i64 0, .int .i64 2, .int .i64 0] 23, Blk eb #[.int .i64 1, .string ⟨#[97]⟩, .int .i64 3, .int .i64 5] 56, Blk mb #[.int .i64 2, .string ⟨#[]⟩, .int .i64 10, .int .i64 0] 56])
  case first =>
    refine wp_plan (.small 0 (.small 1 (.small 2 (.small 3 (.small 4 (.small 5 (.fork 6 13 (.fork 7 13 (.small 8 (.small 9 (.small 10 (.small 11 (.small 12 (.alone 13 (.alone 14 (.small 15 (.small 16 (.small 17 .nil)))))))))) (.alone 7 (.small 8 (.small 9 (.small 10 (.small 11 (.small 12 (.alone 14 (.small 15 (.small 16 (.small 17 .nil))))))))))) (.alone 6 (.alone 7 (.small 8 (.small 9 (.small 10 (.small 11 (.small 12 (.alone 14 (.small 15 (.small 16 (.small 17 .nil)))))))))))))))))) (Fam fun w' => St (fun _ => False) w w' [Blk qb #[.int .i64 1, .int .i64 10, .int .i64 0, .int .i64 0, .int .i64 2, .int .i64 0] 23, Blk eb #[.int .i64 1, .string ⟨#[97]⟩, .int .i64 3, .int .i64 5] 56, Blk mb #[.int .i64 2, .string ⟨#[]⟩, .int .i64 10, .int .i64 0] 56]) (fun w' => St (fun _ => False) w w' [Blk qb #[.int .i64 1, .int .i64 10, .int .i64 0, .int .i64 0, .int .i64 2, .int .i64 0] 23, Blk eb #[.int .i64 1, .string ⟨#[97]⟩, .int .i64 3, .int .i64 5] 56, Blk mb #[.int .i64 2, .string ⟨#[]⟩, .int .i64 10, .int .i64 0] 56]) (by kernel_rfl) (by rfl) (by kernel_rfl) (by kernel_rfl) H6.drew (Fam.st (fun _ h => h.pick [0, 1, 2])) ?_
    iterate 6 first
      | (apply plan_pass
         · rfl
         · rfl
         intro K hK
         go_simp
         refine hK _ ?_
         clear hK K)
      | (apply plan_step
         · rfl
         · rfl
         · intro I hI w1 h1'
           have h1 := hI.2 _ h1'
           have c0 := h1.cell 0 0 rfl rfl
           have c1 := h1.cell 0 1 rfl rfl
           have c2 := h1.cell 0 2 rfl rfl
           have c3 := h1.cell 0 3 rfl rfl
           have c4 := h1.cell 0 4 rfl rfl
           have c5 := h1.cell 0 5 rfl rfl
           have d0 := h1.cell 1 0 rfl rfl
           have d1 := h1.cell 1 1 rfl rfl
           have d2 := h1.cell 1 2 rfl rfl
           have d3 := h1.cell 1 3 rfl rfl
           have g0 := h1.cell 2 0 rfl rfl
           have g1 := h1.cell 2 1 rfl rfl
           have g2 := h1.cell 2 2 rfl rfl
           have g3 := h1.cell 2 3 rfl rfl
           first
             | (go_simp
                first
                  | rfl
                  | exact ⟨rfl, h1'⟩
                  | (go_at_call 22; with_reducible exact Fam.call hI h1' (kn w1))
               )
         intro K hK
         go_simp
         refine hK _ ?_
         clear hK K)
    refine plan_two rfl rfl rfl rfl ?_ ?_
    · skip
      intro V hV w1 h1
      go_simp
      obtain ⟨xb, hxb⟩ : ∃ g, w1.heap.size = g := ⟨_, rfl⟩
      have HX : St (fun _ => False) w _ [Blk xb #[.int .i64 1, .string ⟨#[97]⟩, .int .i64 3, .int .i64 5, .int .i64 1, .string ⟨#[97]⟩, .int .i64 3, .int .i64 5, .int .i64 2, .string ⟨#[]⟩, .int .i64 10, .int .i64 0, .int .i64 1, .string ⟨#[97]⟩, .int .i64 3, .int .i64 5] 56, Blk qb #[.int .i64 1, .int .i64 10, .int .i64 0, .int .i64 0, .int .i64 2, .int .i64 0] 23, Blk eb #[.int .i64 1, .string ⟨#[97]⟩, .int .i64 3, .int .i64 5] 56, Blk mb #[.int .i64 2, .string ⟨#[]⟩, .int .i64 10, .int .i64 0] 56] := h1.allocAt hxb #[.int .i64 1, .string ⟨#[97]⟩, .int .i64 3, .int .i64 5, .int .i64 1, .string ⟨#[97]⟩, .int .i64 3, .int .i64 5, .int .i64 2, .string ⟨#[]⟩, .int .i64 10, .int .i64 0, .int .i64 1, .string ⟨#[97]⟩, .int .i64 3, .int .i64 5] 56
      simp only [hxb]
      refine ⟨fun w' => St (fun _ => False) w w' [Blk xb #[.int .i64 1, .string ⟨#[97]⟩, .int .i64 3, .int .i64 5, .int .i64 1, .string ⟨#[97]⟩, .int .i64 3, .int .i64 5, .int .i64 2, .string ⟨#[]⟩, .int .i64 10, .int .i64 0, .int .i64 1, .string ⟨#[97]⟩, .int .i64 3, .int .i64 5] 56, Blk qb #[.int .i64 1, .int .i64 10, .int .i64 0, .int .i64 0, .int .i64 2, .int .i64 0] 23, Blk eb #[.int .i64 1, .string ⟨#[97]⟩, .int .i64 3, .int .i64 5] 56, Blk mb #[.int .i64 2, .string ⟨#[]⟩, .int .i64 10, .int .i64 0] 56], hV _ _ _ (fun _ h => h) (Fam.st (fun _ h => h.pick [1, 2, 3])) ?_, HX⟩
      intro K hK
      go_simp
      refine hK _ ?_
      clear hK K hV V
      clear HX h1 hxb w1
      refine plan_two rfl rfl rfl rfl ?_ ?_
      · skip
        intro V hV w1 h1
        go_simp
        refine (kr w1 _ (itms_blk (l := l10) (h1.blk 0 rfl) l10_fit)).mono ?_
        rintro e w2 ⟨hs, ho, ms, os, H, rfl, hm, ho2, hmo, hoo, G1⟩
        obtain rfl : ms = [] := List.map_eq_nil_iff.1 hm
        obtain ⟨y0, y1, rfl, hy0, hy1⟩ := two_outs ho2
        have hall : Hid ((y0.o = o10 ∧ y1.o = p10) ∧ Om.own y0 ∈ H ∧ Om.own y1 ∈ H) := Lib.hid ⟨⟨hy0, hy1⟩, hoo y0 (by simp), hoo y1 (by simp)⟩
        clear hm ho2 hmo hoo hy0 hy1
        obtain ⟨pa, pc, rfl, -, -⟩ := slice_form' (G1.row 0 rfl)
        obtain ⟨oa, oc, rfl, -, -⟩ := slice_form' (G1.row 1 rfl)
        have HX : St (fun _ => False) w w2 [Row 68 8 (.slice pa 0 pc) 0 (encP.all []), Row 63 10 (.slice oa 2 oc) 2 (encO.all [y0, y1]), Pool H, Blk xb #[.int .i64 1, .string ⟨#[97]⟩, .int .i64 3, .int .i64 5, .int .i64 1, .string ⟨#[97]⟩, .int .i64 3, .int .i64 5, .int .i64 2, .string ⟨#[]⟩, .int .i64 10, .int .i64 0, .int .i64 1, .string ⟨#[97]⟩, .int .i64 3, .int .i64 5] 56, Blk qb #[.int .i64 1, .int .i64 10, .int .i64 0, .int .i64 0, .int .i64 2, .int .i64 0] 23, Blk eb #[.int .i64 1, .string ⟨#[97]⟩, .int .i64 3, .int .i64 5] 56, Blk mb #[.int .i64 2, .string ⟨#[]⟩, .int .i64 10, .int .i64 0] 56] := h1.call0 G1
        refine ⟨_, rfl, fun w' => St (fun _ => False) w w' [Row 68 8 (.slice pa 0 pc) 0 (encP.all []), Row 63 10 (.slice oa 2 oc) 2 (encO.all [y0, y1]), Pool H, Blk xb #[.int .i64 1, .string ⟨#[97]⟩, .int .i64 3, .int .i64 5, .int .i64 1, .string ⟨#[97]⟩, .int .i64 3, .int .i64 5, .int .i64 2, .string ⟨#[]⟩, .int .i64 10, .int .i64 0, .int .i64 1, .string ⟨#[97]⟩, .int .i64 3, .int .i64 5] 56, Blk qb #[.int .i64 1, .int .i64 10, .int .i64 0, .int .i64 0, .int .i64 2, .int .i64 0] 23, Blk eb #[.int .i64 1, .string ⟨#[97]⟩, .int .i64 3, .int .i64 5] 56, Blk mb #[.int .i64 2, .string ⟨#[]⟩, .int .i64 10, .int .i64 0] 56], hV _ _ _ (fun _ h => h) (Fam.st (fun _ h => h.pick [4, 5, 6])) ?_, HX⟩
        intro K hK
        go_simp
        refine hK _ ?_
        clear hK K hV V
        clear HX h1 G1 w1 w2
        iterate 5 first
          | (apply plan_pass
             · rfl
             · rfl
             intro K hK
             go_simp
             refine hK _ ?_
             clear hK K)
          | (apply plan_step
             · rfl
             · rfl
             · intro I hI w1 h1'
               have h1 := hI.2 _ h1'
               first
                 | (go_simp
                    first
                      | rfl
                      | exact ⟨rfl, h1'⟩
                   )
             intro K hK
             go_simp
             refine hK _ ?_
             clear hK K)
        refine plan_one rfl rfl ?_
        intro V hV w1 h1
        go_simp
        obtain ⟨sb, hsb⟩ : ∃ g, w1.heap.size = g := ⟨_, rfl⟩
        have HX : St (fun _ => False) w _ [Blk sb #[.int .i64 0, .slice none 0 0] 45, Row 68 8 (.slice pa 0 pc) 0 (encP.all []), Row 63 10 (.slice oa 2 oc) 2 (encO.all [y0, y1]), Pool H, Blk xb #[.int .i64 1, .string ⟨#[97]⟩, .int .i64 3, .int .i64 5, .int .i64 1, .string ⟨#[97]⟩, .int .i64 3, .int .i64 5, .int .i64 2, .string ⟨#[]⟩, .int .i64 10, .int .i64 0, .int .i64 1, .string ⟨#[97]⟩, .int .i64 3, .int .i64 5] 56, Blk qb #[.int .i64 1, .int .i64 10, .int .i64 0, .int .i64 0, .int .i64 2, .int .i64 0] 23, Blk eb #[.int .i64 1, .string ⟨#[97]⟩, .int .i64 3, .int .i64 5] 56, Blk mb #[.int .i64 2, .string ⟨#[]⟩, .int .i64 10, .int .i64 0] 56] := h1.allocAt hsb #[.int .i64 0, .slice none 0 0] 45
        simp only [hsb]
        refine ⟨fun w' => St (fun _ => False) w w' [Blk sb #[.int .i64 0, .slice none 0 0] 45, Row 68 8 (.slice pa 0 pc) 0 (encP.all []), Row 63 10 (.slice oa 2 oc) 2 (encO.all [y0, y1]), Pool H, Blk xb #[.int .i64 1, .string ⟨#[97]⟩, .int .i64 3, .int .i64 5, .int .i64 1, .string ⟨#[97]⟩, .int .i64 3, .int .i64 5, .int .i64 2, .string ⟨#[]⟩, .int .i64 10, .int .i64 0, .int .i64 1, .string ⟨#[97]⟩, .int .i64 3, .int .i64 5] 56, Blk qb #[.int .i64 1, .int .i64 10, .int .i64 0, .int .i64 0, .int .i64 2, .int .i64 0] 23, Blk eb #[.int .i64 1, .string ⟨#[97]⟩, .int .i64 3, .int .i64 5] 56, Blk mb #[.int .i64 2, .string ⟨#[]⟩, .int .i64 10, .int .i64 0] 56], hV _ _ _ (fun _ h => h) (Fam.st (fun _ h => h.pick [5, 6, 7])) ?_, HX⟩
        intro K hK
        go_simp
        refine hK _ ?_
        clear hK K hV V
        clear HX h1 hsb w1
        refine plan_one rfl rfl ?_
        intro V hV w1 h1
        refine h1.came_store 0 rfl 45 (.tmp 4) (.tmp 23) rfl #[.int .i64 10, .slice pa 0 pc] rfl rfl (by kernel_rfl) (Nat.zero_lt_succ _) rfl (by simp [allOne, Value.oneCell']) ?_
        intro w2 HX
        refine ⟨fun w' => St (fun _ => False) w w' [Blk sb #[.int .i64 10, .slice pa 0 pc] 45, Row 68 8 (.slice pa 0 pc) 0 (encP.all []), Row 63 10 (.slice oa 2 oc) 2 (encO.all [y0, y1]), Pool H, Blk xb #[.int .i64 1, .string ⟨#[97]⟩, .int .i64 3, .int .i64 5, .int .i64 1, .string ⟨#[97]⟩, .int .i64 3, .int .i64 5, .int .i64 2, .string ⟨#[]⟩, .int .i64 10, .int .i64 0, .int .i64 1, .string ⟨#[97]⟩, .int .i64 3, .int .i64 5] 56, Blk qb #[.int .i64 1, .int .i64 10, .int .i64 0, .int .i64 0, .int .i64 2, .int .i64 0] 23, Blk eb #[.int .i64 1, .string ⟨#[97]⟩, .int .i64 3, .int .i64 5] 56, Blk mb #[.int .i64 2, .string ⟨#[]⟩, .int .i64 10, .int .i64 0] 56], hV _ _ _ (fun _ h => h) (Fam.st (fun _ h => h.pick [5, 6, 7])) ?_, HX⟩
        intro K hK
        go_simp
        refine hK _ ?_
        clear hK K hV V
        clear HX h1 w1 w2
        iterate 3 first
          | (apply plan_pass
             · rfl
             · rfl
             intro K hK
             go_simp
             refine hK _ ?_
             clear hK K)
          | (apply plan_step
             · rfl
             · rfl
             · intro I hI w1 h1'
               have h1 := hI.2 _ h1'
               first
                 | (go_simp
                    first
                      | rfl
                      | exact ⟨rfl, h1'⟩
                   )
             intro K hK
             go_simp
             refine hK _ ?_
             clear hK K)
        refine plan_nil ?_
        intro w9 H9
        go_wp2
        go_meet
        exact ⟨sb, pa, pc, oa, oc, y0, y1, H, rfl, rfl, rfl, rfl, by assumption, H9.pick [0, 1, 2, 3, 5, 6, 7]⟩
      · skip
        intro V hV w1 h1
        go_simp
        obtain ⟨sb, hsb⟩ : ∃ g, w1.heap.size = g := ⟨_, rfl⟩
        have HX : St (fun _ => False) w _ [Blk sb #[.int .i64 0, .slice none 0 0] 45, Blk xb #[.int .i64 1, .string ⟨#[97]⟩, .int .i64 3, .int .i64 5, .int .i64 1, .string ⟨#[97]⟩, .int .i64 3, .int .i64 5, .int .i64 2, .string ⟨#[]⟩, .int .i64 10, .int .i64 0, .int .i64 1, .string ⟨#[97]⟩, .int .i64 3, .int .i64 5] 56, Blk qb #[.int .i64 1, .int .i64 10, .int .i64 0, .int .i64 0, .int .i64 2, .int .i64 0] 23, Blk eb #[.int .i64 1, .string ⟨#[97]⟩, .int .i64 3, .int .i64 5] 56, Blk mb #[.int .i64 2, .string ⟨#[]⟩, .int .i64 10, .int .i64 0] 56] := h1.allocAt hsb #[.int .i64 0, .slice none 0 0] 45
        simp only [hsb]
        refine ⟨fun w' => St (fun _ => False) w w' [Blk sb #[.int .i64 0, .slice none 0 0] 45, Blk xb #[.int .i64 1, .string ⟨#[97]⟩, .int .i64 3, .int .i64 5, .int .i64 1, .string ⟨#[97]⟩, .int .i64 3, .int .i64 5, .int .i64 2, .string ⟨#[]⟩, .int .i64 10, .int .i64 0, .int .i64 1, .string ⟨#[97]⟩, .int .i64 3, .int .i64 5] 56, Blk qb #[.int .i64 1, .int .i64 10, .int .i64 0, .int .i64 0, .int .i64 2, .int .i64 0] 23, Blk eb #[.int .i64 1, .string ⟨#[97]⟩, .int .i64 3, .int .i64 5] 56, Blk mb #[.int .i64 2, .string ⟨#[]⟩, .int .i64 10, .int .i64 0] 56], hV _ _ _ (fun _ h => h) (Fam.st (fun _ h => h.pick [2, 3, 4])) ?_, HX⟩
        intro K hK
        go_simp
        refine hK _ ?_
        clear hK K hV V
        clear HX h1 hsb w1
        refine plan_one rfl rfl ?_
        intro V hV w1 h1
        go_simp
        refine (kr w1 _ (itms_blk (l := l10) (h1.blk 1 rfl) l10_fit)).mono ?_
        rintro e w2 ⟨hs, ho, ms, os, H, rfl, hm, ho2, hmo, hoo, G1⟩
        obtain rfl : ms = [] := List.map_eq_nil_iff.1 hm
        obtain ⟨y0, y1, rfl, hy0, hy1⟩ := two_outs ho2
        have hall : Hid ((y0.o = o10 ∧ y1.o = p10) ∧ Om.own y0 ∈ H ∧ Om.own y1 ∈ H) := Lib.hid ⟨⟨hy0, hy1⟩, hoo y0 (by simp), hoo y1 (by simp)⟩
        clear hm ho2 hmo hoo hy0 hy1
        obtain ⟨pa, pc, rfl, -, -⟩ := slice_form' (G1.row 0 rfl)
        obtain ⟨oa, oc, rfl, -, -⟩ := slice_form' (G1.row 1 rfl)
        have HX : St (fun _ => False) w w2 [Row 68 8 (.slice pa 0 pc) 0 (encP.all []), Row 63 10 (.slice oa 2 oc) 2 (encO.all [y0, y1]), Pool H, Blk sb #[.int .i64 0, .slice none 0 0] 45, Blk xb #[.int .i64 1, .string ⟨#[97]⟩, .int .i64 3, .int .i64 5, .int .i64 1, .string ⟨#[97]⟩, .int .i64 3, .int .i64 5, .int .i64 2, .string ⟨#[]⟩, .int .i64 10, .int .i64 0, .int .i64 1, .string ⟨#[97]⟩, .int .i64 3, .int .i64 5] 56, Blk qb #[.int .i64 1, .int .i64 10, .int .i64 0, .int .i64 0, .int .i64 2, .int .i64 0] 23, Blk eb #[.int .i64 1, .string ⟨#[97]⟩, .int .i64 3, .int .i64 5] 56, Blk mb #[.int .i64 2, .string ⟨#[]⟩, .int .i64 10, .int .i64 0] 56] := h1.call0 G1
        refine ⟨_, rfl, fun w' => St (fun _ => False) w w' [Row 68 8 (.slice pa 0 pc) 0 (encP.all []), Row 63 10 (.slice oa 2 oc) 2 (encO.all [y0, y1]), Pool H, Blk sb #[.int .i64 0, .slice none 0 0] 45, Blk xb #[.int .i64 1, .string ⟨#[97]⟩, .int .i64 3, .int .i64 5, .int .i64 1, .string ⟨#[97]⟩, .int .i64 3, .int .i64 5, .int .i64 2, .string ⟨#[]⟩, .int .i64 10, .int .i64 0, .int .i64 1, .string ⟨#[97]⟩, .int .i64 3, .int .i64 5] 56, Blk qb #[.int .i64 1, .int .i64 10, .int .i64 0, .int .i64 0, .int .i64 2, .int .i64 0] 23, Blk eb #[.int .i64 1, .string ⟨#[97]⟩, .int .i64 3, .int .i64 5] 56, Blk mb #[.int .i64 2, .string ⟨#[]⟩, .int .i64 10, .int .i64 0] 56], hV _ _ _ (fun _ h => h) (Fam.st (fun _ h => h.pick [5, 6, 7])) ?_, HX⟩
        intro K hK
        go_simp
        refine hK _ ?_
        clear hK K hV V
        clear HX h1 G1 w1 w2
        iterate 5 first
          | (apply plan_pass
             · rfl
             · rfl
             intro K hK
             go_simp
             refine hK _ ?_
             clear hK K)
          | (apply plan_step
             · rfl
             · rfl
             · intro I hI w1 h1'
               have h1 := hI.2 _ h1'
               first
                 | (go_simp
                    first
                      | rfl
                      | exact ⟨rfl, h1'⟩
                   )
             intro K hK
             go_simp
             refine hK _ ?_
             clear hK K)
        refine plan_one rfl rfl ?_
        intro V hV w1 h1
        refine h1.came_store 3 rfl 45 (.tmp 4) (.tmp 23) rfl #[.int .i64 10, .slice pa 0 pc] rfl rfl (by kernel_rfl) (Nat.zero_lt_succ _) rfl (by simp [allOne, Value.oneCell']) ?_
        intro w2 HX
        refine ⟨fun w' => St (fun _ => False) w w' [Row 68 8 (.slice pa 0 pc) 0 (encP.all []), Row 63 10 (.slice oa 2 oc) 2 (encO.all [y0, y1]), Pool H, Blk sb #[.int .i64 10, .slice pa 0 pc] 45, Blk xb #[.int .i64 1, .string ⟨#[97]⟩, .int .i64 3, .int .i64 5, .int .i64 1, .string ⟨#[97]⟩, .int .i64 3, .int .i64 5, .int .i64 2, .string ⟨#[]⟩, .int .i64 10, .int .i64 0, .int .i64 1, .string ⟨#[97]⟩, .int .i64 3, .int .i64 5] 56, Blk qb #[.int .i64 1, .int .i64 10, .int .i64 0, .int .i64 0, .int .i64 2, .int .i64 0] 23, Blk eb #[.int .i64 1, .string ⟨#[97]⟩, .int .i64 3, .int .i64 5] 56, Blk mb #[.int .i64 2, .string ⟨#[]⟩, .int .i64 10, .int .i64 0] 56], hV _ _ _ (fun _ h => h) (Fam.st (fun _ h => h.pick [5, 6, 7])) ?_, HX⟩
        intro K hK
        go_simp
        refine hK _ ?_
        clear hK K hV V
        clear HX h1 w1 w2
        iterate 3 first
          | (apply plan_pass
             · rfl
             · rfl
             intro K hK
             go_simp
             refine hK _ ?_
             clear hK K)
          | (apply plan_step
             · rfl
             · rfl
             · intro I hI w1 h1'
               have h1 := hI.2 _ h1'
               first
                 | (go_simp
                    first
                      | rfl
                      | exact ⟨rfl, h1'⟩
                   )
             intro K hK
             go_simp
             refine hK _ ?_
             clear hK K)
        refine plan_nil ?_
        intro w9 H9
        go_wp2
        go_meet
        exact ⟨sb, pa, pc, oa, oc, y0, y1, H, rfl, rfl, rfl, rfl, by assumption, H9.pick [3, 0, 1, 2, 5, 6, 7]⟩
    · skip
      intro V hV w1 h1
      go_simp
      obtain ⟨sb, hsb⟩ : ∃ g, w1.heap.size = g := ⟨_, rfl⟩
      have HX : St (fun _ => False) w _ [Blk sb #[.int .i64 0, .slice none 0 0] 45, Blk qb #[.int .i64 1, .int .i64 10, .int .i64 0, .int .i64 0, .int .i64 2, .int .i64 0] 23, Blk eb #[.int .i64 1, .string ⟨#[97]⟩, .int .i64 3, .int .i64 5] 56, Blk mb #[.int .i64 2, .string ⟨#[]⟩, .int .i64 10, .int .i64 0] 56] := h1.allocAt hsb #[.int .i64 0, .slice none 0 0] 45
      simp only [hsb]
      refine ⟨fun w' => St (fun _ => False) w w' [Blk sb #[.int .i64 0, .slice none 0 0] 45, Blk qb #[.int .i64 1, .int .i64 10, .int .i64 0, .int .i64 0, .int .i64 2, .int .i64 0] 23, Blk eb #[.int .i64 1, .string ⟨#[97]⟩, .int .i64 3, .int .i64 5] 56, Blk mb #[.int .i64 2, .string ⟨#[]⟩, .int .i64 10, .int .i64 0] 56], hV _ _ _ (fun _ h => h) (Fam.st (fun _ h => h.pick [1, 2, 3])) ?_, HX⟩
      intro K hK
      go_simp
      refine hK _ ?_
      clear hK K hV V
      clear HX h1 hsb w1
      refine plan_one rfl rfl ?_
      intro V hV w1 h1
      go_simp
      obtain ⟨xb, hxb⟩ : ∃ g, w1.heap.size = g := ⟨_, rfl⟩
      have HX : St (fun _ => False) w _ [Blk xb #[.int .i64 1, .string ⟨#[97]⟩, .int .i64 3, .int .i64 5, .int .i64 1, .string ⟨#[97]⟩, .int .i64 3, .int .i64 5, .int .i64 2, .string ⟨#[]⟩, .int .i64 10, .int .i64 0, .int .i64 1, .string ⟨#[97]⟩, .int .i64 3, .int .i64 5] 56, Blk sb #[.int .i64 0, .slice none 0 0] 45, Blk qb #[.int .i64 1, .int .i64 10, .int .i64 0, .int .i64 0, .int .i64 2, .int .i64 0] 23, Blk eb #[.int .i64 1, .string ⟨#[97]⟩, .int .i64 3, .int .i64 5] 56, Blk mb #[.int .i64 2, .string ⟨#[]⟩, .int .i64 10, .int .i64 0] 56] := h1.allocAt hxb #[.int .i64 1, .string ⟨#[97]⟩, .int .i64 3, .int .i64 5, .int .i64 1, .string ⟨#[97]⟩, .int .i64 3, .int .i64 5, .int .i64 2, .string ⟨#[]⟩, .int .i64 10, .int .i64 0, .int .i64 1, .string ⟨#[97]⟩, .int .i64 3, .int .i64 5] 56
      simp only [hxb]
      refine ⟨fun w' => St (fun _ => False) w w' [Blk xb #[.int .i64 1, .string ⟨#[97]⟩, .int .i64 3, .int .i64 5, .int .i64 1, .string ⟨#[97]⟩, .int .i64 3, .int .i64 5, .int .i64 2, .string ⟨#[]⟩, .int .i64 10, .int .i64 0, .int .i64 1, .string ⟨#[97]⟩, .int .i64 3, .int .i64 5] 56, Blk sb #[.int .i64 0, .slice none 0 0] 45, Blk qb #[.int .i64 1, .int .i64 10, .int .i64 0, .int .i64 0, .int .i64 2, .int .i64 0] 23, Blk eb #[.int .i64 1, .string ⟨#[97]⟩, .int .i64 3, .int .i64 5] 56, Blk mb #[.int .i64 2, .string ⟨#[]⟩, .int .i64 10, .int .i64 0] 56], hV _ _ _ (fun _ h => h) (Fam.st (fun _ h => h.pick [2, 3, 4])) ?_, HX⟩
      intro K hK
      go_simp
      refine hK _ ?_
      clear hK K hV V
      clear HX h1 hxb w1
      refine plan_one rfl rfl ?_
      intro V hV w1 h1
      go_simp
      refine (kr w1 _ (itms_blk (l := l10) (h1.blk 0 rfl) l10_fit)).mono ?_
      rintro e w2 ⟨hs, ho, ms, os, H, rfl, hm, ho2, hmo, hoo, G1⟩
      obtain rfl : ms = [] := List.map_eq_nil_iff.1 hm
      obtain ⟨y0, y1, rfl, hy0, hy1⟩ := two_outs ho2
      have hall : Hid ((y0.o = o10 ∧ y1.o = p10) ∧ Om.own y0 ∈ H ∧ Om.own y1 ∈ H) := Lib.hid ⟨⟨hy0, hy1⟩, hoo y0 (by simp), hoo y1 (by simp)⟩
      clear hm ho2 hmo hoo hy0 hy1
      obtain ⟨pa, pc, rfl, -, -⟩ := slice_form' (G1.row 0 rfl)
      obtain ⟨oa, oc, rfl, -, -⟩ := slice_form' (G1.row 1 rfl)
      have HX : St (fun _ => False) w w2 [Row 68 8 (.slice pa 0 pc) 0 (encP.all []), Row 63 10 (.slice oa 2 oc) 2 (encO.all [y0, y1]), Pool H, Blk xb #[.int .i64 1, .string ⟨#[97]⟩, .int .i64 3, .int .i64 5, .int .i64 1, .string ⟨#[97]⟩, .int .i64 3, .int .i64 5, .int .i64 2, .string ⟨#[]⟩, .int .i64 10, .int .i64 0, .int .i64 1, .string ⟨#[97]⟩, .int .i64 3, .int .i64 5] 56, Blk sb #[.int .i64 0, .slice none 0 0] 45, Blk qb #[.int .i64 1, .int .i64 10, .int .i64 0, .int .i64 0, .int .i64 2, .int .i64 0] 23, Blk eb #[.int .i64 1, .string ⟨#[97]⟩, .int .i64 3, .int .i64 5] 56, Blk mb #[.int .i64 2, .string ⟨#[]⟩, .int .i64 10, .int .i64 0] 56] := h1.call0 G1
      refine ⟨_, rfl, fun w' => St (fun _ => False) w w' [Row 68 8 (.slice pa 0 pc) 0 (encP.all []), Row 63 10 (.slice oa 2 oc) 2 (encO.all [y0, y1]), Pool H, Blk xb #[.int .i64 1, .string ⟨#[97]⟩, .int .i64 3, .int .i64 5, .int .i64 1, .string ⟨#[97]⟩, .int .i64 3, .int .i64 5, .int .i64 2, .string ⟨#[]⟩, .int .i64 10, .int .i64 0, .int .i64 1, .string ⟨#[97]⟩, .int .i64 3, .int .i64 5] 56, Blk sb #[.int .i64 0, .slice none 0 0] 45, Blk qb #[.int .i64 1, .int .i64 10, .int .i64 0, .int .i64 0, .int .i64 2, .int .i64 0] 23, Blk eb #[.int .i64 1, .string ⟨#[97]⟩, .int .i64 3, .int .i64 5] 56, Blk mb #[.int .i64 2, .string ⟨#[]⟩, .int .i64 10, .int .i64 0] 56], hV _ _ _ (fun _ h => h) (Fam.st (fun _ h => h.pick [5, 6, 7])) ?_, HX⟩
      intro K hK
      go_simp
      refine hK _ ?_
      clear hK K hV V
      clear HX h1 G1 w1 w2
      iterate 5 first
        | (apply plan_pass
           · rfl
           · rfl
           intro K hK
           go_simp
           refine hK _ ?_
           clear hK K)
        | (apply plan_step
           · rfl
           · rfl
           · intro I hI w1 h1'
             have h1 := hI.2 _ h1'
             first
               | (go_simp
                  first
                    | rfl
                    | exact ⟨rfl, h1'⟩
                 )
           intro K hK
           go_simp
           refine hK _ ?_
           clear hK K)
      refine plan_one rfl rfl ?_
      intro V hV w1 h1
      refine h1.came_store 4 rfl 45 (.tmp 4) (.tmp 23) rfl #[.int .i64 10, .slice pa 0 pc] rfl rfl (by kernel_rfl) (Nat.zero_lt_succ _) rfl (by simp [allOne, Value.oneCell']) ?_
      intro w2 HX
      refine ⟨fun w' => St (fun _ => False) w w' [Row 68 8 (.slice pa 0 pc) 0 (encP.all []), Row 63 10 (.slice oa 2 oc) 2 (encO.all [y0, y1]), Pool H, Blk xb #[.int .i64 1, .string ⟨#[97]⟩, .int .i64 3, .int .i64 5, .int .i64 1, .string ⟨#[97]⟩, .int .i64 3, .int .i64 5, .int .i64 2, .string ⟨#[]⟩, .int .i64 10, .int .i64 0, .int .i64 1, .string ⟨#[97]⟩, .int .i64 3, .int .i64 5] 56, Blk sb #[.int .i64 10, .slice pa 0 pc] 45, Blk qb #[.int .i64 1, .int .i64 10, .int .i64 0, .int .i64 0, .int .i64 2, .int .i64 0] 23, Blk eb #[.int .i64 1, .string ⟨#[97]⟩, .int .i64 3, .int .i64 5] 56, Blk mb #[.int .i64 2, .string ⟨#[]⟩, .int .i64 10, .int .i64 0] 56], hV _ _ _ (fun _ h => h) (Fam.st (fun _ h => h.pick [5, 6, 7])) ?_, HX⟩
      intro K hK
      go_simp
      refine hK _ ?_
      clear hK K hV V
      clear HX h1 w1 w2
      iterate 3 first
        | (apply plan_pass
           · rfl
           · rfl
           intro K hK
           go_simp
           refine hK _ ?_
           clear hK K)
        | (apply plan_step
           · rfl
           · rfl
           · intro I hI w1 h1'
             have h1 := hI.2 _ h1'
             first
               | (go_simp
                  first
                    | rfl
                    | exact ⟨rfl, h1'⟩
                 )
           intro K hK
           go_simp
           refine hK _ ?_
           clear hK K)
      refine plan_nil ?_
      intro w9 H9
      go_wp2
      go_meet
      exact ⟨sb, pa, pc, oa, oc, y0, y1, H, rfl, rfl, rfl, rfl, by assumption, H9.pick [4, 0, 1, 2, 5, 6, 7]⟩
  case rest =>
    obtain ⟨sb, pa, pc, oa, oc, y0, y1, H, rfl, rfl, rfl, rfl, hall, HC⟩ := hcut
    clear H6 kr
    obtain ⟨ob, rfl⟩ : ∃ g, oa = some ⟨g, 0, none⟩ := by
      obtain ⟨_, _, e, -, h⟩ := slice_form' (HC.row 2 rfl)
      obtain ⟨g, hg⟩ := h (by decide)
      injection e with e1
      exact ⟨g, e1.trans hg⟩
    have hpn : ∀ w' (L' : List SP), St (fun _ => False) w w' L' → ∀ i j : Nat, L'[i]? = some (Row 68 8 (.slice pa 0 pc) 0 (encP.all [])) → L'[j]? = some (Pool H) → PnsRO w' (.slice pa 0 pc) [] := fun w' L' h i j hi hj => h.pnsRO (ms := []) i j hi hj (fun m hm => by simp at hm)
    have hot : ∀ w' (L' : List SP), St (fun _ => False) w w' L' → ∀ i j : Nat, L'[i]? = some (Row 63 10 (.slice (some ⟨ob, 0, none⟩) 2 oc) 2 (encO.all [y0, y1])) → L'[j]? = some (Pool H) → OtsRO w' (.slice (some ⟨ob, 0, none⟩) 2 oc) [o10, p10] := fun w' L' h i j hi hj => by
      have := h.otsRO (ms := [y0, y1]) i j hi hj (fun m hm => by
        simp only [List.mem_cons, List.not_mem_nil, or_false] at hm
        rcases hm with rfl | rfl
        · exact hall.out.2.1
        · exact hall.out.2.2)
      simpa [hall.out.1.1, hall.out.1.2] using this
    have hint : ∀ w' (L' : List SP), St (fun _ => False) w w' L' → ∀ j : Nat, L'[j]? = some (Pool H) → IntsRO w' y0.hd y0.o.value := fun w' L' h j hj => h.pool_get j hj hall.out.2.1
    have hpnh := Lib.hid hpn
    have hoth := Lib.hid hot
    have hinth := Lib.hid hint
    clear hpn hot hint
    obtain ⟨oo0, ad0, cp0⟩ := y0
    obtain ⟨oo1, ad1, cp1⟩ := y1
    obtain ⟨⟨ee0, ee1⟩, -, -⟩ := hall.out
    simp only at ee0 ee1
    subst ee0 ee1
    obtain ⟨b1, v1, rfl, hval⟩ : ∃ b o, ad0 = some ⟨b, o, none⟩ ∧ ∀ w' (L' : List SP), St (fun _ => False) w w' L' → ∀ j : Nat, L'[j]? = some (Pool H) → w'.cell? ⟨b, o, none⟩ = some (.int .i64 10) := by
      obtain ⟨_, _, e, -, -, h⟩ := hinth.out _ _ HC 3 rfl
      obtain ⟨b, o, e2, -, -⟩ := h (by simp [o10])
      injection e with e1
      refine ⟨b, o, e1.trans e2, fun w' L' hh j hj => ?_⟩
      obtain ⟨_, _, e', -, -, h'⟩ := hinth.out _ _ hh j hj
      obtain ⟨b', o', e2', -, h3⟩ := h' (by simp [o10])
      injection e' with e1'
      have e3 := (e1.trans e2).symm.trans (e1'.trans e2')
      injection e3 with e3
      injection e3 with e4 e5
      subst e4 e5
      have := h3 0 10 rfl
      simpa using this
    have hvalh := Lib.hid hval
    clear hval hall hinth
    have c0 := HC.cell 4 0 rfl rfl
    have c1 := HC.cell 4 1 rfl rfl
    have c2 := HC.cell 4 2 rfl rfl
    have c3 := HC.cell 4 3 rfl rfl
    have c4 := HC.cell 4 4 rfl rfl
    have c5 := HC.cell 4 5 rfl rfl
    have s0 := HC.cell 0 0 rfl rfl
    have s1 := HC.cell 0 1 rfl rfl
    go_upto_region 5 with (first
      | (go_at_call 27; go_must (refine (ks _ _ (hpnh.out _ _ HC 1 3 rfl rfl)).mono ?_; rintro e w3 ⟨hs, ho, ms2, os2, H2, rfl, hm2, ho2, hmo2, hoo2, G1⟩; obtain rfl : ms2 = [] := List.map_eq_nil_iff.1 hm2; obtain rfl : os2 = [] := List.map_eq_nil_iff.1 ho2; clear hm2 ho2 hmo2 hoo2; obtain ⟨p2, z2, rfl, -, -⟩ := slice_form' (G1.row 0 rfl); obtain ⟨o2, k2, rfl, -, -⟩ := slice_form' (G1.row 1 rfl); have HD := (HC.call0 G1).allocAt rfl #[.int .i64 0, .slice none 0 0] 45))
      | ((with_reducible show Go.wpList _ _ _ (Oper.mk none (Op.store 45 (Operand.tmp 8) _) _ _ _ _ :: _) _ _); go_must (refine St.list_store HD 0 rfl rfl 45 (.tmp 8) (.tmp 32) rfl #[.int .i64 10, .slice p2 0 z2] rfl rfl (by kernel_rfl) rfl (by simp [Value.oneCell']) ?_; intro w4 HE hz4; clear hz4)))
    obtain ⟨nb, hnb⟩ : ∃ g, w3.heap.size = g := ⟨_, rfl⟩
    rw [hnb] at HE
    try simp only [hnb]
    go_simp
    have HE : St (fun _ => False) w w4 [Blk nb #[.int .i64 10, .slice p2 0 z2] 45, Row 68 8 (.slice p2 0 z2) 0 (encP.all []), Row 63 10 (.slice o2 0 k2) 0 (encO.all []), Pool H2, Blk sb #[.int .i64 10, .slice pa 0 pc] 45, Row 68 8 (.slice pa 0 pc) 0 (encP.all []), Row 63 10 (.slice (some ⟨ob, 0, none⟩) 2 oc) 2 (encO.all [⟨o10, some ⟨b1, v1, none⟩, cp0⟩, ⟨p10, ad1, cp1⟩]), Pool H, Blk qb #[.int .i64 1, .int .i64 10, .int .i64 0, .int .i64 0, .int .i64 2, .int .i64 0] 23, Blk eb #[.int .i64 1, .string ⟨#[97]⟩, .int .i64 3, .int .i64 5] 56, Blk mb #[.int .i64 2, .string ⟨#[]⟩, .int .i64 10, .int .i64 0] 56] := HE
    clear c0 c1 c2 c3 c4 c5 s0 s1
    as_aux_lemma =>
      refine wp_calmF (fun w' => St (fun _ => False) w w' [Blk nb #[.int .i64 10, .slice p2 0 z2] 45, Row 68 8 (.slice p2 0 z2) 0 (encP.all []), Row 63 10 (.slice o2 0 k2) 0 (encO.all []), Pool H2, Blk sb #[.int .i64 10, .slice pa 0 pc] 45, Row 68 8 (.slice pa 0 pc) 0 (encP.all []), Row 63 10 (.slice (some ⟨ob, 0, none⟩) 2 oc) 2 (encO.all [⟨o10, some ⟨b1, v1, none⟩, cp0⟩, ⟨p10, ad1, cp1⟩]), Pool H, Blk qb #[.int .i64 1, .int .i64 10, .int .i64 0, .int .i64 0, .int .i64 2, .int .i64 0] 23, Blk eb #[.int .i64 1, .string ⟨#[97]⟩, .int .i64 3, .int .i64 5] 56, Blk mb #[.int .i64 2, .string ⟨#[]⟩, .int .i64 10, .int .i64 0] 56]) (by kernel_rfl) (by kernel_rfl) (HE.drew) ?_
      iterate 98 first
        | (apply calm_pass
           · rfl
           intro K hK
           go_simp
           refine hK _ ?_
           clear hK K)
        | (apply calm_step
           · rfl
           · intro w1 h1
             (first | ((with_reducible show CameTo _ _ _ ((execOp _ (Oper.mk _ (Op.load _ _) _ _ _ _)).run _ _)); have x5 : w1.cell? ⟨ob, 5, none⟩ = some (.string ⟨#[97]⟩) := own_cell (h1.row 6 rfl) rfl; have x6 : w1.cell? ⟨ob, 6, none⟩ = some (.int .i64 0) := own_cell (h1.row 6 rfl) rfl; have x7 : w1.cell? ⟨ob, 7, none⟩ = some (.int .i64 10) := own_cell (h1.row 6 rfl) rfl; have x8 : w1.cell? ⟨ob, 8, none⟩ = some (.int .i64 1) := own_cell (h1.row 6 rfl) rfl; have x9 : w1.cell? ⟨ob, 9, none⟩ = some (.slice (some ⟨b1, v1, none⟩) 1 cp0) := own_cell (h1.row 6 rfl) rfl; have y0 : w1.cell? ⟨b1, v1, none⟩ = some (.int .i64 10) := hvalh.out _ _ h1 7 rfl; have x10 : w1.cell? ⟨ob, 10, none⟩ = some (.bool true) := own_cell (h1.row 6 rfl) rfl; have x11 : w1.cell? ⟨ob, 11, none⟩ = some (.int .i64 1) := own_cell (h1.row 6 rfl) rfl; have x12 : w1.cell? ⟨ob, 12, none⟩ = some (.string ⟨#[97]⟩) := own_cell (h1.row 6 rfl) rfl; have x13 : w1.cell? ⟨ob, 13, none⟩ = some (.int .i64 3) := own_cell (h1.row 6 rfl) rfl; have x14 : w1.cell? ⟨ob, 14, none⟩ = some (.int .i64 5) := own_cell (h1.row 6 rfl) rfl; have g0 : w1.cell? ⟨eb, 0, none⟩ = some (.int .i64 1) := h1.cell 9 0 rfl rfl; have g1 : w1.cell? ⟨eb, 1, none⟩ = some (.string ⟨#[97]⟩) := h1.cell 9 1 rfl rfl; have g2 : w1.cell? ⟨eb, 2, none⟩ = some (.int .i64 3) := h1.cell 9 2 rfl rfl; have g3 : w1.cell? ⟨eb, 3, none⟩ = some (.int .i64 5) := h1.cell 9 3 rfl rfl; have s0 : w1.cell? ⟨sb, 0, none⟩ = some (.int .i64 10) := h1.cell 4 0 rfl rfl; have s1 : w1.cell? ⟨sb, 1, none⟩ = some (.slice pa 0 pc) := h1.cell 4 1 rfl rfl; have n0 : w1.cell? ⟨nb, 0, none⟩ = some (.int .i64 10) := h1.cell 0 0 rfl rfl; have n1 : w1.cell? ⟨nb, 1, none⟩ = some (.slice p2 0 z2) := h1.cell 0 1 rfl rfl; have c0 : w1.cell? ⟨qb, 0, none⟩ = some (.int .i64 1) := h1.cell 8 0 rfl rfl; have c1 : w1.cell? ⟨qb, 1, none⟩ = some (.int .i64 10) := h1.cell 8 1 rfl rfl; have c2 : w1.cell? ⟨qb, 2, none⟩ = some (.int .i64 0) := h1.cell 8 2 rfl rfl; have c3 : w1.cell? ⟨qb, 3, none⟩ = some (.int .i64 0) := h1.cell 8 3 rfl rfl; have c4 : w1.cell? ⟨qb, 4, none⟩ = some (.int .i64 2) := h1.cell 8 4 rfl rfl; have c5 : w1.cell? ⟨qb, 5, none⟩ = some (.int .i64 0) := h1.cell 8 5 rfl rfl) | skip)
             first
               | (go_simp
                  first
                    | rfl
                    | exact ⟨rfl, h1⟩
                    | (go_at_call 28; with_reducible exact St.callPast (kt w1 _ _ (hpnh.out _ _ h1 5 7 rfl rfl) (h1.pnsRO (ms := []) 1 3 rfl rfl (fun m hm => by simp at hm))) h1)
                    | (go_at_call 29; with_reducible exact St.callPast (kg w1 _ (hpnh.out _ _ h1 5 7 rfl rfl)) h1)
                    | (go_at_call 26; with_reducible exact St.callPast (ko w1 _ (hoth.out _ _ h1 6 7 rfl rfl)) h1)
                    | (go_at_call 22; with_reducible exact St.callPast (kn w1) h1)
                 )
           intro K hK
           go_simp
           refine hK _ ?_
           clear hK K)
      refine calm_nil ?_
      intro w9 H9
      go_wp2
      go_ret
      exact ⟨rfl, H9.below (Nat.le_refl _) (fun _ h => h.elim)⟩

end Go.Proofs.YtiglgfonhdfpmaaGreat
