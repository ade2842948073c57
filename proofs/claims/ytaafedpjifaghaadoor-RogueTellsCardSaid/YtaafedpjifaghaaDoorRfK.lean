/- The walks of the document's Same of moves, and of RogueTells. Conditions: the move can be read; the library's variables hold what its text lays. -/
import Derived.Test.YtaafedpjifaghaaDoorRfJ
import Derived.Test.YtaafedpjifaghaaDoorGp9
import Derived.Test.YtaafedpjifaghaaDoorGp4
set_option linter.unusedVariables false
set_option linter.unusedSimpArgs false
namespace Go.Proofs.YtaafedpjifaghaaDoor
open Go.RowKit

set_option maxHeartbeats 4000000 in
set_option maxRecDepth 100000 in
theorem ref24_same (v : Mv) {x y : Value} {w : World} (hx : BytesRO (fun _ => False) w x v.b) (hy : BytesRO (fun _ => False) w y v.b) :
    Calls Tryd.prog 22 #[.agg (mvCells v x), .agg (mvCells v y)] w fun e w' => e = .returned (.bool true) ∧ Below w.heap.size w w' := by
  obtain ⟨k, at', tt, n, bb⟩ := v
  obtain ⟨ad, cap, e, _⟩ := id hx
  obtain ⟨ad2, cap2, e2, _⟩ := id hy
  simp only at e e2 hx hy
  subst e e2
  obtain ⟨mb, hmb⟩ : ∃ g, w.heap.size = g := ⟨_, rfl⟩
  have HA : St (fun _ => False) w (w.alloc (.cells (mvCells ⟨k, at', tt, n, bb⟩ (.slice ad bb.length cap)) 40)) [Blk mb (mvCells ⟨k, at', tt, n, bb⟩ (.slice ad bb.length cap)) 40] := (St.nil _ w).allocAt hmb _ _
  obtain ⟨wa, hwa⟩ : ∃ wa, w.alloc (.cells (mvCells ⟨k, at', tt, n, bb⟩ (.slice ad bb.length cap)) 40) = wa := ⟨_, rfl⟩
  rw [hwa] at HA
  obtain ⟨nb, hnb⟩ : ∃ g, wa.heap.size = g := ⟨_, rfl⟩
  have HB : St (fun _ => False) w (wa.alloc (.cells (mvCells ⟨k, at', tt, n, bb⟩ (.slice ad2 bb.length cap2)) 40)) [Blk nb (mvCells ⟨k, at', tt, n, bb⟩ (.slice ad2 bb.length cap2)) 40, Blk mb (mvCells ⟨k, at', tt, n, bb⟩ (.slice ad bb.length cap)) 40] := HA.allocAt hnb _ _
  obtain ⟨wb, hwb⟩ : ∃ wb, wa.alloc (.cells (mvCells ⟨k, at', tt, n, bb⟩ (.slice ad2 bb.length cap2)) 40) = wb := ⟨_, rfl⟩
  rw [hwb] at HB
  have hc1 := conv_ro' (hx.move HB.kept) (fun _ _ _ => rfl)
  have hc2 := conv_ro' (hy.move HB.kept) (fun _ _ _ => rfl)
  have m0 : wb.cell? ⟨mb, 0, none⟩ = some (.int .i64 k) := HB.cell 1 0 rfl rfl
  have m1 : wb.cell? ⟨mb, 1, none⟩ = some (.int .i64 at') := HB.cell 1 1 rfl rfl
  have m2 : wb.cell? ⟨mb, 2, none⟩ = some (.int .i64 tt) := HB.cell 1 2 rfl rfl
  have m3 : wb.cell? ⟨mb, 3, none⟩ = some (.int .i64 n) := HB.cell 1 3 rfl rfl
  have m4 : wb.cell? ⟨mb, 4, none⟩ = some (.slice ad bb.length cap) := HB.cell 1 4 rfl rfl
  have n0 : wb.cell? ⟨nb, 0, none⟩ = some (.int .i64 k) := HB.cell 0 0 rfl rfl
  have n1 : wb.cell? ⟨nb, 1, none⟩ = some (.int .i64 at') := HB.cell 0 1 rfl rfl
  have n2 : wb.cell? ⟨nb, 2, none⟩ = some (.int .i64 tt) := HB.cell 0 2 rfl rfl
  have n3 : wb.cell? ⟨nb, 3, none⟩ = some (.int .i64 n) := HB.cell 0 3 rfl rfl
  have n4 : wb.cell? ⟨nb, 4, none⟩ = some (.slice ad2 bb.length cap2) := HB.cell 0 4 rfl rfl
  have hlt : mb < nb := by rw [← hnb]; exact HA.blk_lt 0 rfl
  go_enter Tryd.func22, Tryd.ntmps22
  go_upto_region 1 with (fail)
  try simp only [hmb]
  try rw [hwa]
  try simp only [hnb]
  try rw [hwb]
  clear hx hy hwa hwb hmb hnb HA
  go_wp2
  go_ret
  exact ⟨rfl, HB.below (Nat.le_refl _) (fun _ h => h.elim)⟩

theorem nums_len {v : Mv} (h : ∀ c, -9223372036854775808 ≤ v.part c ∧ v.part c ≤ 9223372036854775807) : ∀ ps : List UInt8, ((ps.map fun c => Lib.itoa (v.part c)).flatMap (fun x => 32 :: x)).length ≤ 1001 * ps.length
  | [] => by simp
  | c :: ps => by
    have h1 := nums_len h ps
    have h2 := Lib.itoa_length_le (v.part c) (h c).1 (h c).2
    simp only [List.map_cons, List.flatMap_cons, List.length_append, List.length_cons] at *
    omega
theorem mtext_len {v : Mv} (h : ∀ c, -9223372036854775808 ≤ v.part c ∧ v.part c ≤ 9223372036854775807) : (textM v).length ≤ 10000 := by
  by_cases hok : v.okM
  · rw [text_ok hok]
    unfold Mv.wordsOf
    rw [join_flat]
    have h1 := nums_len h (partsM v.kind)
    obtain ⟨h0, h7, hb, _⟩ := hok
    have h2 := word_parts v.kind.toNat (by omega)
    have h3 : (hexM v.b).length ≤ 257 := by
      unfold hexM
      split
      · simp
      · rw [hexOf_len]; omega
    unfold nameM partsM at *
    rw [List.flatMap_append, List.length_append, List.length_append]
    have h4 : ((if v.kind = 0 then [hexM v.b] else []).flatMap fun x => 32 :: x).length ≤ 258 := by
      split
      · simp; omega
      · simp
    omega
  · rw [text_no hok]; simp

set_option maxHeartbeats 8000000 in
set_option maxRecDepth 100000 in
theorem rogue_tells (v : Mv) {x : Value} {s : List UInt8} {w : World} (hx : BytesRO (fun _ => False) w x v.b) (hbl : v.b.length ≤ 9223372036854775807) (hsl : s.length ≤ 9223372036854775807)
    (hr : (-9223372036854775808 ≤ v.at' ∧ v.at' ≤ 9223372036854775807) ∧ (-9223372036854775808 ≤ v.to ∧ v.to ≤ 9223372036854775807) ∧ (-9223372036854775808 ≤ v.n ∧ v.n ≤ 9223372036854775807)) (hVar : Vars w) :
    Calls Tryd.prog 4 #[.agg (mvCells v x), .string ⟨s.toArray⟩] w fun e w' => e = .returned (.bool true) ∧ Below w.heap.size w w' := by
  have hpb : ∀ c, -9223372036854775808 ≤ v.part c ∧ v.part c ≤ 9223372036854775807 := by
    intro c
    unfold Mv.part
    split
    · exact hr.1
    · split
      · exact hr.2.1
      · exact hr.2.2
  have htl := mtext_len hpb
  obtain ⟨tb1, tb2⟩ := tells_back (v := v) ⟨hr.1.2, hr.2.1.2, hr.2.2.2⟩
  have hnorm : v.okM → parseM (textM v) = some v.norm := fun h => by rw [text_ok h]; exact parse_words h ⟨hr.1.2, hr.2.1.2, hr.2.2.2⟩
  have hnr : (-9223372036854775808 ≤ v.norm.at' ∧ v.norm.at' ≤ 9223372036854775807) ∧ (-9223372036854775808 ≤ v.norm.to ∧ v.norm.to ≤ 9223372036854775807) ∧ (-9223372036854775808 ≤ v.norm.n ∧ v.norm.n ≤ 9223372036854775807) := by
    unfold Mv.norm
    refine ⟨?_, ?_, ?_⟩
    · show -9223372036854775808 ≤ (if _ then v.at' else 0) ∧ (if _ then v.at' else 0) ≤ _
      split
      · exact hr.1
      · omega
    · show -9223372036854775808 ≤ (if _ then v.to else 0) ∧ (if _ then v.to else 0) ≤ _
      split
      · exact hr.2.1
      · omega
    · show -9223372036854775808 ≤ (if _ then v.n else 0) ∧ (if _ then v.n else 0) ≤ _
      split
      · exact hr.2.2
      · omega
  have hsz := txs_size s
  obtain ⟨ad, cap, e, _⟩ := id hx
  subst e
  have hxh := Lib.hid hx
  obtain ⟨t, ht⟩ : ∃ t, textM v = t := ⟨_, rfl⟩
  rw [ht] at htl tb1 tb2
  have hvt : v.okM → parseM t = some v.norm := fun h => by rw [← ht]; exact hnorm h
  have hno : ¬ v.okM → t = [] := fun h => by rw [← ht]; exact text_no h
  have kt := fun (w' : World) (hk : Kept (fun _ => False) w w') (h : Vars w') => rogue_text v (w := w') h (hxh.out.move hk) hbl hr
  have kt2 := fun (w' : World) (hk : Kept (fun _ => False) w w') (h : Vars w') => ref24_text v (w := w') h (hxh.out.move hk) hbl hr
  rw [ht] at kt kt2
  unfold mvCells at kt kt2
  have kf := fun (w' : World) (h : Vars w') => first24 h
  obtain ⟨mb, hmb⟩ : ∃ g, w.heap.size = g := ⟨_, rfl⟩
  have H0 : St (fun _ => False) w (w.alloc (.cells (mvCells v (.slice ad v.b.length cap)) 40)) [Blk mb (mvCells v (.slice ad v.b.length cap)) 40] := (St.nil _ w).allocAt hmb _ _
  clear hx ht hnorm
  go_enter Tryd.func4, Tryd.ntmps4
  go_upto_region 1 with (fail)
  obtain ⟨w1, hw1⟩ : ∃ w1, w.alloc (.cells #[.int .i64 v.kind, .int .i64 v.at', .int .i64 v.to, .int .i64 v.n, .slice ad v.b.length cap] 40) = w1 := ⟨_, rfl⟩
  have hw1' : w.alloc (.cells (mvCells v (.slice ad v.b.length cap)) 40) = w1 := hw1
  rw [hw1'] at H0
  try rw [hw1]
  try rw [hw1']
  try simp only [hmb]
  clear hw1 hw1' hmb
  go_upto_region 3 with (go_at_call 6; go_must (refine (St.callPast (kf _ (hVar.st H0)) H0).mono ?_; rintro e w2 ⟨rfl, H1⟩))
  clear H0 kf
  have m4 : w2.cell? ⟨mb, 4, none⟩ = some (.slice ad v.b.length cap) := H1.cell 0 4 rfl rfl
  by_cases hb2 : 200 < v.b.length
  · have z1 : decide ((200 : Int) < (v.b.length : Int)) = true := by simp; omega
    go_wp2
    go_ret
    exact ⟨rfl, H1.below (Nat.le_refl _) (fun _ h => h.elim)⟩
  have z1 : decide ((200 : Int) < (v.b.length : Int)) = false := by simp; omega
  by_cases hs4 : 400 < s.length
  · have z2 : decide ((400 : Int) < (s.length : Int)) = true := by simp; omega
    go_wp2
    go_ret
    exact ⟨rfl, H1.below (Nat.le_refl _) (fun _ h => h.elim)⟩
  have z2 : decide ((400 : Int) < (s.length : Int)) = false := by simp; omega
  have kp := rogue_parse (l := s) (w := w2) (by omega) (hVar.st H1)
  have kq := fun w' => ref24_parse (l := s) (by omega) w'
  have hpq : (parse24 s).getD mv00 = parsedM s := by rw [parse_same]; rfl
  rw [hpq, parse_same] at kq
  obtain ⟨p, hp⟩ : ∃ p, parsedM s = p := ⟨_, rfl⟩
  obtain ⟨ok, hok⟩ : ∃ ok, (parseM s).isSome = ok := ⟨_, rfl⟩
  rw [hp, hok] at kp kq
  unfold mvCells at kp kq
  clear hb2 hs4 hp hok hpq
  go_upto_region 6 with (go_at_call 18; go_must (refine kp.mono ?_; rintro e w3 ⟨xv, rfl, H2⟩; have H3 : St (fun _ => False) w w3 [Row 5 1 xv p.b.length (bvs p.b), Blk mb (mvCells v (.slice ad v.b.length cap)) 40] := H1.call0 H2; obtain ⟨ax, cx, rfl, _, _⟩ := slice_form' (H3.row 0 rfl); obtain ⟨xb, hxb⟩ : ∃ g, w3.heap.size = g := ⟨_, rfl⟩; have H4 : St (fun _ => False) w (w3.alloc (.cells (mvCells p (.slice ax p.b.length cx)) 40)) [Blk xb (mvCells p (.slice ax p.b.length cx)) 40, Row 5 1 (.slice ax p.b.length cx) p.b.length (bvs p.b), Blk mb (mvCells v (.slice ad v.b.length cap)) 40] := H3.allocAt hxb _ _))
  obtain ⟨w4, hw4⟩ : ∃ w4, w3.alloc (.cells #[.int .i64 p.kind, .int .i64 p.at', .int .i64 p.to, .int .i64 p.n, .slice ax p.b.length cx] 40) = w4 := ⟨_, rfl⟩
  have hw4' : w3.alloc (.cells (mvCells p (.slice ax p.b.length cx)) 40) = w4 := hw4
  rw [hw4'] at H4
  try rw [hw4]
  try rw [hw4']
  try simp only [hxb]
  clear hw4 hw4' hxb
  clear H1 H2 H3 kp m4 z1 z2
  go_upto_region 7 with (go_at_call 19; go_must (refine (kq _).mono ?_; rintro e w5 ⟨yv, rfl, H2⟩; have H5 : St (fun _ => False) w w5 [Row 5 1 yv p.b.length (bvs p.b), Blk xb (mvCells p (.slice ax p.b.length cx)) 40, Row 5 1 (.slice ax p.b.length cx) p.b.length (bvs p.b), Blk mb (mvCells v (.slice ad v.b.length cap)) 40] := H4.call0 H2; obtain ⟨ay, cy, rfl, _, _⟩ := slice_form' (H5.row 0 rfl); obtain ⟨yb, hyb⟩ : ∃ g, w5.heap.size = g := ⟨_, rfl⟩; have H6 : St (fun _ => False) w (w5.alloc (.cells (mvCells p (.slice ay p.b.length cy)) 40)) [Blk yb (mvCells p (.slice ay p.b.length cy)) 40, Row 5 1 (.slice ay p.b.length cy) p.b.length (bvs p.b), Blk xb (mvCells p (.slice ax p.b.length cx)) 40, Row 5 1 (.slice ax p.b.length cx) p.b.length (bvs p.b), Blk mb (mvCells v (.slice ad v.b.length cap)) 40] := H5.allocAt hyb _ _))
  obtain ⟨w6, hw6⟩ : ∃ w6, w5.alloc (.cells #[.int .i64 p.kind, .int .i64 p.at', .int .i64 p.to, .int .i64 p.n, .slice ay p.b.length cy] 40) = w6 := ⟨_, rfl⟩
  have hw6' : w5.alloc (.cells (mvCells p (.slice ay p.b.length cy)) 40) = w6 := hw6
  rw [hw6'] at H6
  try rw [hw6]
  try rw [hw6']
  try simp only [hyb]
  clear hw6 hw6' hyb
  clear H2 H4 H5 kq
  have m0 : w6.cell? ⟨mb, 0, none⟩ = some (.int .i64 v.kind) := H6.cell 4 0 rfl rfl
  have m1 : w6.cell? ⟨mb, 1, none⟩ = some (.int .i64 v.at') := H6.cell 4 1 rfl rfl
  have m2 : w6.cell? ⟨mb, 2, none⟩ = some (.int .i64 v.to) := H6.cell 4 2 rfl rfl
  have m3 : w6.cell? ⟨mb, 3, none⟩ = some (.int .i64 v.n) := H6.cell 4 3 rfl rfl
  have m4 : w6.cell? ⟨mb, 4, none⟩ = some (.slice ad v.b.length cap) := H6.cell 4 4 rfl rfl
  go_upto_region 8 with (go_at_call 20; go_must (refine (St.callPast (kt _ H6.kept (hVar.st H6)) H6).mono ?_; rintro e w7 ⟨rfl, H7⟩))
  clear m0 m1 m2 m3 m4 H6
  have m0 : w7.cell? ⟨mb, 0, none⟩ = some (.int .i64 v.kind) := H7.cell 4 0 rfl rfl
  have m1 : w7.cell? ⟨mb, 1, none⟩ = some (.int .i64 v.at') := H7.cell 4 1 rfl rfl
  have m2 : w7.cell? ⟨mb, 2, none⟩ = some (.int .i64 v.to) := H7.cell 4 2 rfl rfl
  have m3 : w7.cell? ⟨mb, 3, none⟩ = some (.int .i64 v.n) := H7.cell 4 3 rfl rfl
  have m4 : w7.cell? ⟨mb, 4, none⟩ = some (.slice ad v.b.length cap) := H7.cell 4 4 rfl rfl
  have hcn : (parseM t).isSome = true → ∃ z, parseM t = some z := fun h => Option.isSome_iff_exists.1 h
  have kz := fun (w' : World) (h : Vars w') => rogue_parse (l := t) (w := w') (by omega) h
  obtain ⟨z, hz⟩ : ∃ z, parsedM t = z := ⟨_, rfl⟩
  have hzz : ∀ q, parseM t = some q → q = z := fun q h => by rw [← hz]; unfold parsedM; rw [h]; rfl
  obtain ⟨back, hback⟩ : ∃ back, (parseM t).isSome = back := ⟨_, rfl⟩
  simp only [hz, hback] at kz
  unfold mvCells at kz
  have hb0 : (t == []) = !back := by
    rw [← hback, tb1]
    by_cases h : t = [] <;> simp [h]
  have hbt : (t != []) = back := by rw [bne, hb0]; simp
  have hrt : back = true → textM z = t ∧ ((-9223372036854775808 ≤ z.at' ∧ z.at' ≤ 9223372036854775807) ∧ (-9223372036854775808 ≤ z.to ∧ z.to ≤ 9223372036854775807) ∧ (-9223372036854775808 ≤ z.n ∧ z.n ≤ 9223372036854775807)) ∧ z.b.length ≤ 9223372036854775807 := by
    intro hb
    obtain ⟨q, hq⟩ := hcn (hback.trans hb)
    have e1 := hzz q hq
    subst e1
    by_cases h : v.okM
    · have e2 : q = v.norm := by have := hvt h; rw [hq] at this; exact Option.some.inj this
      refine ⟨tb2 q hq, by rw [e2]; exact hnr, ?_⟩
      rw [e2]
      show (if v.kind = 0 then v.b else []).length ≤ _
      split
      · exact hbl
      · simp
    · have e3 := hno h
      rw [e3] at hq
      have e4 : parseM [] = none := by decide
      rw [e4] at hq
      cases hq
  have htt : (t == t) = true := by simp
  have hoo : (ok == ok) = true := by simp
  have hrth := Lib.hid hrt
  clear hcn hzz hvt hno tb1 tb2 hnr hr hpb hz hback hrt
  have ksm := fun (w' : World) (h : St (fun _ => False) w w' [Blk yb (mvCells p (.slice ay p.b.length cy)) 40, Row 5 1 (.slice ay p.b.length cy) p.b.length (bvs p.b), Blk xb (mvCells p (.slice ax p.b.length cx)) 40, Row 5 1 (.slice ax p.b.length cx) p.b.length (bvs p.b), Blk mb (mvCells v (.slice ad v.b.length cap)) 40]) => ref24_same p (own_ro (h.row 3 rfl)).1 (own_ro (h.row 1 rfl)).1
  unfold mvCells at ksm
  go_upto_region 10 with (first
    | (go_at_call 21; go_must (refine (St.callPast (kt2 _ H7.kept (hVar.st H7)) H7).mono ?_; rintro e w8 ⟨rfl, H8⟩; clear m0 m1 m2 m3 m4; have x0 : w8.cell? ⟨xb, 0, none⟩ = some (.int .i64 p.kind) := H8.cell 2 0 rfl rfl; have x1 : w8.cell? ⟨xb, 1, none⟩ = some (.int .i64 p.at') := H8.cell 2 1 rfl rfl; have x2 : w8.cell? ⟨xb, 2, none⟩ = some (.int .i64 p.to) := H8.cell 2 2 rfl rfl; have x3 : w8.cell? ⟨xb, 3, none⟩ = some (.int .i64 p.n) := H8.cell 2 3 rfl rfl; have x4 : w8.cell? ⟨xb, 4, none⟩ = some (.slice ax p.b.length cx) := H8.cell 2 4 rfl rfl; have y0 : w8.cell? ⟨yb, 0, none⟩ = some (.int .i64 p.kind) := H8.cell 0 0 rfl rfl; have y1 : w8.cell? ⟨yb, 1, none⟩ = some (.int .i64 p.at') := H8.cell 0 1 rfl rfl; have y2 : w8.cell? ⟨yb, 2, none⟩ = some (.int .i64 p.to) := H8.cell 0 2 rfl rfl; have y3 : w8.cell? ⟨yb, 3, none⟩ = some (.int .i64 p.n) := H8.cell 0 3 rfl rfl; have y4 : w8.cell? ⟨yb, 4, none⟩ = some (.slice ay p.b.length cy) := H8.cell 0 4 rfl rfl))
    | (go_at_call 22; go_must (refine (St.callPast (ksm _ H8) H8).mono ?_; rintro e w9 ⟨rfl, H9⟩)))
  clear x0 x1 x2 x3 x4 y0 y1 y2 y3 y4 H7 H8 ksm kt kt2
  go_upto_region 11 with (go_at_call 18; go_must (refine (kz _ (hVar.st H9)).mono ?_; rintro e w10 ⟨zv, rfl, H2⟩; have H10 : St (fun _ => False) w w10 [Row 5 1 zv z.b.length (bvs z.b)] := (H9.call0 H2).pick [0]; obtain ⟨az, cz, rfl, _, _⟩ := slice_form' (H10.row 0 rfl); obtain ⟨zb, hzb⟩ : ∃ g, w10.heap.size = g := ⟨_, rfl⟩; have H11 : St (fun _ => False) w (w10.alloc (.cells (mvCells z (.slice az z.b.length cz)) 40)) [Blk zb (mvCells z (.slice az z.b.length cz)) 40, Row 5 1 (.slice az z.b.length cz) z.b.length (bvs z.b)] := H10.allocAt hzb _ _))
  obtain ⟨w11, hw11⟩ : ∃ w11, w10.alloc (.cells #[.int .i64 z.kind, .int .i64 z.at', .int .i64 z.to, .int .i64 z.n, .slice az z.b.length cz] 40) = w11 := ⟨_, rfl⟩
  have hw11' : w10.alloc (.cells (mvCells z (.slice az z.b.length cz)) 40) = w11 := hw11
  rw [hw11'] at H11
  try rw [hw11]
  try rw [hw11']
  try simp only [hzb]
  clear hw11 hw11' hzb
  clear H2 H9 H10 kz
  cases back with
  | false =>
    go_wp2
    go_ret
    exact ⟨rfl, H11.below (Nat.le_refl _) (fun _ h => h.elim)⟩
  | true =>
    obtain ⟨q1, q2, q3⟩ := hrth.out rfl
    have kl := rogue_text z (hVar.st H11) (own_ro (H11.row 1 rfl)).1 q3 q2
    rw [q1] at kl
    unfold mvCells at kl
    have q1h := Lib.hid q1
    clear q1
    have z0 : w11.cell? ⟨zb, 0, none⟩ = some (.int .i64 z.kind) := H11.cell 0 0 rfl rfl
    have z1 : w11.cell? ⟨zb, 1, none⟩ = some (.int .i64 z.at') := H11.cell 0 1 rfl rfl
    have z2 : w11.cell? ⟨zb, 2, none⟩ = some (.int .i64 z.to) := H11.cell 0 2 rfl rfl
    have z3 : w11.cell? ⟨zb, 3, none⟩ = some (.int .i64 z.n) := H11.cell 0 3 rfl rfl
    have z4 : w11.cell? ⟨zb, 4, none⟩ = some (.slice az z.b.length cz) := H11.cell 0 4 rfl rfl
    go_wp2_with (go_at_call 20; go_must (refine (St.callPast kl H11).mono ?_; rintro e w12 ⟨rfl, H12⟩))
    go_ret
    exact ⟨rfl, H12.below (Nat.le_refl _) (fun _ h => h.elim)⟩

end Go.Proofs.YtaafedpjifaghaaDoor
