import Derived.Test.YtiglgfonhdfpmaaGreatOr18
/- The document's Of. Conditions: a right query, a name, a time. (Printed by a program of mine.) -/
set_option linter.unusedVariables false
set_option linter.unusedSimpArgs false
set_option maxHeartbeats 16000000
set_option maxRecDepth 100000
namespace Go.Proofs.YtiglgfonhdfpmaaGreat
open Go.RowKit
theorem ref_of1 (q : Qry) (key : List UInt8) (t : Int) (w : World) (hl : key.length ≤ 9223372036854775807) (hq : q.right = true) (hk : nameB key = true) (ht : 0 ≤ t ∧ t ≤ 1099511627776) (h3 : q.kind = 1) :
    Calls Tryz.prog 182 #[qyV q, textV key, .int .i64 t] w fun e w' => ∃ v', e = .returned v' ∧ zS w w' [Row 61 3 v' (winsOf q key t).length (wds (winsOf q key t))] := by
 obtain ⟨hkd, hsz, hsl, -, -⟩ := q_size hq; have hlen := wins_len q key t; have hfit : ∀ x ∈ winsOf q key t, x.fits := fun x hx => fits_right (wins_right x hx).1
 have hres : winsOf q key t = ofTo q key t q.size ((t / q.size).toNat + 1) := by
  unfold winsOf; rw [if_pos ⟨hq, hk, ht⟩, if_neg (by omega)]
  rw [if_neg (by omega), size_of (by omega) ht.1]
 have kq := fun w' => doc_qright q w'
 have kn := fun w' => ref_name key hl w'
 rw [hq] at kq; rw [hk] at kn; clear hq hk; obtain ⟨kd, sz, sl, lt, ag, kk⟩ := q; simp only at hkd hsz hsl h3 hres; subst h3; obtain ⟨hs1, hs2⟩ : 1 ≤ sz ∧ sz ≤ sz := ⟨hsz.1, Int.le_refl _⟩; clear hsl; have hd0 : 0 ≤ t / sz := Int.ediv_nonneg ht.1 (by omega)
 obtain ⟨K, hK⟩ : ∃ K : Nat, (t / sz).toNat = K := ⟨_, rfl⟩; have d3 : t / sz = (K : Int) := by omega
 have hKb : (K : Int) ≤ 1099511627776 := by
  have := Int.ediv_le_self sz ht.1
  omega
 have d4 : Int.tdiv t sz = (K : Int) := by rw [Int.tdiv_eq_ediv_of_nonneg ht.1, d3]
 have d1 : IntKind.i64.wrap (Int.tdiv t sz) = (K : Int) := by rw [d4, IntKind.wrap_i64]; omega
 have d2 : IntKind.i64.wrap (t / sz) = (K : Int) := by rw [d3, IntKind.wrap_i64]; omega
 have hmul : ∀ m : Nat, m ≤ K → (m : Int) * sz ≤ t := fun m hm => by
  have h6 : (m : Int) ≤ t / sz := by omega
  exact (Int.le_ediv_iff_mul_le (by omega)).1 h6
 have hmul0 : ∀ m : Nat, 0 ≤ (m : Int) * sz := fun m => Int.mul_nonneg (by omega) (by omega)
 rw [hK] at hres; rw [hres] at hlen hfit; rw [hres]; clear hres hK hd0; have hfith := zH hfit; have hmulh := zH hmul; have hmul0h := zH hmul0; obtain ⟨OF, hOF⟩ := zNm (ofTo (⟨1, sz, sl, lt, ag, kk⟩ : Qry) key t sz); have hOFh := zH hOF; rw [hOF] at hlen ⊢; clear hfit hmul hmul0 hOF; obtain ⟨b, hb⟩ := zNm w.heap.size; have H0 : zS w _ [_] := (St.nil _ w).allocAt hb #[.int .i64 1, .int .i64 sz, .int .i64 sl, .int .i64 lt, .int .i64 ag, .int .i64 kk] 23; obtain ⟨w1, hw1⟩ := zNm (w.alloc (.cells #[.int .i64 1, .int .i64 sz, .int .i64 sl, .int .i64 lt, .int .i64 ag, .int .i64 kk] 23)); unfold qyV qyC at kq; unfold textV at kn; simp only at kq; unfold qyV qyC textV; simp only; have t0 : ¬ t < 0 := by omega
 have t1 : ¬ 1099511627776 < t := by omega
 have z0 : ¬ sz = 0 := by omega
 have z1 : (sz == 0) = false := by simpa using z0
 go_enter Tryz.func182, Tryz.ntmps182
 go_upto_region 1 with (fail)
 rw [hw1] at H0; (try rw [hw1]); (try simp only [hb]); have H0 : zS w w1 [zbnP b sz sl lt ag kk] := H0; have c0 := H0.cell 0 0 rfl rfl; have c1 := H0.cell 0 1 rfl rfl; have c2 := H0.cell 0 2 rfl rfl; have c3 := H0.cell 0 3 rfl rfl; have c4 := H0.cell 0 4 rfl rfl; have c5 := H0.cell 0 5 rfl rfl; have hbh := zH hb; clear hw1 hb
 go_upto_block 1 with (first
  | (go_at_call 16; go_must (refine (St.callPast (kq _) H0).mono ?_; rintro e w2 ⟨rfl, H2⟩; clear c0 c1 c2 c3 c4 c5; have c0 := H2.cell 0 0 rfl rfl; have c1 := H2.cell 0 1 rfl rfl; have c2 := H2.cell 0 2 rfl rfl))
  | (go_at_call 152; go_must (refine (kn _).mono ?_; rintro e w7 ⟨rfl, rfl⟩)))
 (try simp only [d3]); clear H0 kq kn c0 c1 c2 d1 d2 d3 d4 z0 z1; have H10 : zS w w7 [zcfP (wds []), zbnP b sz sl lt ag kk] := H2.row_nil 61 3; clear H2
 go_loopw [8, 9] (fun u kv wr => ∃ (z : Int) (L : List Wd) (a : Option Addr) (c : Nat), (-1 ≤ z ∧ z ≤ (K : Int)) ∧ u = .slice a L.length c ∧ kv = .int .i64 z ∧ Hid (OF (K + 1) = OF (z + 1).toNat ++ L) ∧ zS w wr [zqP (wds L) a L.length c, zbnP b sz sl lt ag kk]) (fun _ kv _ => (intOf kv + 1).toNat)
 case atStart => exact ⟨(K : Int), [], none, 0, by omega, rfl, rfl, zH (by rw [List.append_nil, show ((K : Int) + 1).toNat = K + 1 by omega]), H10⟩
 case round =>
  clear H10; obtain ⟨z, L, a, c, hz, rfl, rfl, hof, HM⟩ := hrel
  by_cases hneg : z = -1
  · subst hneg
    have hL : OF (K + 1) = L := by
     have := hof.out; rw [show ((-1 : Int) + 1).toNat = 0 by rfl, ← hOFh.out] at this
     rw [← hOFh.out]
     simpa [ofTo] using this
    have hLh := zH hL; clear hL; go_wp2; go_ret; rw [hLh.out]; exact ⟨_, rfl, HM.pick [0]⟩
  · obtain ⟨m, rfl⟩ : ∃ m : Nat, z = (m : Int) := ⟨z.toNat, by omega⟩
    have hm1 := hmulh.out m (by omega)
    have hm0 := hmul0h.out m; have hof2 := hof.out; rw [show ((m : Int) + 1).toNat = m + 1 by omega] at hof2
    have hsuc := ofTo_succ (⟨1, sz, sl, lt, ag, kk⟩ : Qry) key t sz m; have hnone := ofTo_none (q := (⟨1, sz, sl, lt, ag, kk⟩ : Qry)) (key := key) (t := t) (step := sz) (by omega) (n := m + 1)
    rw [show (((m + 1 : Nat) : Int) - 1) = (m : Int) by omega] at hnone
    unfold ofW at hsuc; rw [hOFh.out] at hsuc hnone; obtain ⟨M, hM⟩ := zNm ((m : Int) * sz); simp only [hM] at hm1 hm0 hsuc hnone; obtain ⟨V, hV⟩ := zNm (M + sz); simp only [hV] at hsuc hnone; have e1 : IntKind.i64.wrap ((m : Int) * sz) = M := by rw [hM, IntKind.wrap_i64]; omega
    have e2 : IntKind.i64.wrap (M + sz) = V := by rw [IntKind.wrap_i64]; omega
    have e3 : IntKind.i64.wrap ((m : Int) - 1) = (m : Int) - 1 := by rw [IntKind.wrap_i64]; omega
    have g0 : decide (0 ≤ (m : Int)) = true := by simp
    have hLl : L.length ≤ 16 := by
     have := congrArg List.length hof2; rw [List.length_append] at this
     omega
    have c1 := HM.cell 1 1 rfl rfl
    by_cases hgo : t < V
    · rw [if_pos hgo] at hsuc; have hnx : Hid (OF (K + 1) = OF m ++ ([⟨key, M, V⟩] ++ L)) := zH (by rw [hof2, hsuc, List.append_assoc])
      have hLf : ∀ x ∈ L, x.fits := fun x hx => hfith.out x (by rw [hOFh.out, hof2]; exact List.mem_append_right _ hx)
      have hLfh := zH hLf; have z2 : decide (t < V) = true := by simpa using hgo
      clear hsuc hnone hof2 hLf hM hV; have HS : zS w _ [Row 61 3 (.slice (some ⟨wr.heap.size, 0, none⟩) 1 1) 1 [.string ⟨key.toArray⟩, .int .i64 M, .int .i64 V], zqP (wds L) a L.length c, zbnP b sz sl lt ag kk] := St.blk_row (cs := [.string ⟨key.toArray⟩, .int .i64 M, .int .i64 V]) (xs := [.string ⟨key.toArray⟩, .int .i64 M, .int .i64 V]) (size := 3) (HM.allocAt rfl #[.string ⟨key.toArray⟩, .int .i64 M, .int .i64 V] 61) 0 rfl (Nat.le_refl 1) (by simp [maxLen]) rfl rfl
      obtain ⟨ad, cp, r3, r4, r5⟩ := WdsRO.cells (wds_own (HS.row 1 rfl) hLfh.out); simp only [Value.slice.injEq, true_and] at r3; obtain ⟨r3, r6⟩ := r3; subst r3 r6
      go_wp2_with (at_builtin; go_must (refine St.list_add HS 0 rfl rfl (.tmp 72) (.tmp 73) 145 rfl Tryz.underlying145 Tryz.info61 (by decide) rfl (wds L) rfl (wds_len L) (fun e => by first | (rw [r4 e]; done) | (rw [r4 e]; rfl)) (fun p e j u hj => r5 p e j u hj) (wds_one1 L) (by omega) ?_; intro v8 w8 HT hz8; clear hz8; obtain ⟨na, nc, rfl, -, -⟩ := slice_form' (HT.row 0 rfl)))
      go_roundw
      case rel =>
       refine ⟨(m : Int) - 1, [⟨key, M, V⟩] ++ L, na, nc, by omega, by rw [List.length_append]; rfl, by first | rfl | go_num, zH (by rw [show ((m : Int) - 1 + 1).toNat = m by omega]; exact hnx.out), ?_⟩
       rw [List.length_append, wds_app, wds_one]; have HT2 : zS w w8 [_, _, _] := HT; exact HT2.pick [0, 2]
      case measure => first | (simp [intOf]; done) | (simp [intOf]; omega)
    · have z2 : decide (t < V) = false := by simpa using hgo
      have hno := hnone hgo; have hL : OF (K + 1) = L := by rw [hof2, hno, List.nil_append]
      have hLh := zH hL; clear hsuc hnone hof2 hM hV hno hL; go_wp2; go_ret; rw [hLh.out]; exact ⟨_, rfl, HM.pick [0]⟩
theorem ref_of2 (q : Qry) (key : List UInt8) (t : Int) (w : World) (hl : key.length ≤ 9223372036854775807) (hq : q.right = true) (hk : nameB key = true) (ht : 0 ≤ t ∧ t ≤ 1099511627776) (h3 : q.kind = 2) :
    Calls Tryz.prog 182 #[qyV q, textV key, .int .i64 t] w fun e w' => ∃ v', e = .returned v' ∧ zS w w' [Row 61 3 v' (winsOf q key t).length (wds (winsOf q key t))] := by
 obtain ⟨hkd, hsz, hsl, -, -⟩ := q_size hq; have hlen := wins_len q key t; have hfit : ∀ x ∈ winsOf q key t, x.fits := fun x hx => fits_right (wins_right x hx).1
 have hres : winsOf q key t = ofTo q key t q.slide ((t / q.slide).toNat + 1) := by
  unfold winsOf; rw [if_pos ⟨hq, hk, ht⟩, if_neg (by omega)]
  rw [if_pos h3, slide_of]
 have kq := fun w' => doc_qright q w'
 have kn := fun w' => ref_name key hl w'
 rw [hq] at kq; rw [hk] at kn; clear hq hk; obtain ⟨kd, sz, sl, lt, ag, kk⟩ := q; simp only at hkd hsz hsl h3 hres; subst h3; obtain ⟨hs1, hs2, -⟩ := hsl rfl; clear hsl; have hd0 : 0 ≤ t / sl := Int.ediv_nonneg ht.1 (by omega)
 obtain ⟨K, hK⟩ : ∃ K : Nat, (t / sl).toNat = K := ⟨_, rfl⟩; have d3 : t / sl = (K : Int) := by omega
 have hKb : (K : Int) ≤ 1099511627776 := by
  have := Int.ediv_le_self sl ht.1
  omega
 have d4 : Int.tdiv t sl = (K : Int) := by rw [Int.tdiv_eq_ediv_of_nonneg ht.1, d3]
 have d1 : IntKind.i64.wrap (Int.tdiv t sl) = (K : Int) := by rw [d4, IntKind.wrap_i64]; omega
 have d2 : IntKind.i64.wrap (t / sl) = (K : Int) := by rw [d3, IntKind.wrap_i64]; omega
 have hmul : ∀ m : Nat, m ≤ K → (m : Int) * sl ≤ t := fun m hm => by
  have h6 : (m : Int) ≤ t / sl := by omega
  exact (Int.le_ediv_iff_mul_le (by omega)).1 h6
 have hmul0 : ∀ m : Nat, 0 ≤ (m : Int) * sl := fun m => Int.mul_nonneg (by omega) (by omega)
 rw [hK] at hres; rw [hres] at hlen hfit; rw [hres]; clear hres hK hd0; have hfith := zH hfit; have hmulh := zH hmul; have hmul0h := zH hmul0; obtain ⟨OF, hOF⟩ := zNm (ofTo (⟨2, sz, sl, lt, ag, kk⟩ : Qry) key t sl); have hOFh := zH hOF; rw [hOF] at hlen ⊢; clear hfit hmul hmul0 hOF; obtain ⟨b, hb⟩ := zNm w.heap.size; have H0 : zS w _ [_] := (St.nil _ w).allocAt hb #[.int .i64 2, .int .i64 sz, .int .i64 sl, .int .i64 lt, .int .i64 ag, .int .i64 kk] 23; obtain ⟨w1, hw1⟩ := zNm (w.alloc (.cells #[.int .i64 2, .int .i64 sz, .int .i64 sl, .int .i64 lt, .int .i64 ag, .int .i64 kk] 23)); unfold qyV qyC at kq; unfold textV at kn; simp only at kq; unfold qyV qyC textV; simp only; have t0 : ¬ t < 0 := by omega
 have t1 : ¬ 1099511627776 < t := by omega
 have z0 : ¬ sl = 0 := by omega
 have z1 : (sl == 0) = false := by simpa using z0
 go_enter Tryz.func182, Tryz.ntmps182
 go_upto_region 1 with (fail)
 rw [hw1] at H0; (try rw [hw1]); (try simp only [hb]); have H0 : zS w w1 [zbqP b sz sl lt ag kk] := H0; have c0 := H0.cell 0 0 rfl rfl; have c1 := H0.cell 0 1 rfl rfl; have c2 := H0.cell 0 2 rfl rfl; have c3 := H0.cell 0 3 rfl rfl; have c4 := H0.cell 0 4 rfl rfl; have c5 := H0.cell 0 5 rfl rfl; have hbh := zH hb; clear hw1 hb
 go_upto_block 1 with (first
  | (go_at_call 16; go_must (refine (St.callPast (kq _) H0).mono ?_; rintro e w2 ⟨rfl, H2⟩; clear c0 c1 c2 c3 c4 c5; have c0 := H2.cell 0 0 rfl rfl; have c1 := H2.cell 0 1 rfl rfl; have c2 := H2.cell 0 2 rfl rfl))
  | (go_at_call 152; go_must (refine (kn _).mono ?_; rintro e w7 ⟨rfl, rfl⟩)))
 (try simp only [d3]); clear H0 kq kn c0 c1 c2 d1 d2 d3 d4 z0 z1; have H10 : zS w w7 [zcfP (wds []), zbqP b sz sl lt ag kk] := H2.row_nil 61 3; clear H2
 go_loopw [8, 9] (fun u kv wr => ∃ (z : Int) (L : List Wd) (a : Option Addr) (c : Nat), (-1 ≤ z ∧ z ≤ (K : Int)) ∧ u = .slice a L.length c ∧ kv = .int .i64 z ∧ Hid (OF (K + 1) = OF (z + 1).toNat ++ L) ∧ zS w wr [zqP (wds L) a L.length c, zbqP b sz sl lt ag kk]) (fun _ kv _ => (intOf kv + 1).toNat)
 case atStart => exact ⟨(K : Int), [], none, 0, by omega, rfl, rfl, zH (by rw [List.append_nil, show ((K : Int) + 1).toNat = K + 1 by omega]), H10⟩
 case round =>
  clear H10; obtain ⟨z, L, a, c, hz, rfl, rfl, hof, HM⟩ := hrel
  by_cases hneg : z = -1
  · subst hneg
    have hL : OF (K + 1) = L := by
     have := hof.out; rw [show ((-1 : Int) + 1).toNat = 0 by rfl, ← hOFh.out] at this
     rw [← hOFh.out]
     simpa [ofTo] using this
    have hLh := zH hL; clear hL; go_wp2; go_ret; rw [hLh.out]; exact ⟨_, rfl, HM.pick [0]⟩
  · obtain ⟨m, rfl⟩ : ∃ m : Nat, z = (m : Int) := ⟨z.toNat, by omega⟩
    have hm1 := hmulh.out m (by omega)
    have hm0 := hmul0h.out m; have hof2 := hof.out; rw [show ((m : Int) + 1).toNat = m + 1 by omega] at hof2
    have hsuc := ofTo_succ (⟨2, sz, sl, lt, ag, kk⟩ : Qry) key t sl m; have hnone := ofTo_none (q := (⟨2, sz, sl, lt, ag, kk⟩ : Qry)) (key := key) (t := t) (step := sl) (by omega) (n := m + 1)
    rw [show (((m + 1 : Nat) : Int) - 1) = (m : Int) by omega] at hnone
    unfold ofW at hsuc; rw [hOFh.out] at hsuc hnone; obtain ⟨M, hM⟩ := zNm ((m : Int) * sl); simp only [hM] at hm1 hm0 hsuc hnone; obtain ⟨V, hV⟩ := zNm (M + sz); simp only [hV] at hsuc hnone; have e1 : IntKind.i64.wrap ((m : Int) * sl) = M := by rw [hM, IntKind.wrap_i64]; omega
    have e2 : IntKind.i64.wrap (M + sz) = V := by rw [IntKind.wrap_i64]; omega
    have e3 : IntKind.i64.wrap ((m : Int) - 1) = (m : Int) - 1 := by rw [IntKind.wrap_i64]; omega
    have g0 : decide (0 ≤ (m : Int)) = true := by simp
    have hLl : L.length ≤ 16 := by
     have := congrArg List.length hof2; rw [List.length_append] at this
     omega
    have c1 := HM.cell 1 1 rfl rfl
    by_cases hgo : t < V
    · rw [if_pos hgo] at hsuc; have hnx : Hid (OF (K + 1) = OF m ++ ([⟨key, M, V⟩] ++ L)) := zH (by rw [hof2, hsuc, List.append_assoc])
      have hLf : ∀ x ∈ L, x.fits := fun x hx => hfith.out x (by rw [hOFh.out, hof2]; exact List.mem_append_right _ hx)
      have hLfh := zH hLf; have z2 : decide (t < V) = true := by simpa using hgo
      clear hsuc hnone hof2 hLf hM hV; have HS : zS w _ [Row 61 3 (.slice (some ⟨wr.heap.size, 0, none⟩) 1 1) 1 [.string ⟨key.toArray⟩, .int .i64 M, .int .i64 V], zqP (wds L) a L.length c, zbqP b sz sl lt ag kk] := St.blk_row (cs := [.string ⟨key.toArray⟩, .int .i64 M, .int .i64 V]) (xs := [.string ⟨key.toArray⟩, .int .i64 M, .int .i64 V]) (size := 3) (HM.allocAt rfl #[.string ⟨key.toArray⟩, .int .i64 M, .int .i64 V] 61) 0 rfl (Nat.le_refl 1) (by simp [maxLen]) rfl rfl
      obtain ⟨ad, cp, r3, r4, r5⟩ := WdsRO.cells (wds_own (HS.row 1 rfl) hLfh.out); simp only [Value.slice.injEq, true_and] at r3; obtain ⟨r3, r6⟩ := r3; subst r3 r6
      go_wp2_with (at_builtin; go_must (refine St.list_add HS 0 rfl rfl (.tmp 72) (.tmp 73) 145 rfl Tryz.underlying145 Tryz.info61 (by decide) rfl (wds L) rfl (wds_len L) (fun e => by first | (rw [r4 e]; done) | (rw [r4 e]; rfl)) (fun p e j u hj => r5 p e j u hj) (wds_one1 L) (by omega) ?_; intro v8 w8 HT hz8; clear hz8; obtain ⟨na, nc, rfl, -, -⟩ := slice_form' (HT.row 0 rfl)))
      go_roundw
      case rel =>
       refine ⟨(m : Int) - 1, [⟨key, M, V⟩] ++ L, na, nc, by omega, by rw [List.length_append]; rfl, by first | rfl | go_num, zH (by rw [show ((m : Int) - 1 + 1).toNat = m by omega]; exact hnx.out), ?_⟩
       rw [List.length_append, wds_app, wds_one]; have HT2 : zS w w8 [_, _, _] := HT; exact HT2.pick [0, 2]
      case measure => first | (simp [intOf]; done) | (simp [intOf]; omega)
    · have z2 : decide (t < V) = false := by simpa using hgo
      have hno := hnone hgo; have hL : OF (K + 1) = L := by rw [hof2, hno, List.nil_append]
      have hLh := zH hL; clear hsuc hnone hof2 hM hV hno hL; go_wp2; go_ret; rw [hLh.out]; exact ⟨_, rfl, HM.pick [0]⟩
theorem ref_of3 (q : Qry) (key : List UInt8) (t : Int) (w : World) (hl : key.length ≤ 9223372036854775807) (hq : q.right = true) (hk : nameB key = true) (ht : 0 ≤ t ∧ t ≤ 1099511627776) (h3 : q.kind = 3) :
    Calls Tryz.prog 182 #[qyV q, textV key, .int .i64 t] w fun e w' => ∃ v', e = .returned v' ∧ zS w w' [Row 61 3 v' (winsOf q key t).length (wds (winsOf q key t))] := by
 obtain ⟨hkd, hsz, hsl, -, -⟩ := q_size hq
 have hres : winsOf q key t = [⟨key, t, t + q.size⟩] := by
  unfold winsOf; rw [if_pos ⟨hq, hk, ht⟩, if_pos h3]
 rw [hres]; clear hres; have kq := fun w' => doc_qright q w'
 have kn := fun w' => ref_name key hl w'
 rw [hq] at kq; rw [hk] at kn; clear hq hk; obtain ⟨kd, sz, sl, lt, ag, kk⟩ := q; simp only at hkd hsz hsl h3 ⊢; subst h3; obtain ⟨V, hV⟩ := zNm (t + sz); have m1 : IntKind.i64.wrap (t + sz) = V := by rw [IntKind.wrap_i64]; omega
 simp only [hV]; clear hV; obtain ⟨b, hb⟩ := zNm w.heap.size; have H0 : zS w _ [_] := (St.nil _ w).allocAt hb #[.int .i64 3, .int .i64 sz, .int .i64 sl, .int .i64 lt, .int .i64 ag, .int .i64 kk] 23; obtain ⟨w1, hw1⟩ := zNm (w.alloc (.cells #[.int .i64 3, .int .i64 sz, .int .i64 sl, .int .i64 lt, .int .i64 ag, .int .i64 kk] 23)); unfold qyV qyC at kq; unfold textV at kn; simp only at kq; unfold qyV qyC textV; simp only; have t0 : ¬ t < 0 := by omega
 have t1 : ¬ 1099511627776 < t := by omega
 go_enter Tryz.func182, Tryz.ntmps182
 go_upto_region 1 with (fail)
 rw [hw1] at H0; (try rw [hw1]); (try simp only [hb]); have c0 := H0.cell 0 0 rfl rfl; have c1 := H0.cell 0 1 rfl rfl; have c2 := H0.cell 0 2 rfl rfl; have c3 := H0.cell 0 3 rfl rfl; have c4 := H0.cell 0 4 rfl rfl; have c5 := H0.cell 0 5 rfl rfl; have hbh := zH hb; clear hw1 hb
 go_wp2_with (first
  | (go_at_call 16; go_must (refine (St.callPast (kq _) H0).mono ?_; rintro e w2 ⟨rfl, H2⟩; clear c0 c1 c2 c3 c4 c5; have c0 := H2.cell 0 0 rfl rfl; have c1 := H2.cell 0 1 rfl rfl))
  | (go_at_call 152; go_must (refine (kn _).mono ?_; rintro e w7 ⟨rfl, rfl⟩)))
 go_ret; exact ⟨_, rfl, (show zS w _ [_, _] from St.blk_row (cs := [.string ⟨key.toArray⟩, .int .i64 t, .int .i64 V]) (xs := [.string ⟨key.toArray⟩, .int .i64 t, .int .i64 V]) (size := 3) (H2.allocAt rfl #[.string ⟨key.toArray⟩, .int .i64 t, .int .i64 V] 61) 0 rfl (Nat.le_refl 1) (by simp [maxLen]) rfl rfl).pick [0]⟩
theorem ref_of (q : Qry) (key : List UInt8) (t : Int) (w : World) (hl : key.length ≤ 9223372036854775807) (hq : q.right = true) (hk : nameB key = true) (ht : 0 ≤ t ∧ t ≤ 1099511627776) :
    Calls Tryz.prog 182 #[qyV q, textV key, .int .i64 t] w fun e w' => ∃ v', e = .returned v' ∧ zS w w' [Row 61 3 v' (winsOf q key t).length (wds (winsOf q key t))] := by
 obtain ⟨hkd, -, -, -, -⟩ := q_size hq
 by_cases h3 : q.kind = 3
 · exact ref_of3 q key t w hl hq hk ht h3
 · by_cases h2 : q.kind = 2
   · exact ref_of2 q key t w hl hq hk ht h2
   · exact ref_of1 q key t w hl hq hk ht (by omega)
end Go.Proofs.YtiglgfonhdfpmaaGreat
namespace Go.Proofs.YtiglgfonhdfpmaaGreat
open Go.RowKit
theorem ref_cmp (x y : Wd) (w : World) : Calls Tryz.prog 158 #[wdV x, wdV y] w fun e w' => e = .returned (.int .i64 (x.cmp y)) ∧ Below w.heap.size w w' := by
 have hp := zH (order_or x y); have l3 := compare_lim x.key y.key; have l2 := compareI_lim x.frm y.frm; have l1 := compareI_lim x.to y.to; obtain ⟨xk, xf, xt⟩ := x; obtain ⟨yk, yf, yt⟩ := y; have H0 : zS w w [] := St.nil (fun _ => False) w
 have H1 : zS w _ [_] := H0.allocAt rfl #[.string ⟨xk.toArray⟩, .int .i64 xf, .int .i64 xt] 61; have H2 : zS w _ [_, _] := H1.allocAt (B := w.heap.size + 1) (Array.size_push _) #[.string ⟨yk.toArray⟩, .int .i64 yf, .int .i64 yt] 61; have k3 := fun w' => ref_keys xk yk w'
 have k2 := fun w' => ref_order xf yf w'
 have k1 := fun w' => ref_order xt yt w'
 simp only at hp l1 l2 l3 k3; obtain ⟨c1, hc1⟩ := zNm (Lib.compareInt xt yt); obtain ⟨c2, hc2⟩ := zNm (Lib.compareInt xf yf); obtain ⟨c3, hc3⟩ := zNm (Lib.compareBytes xk yk); rw [hc1] at l1; rw [hc2] at l2; rw [hc3] at l3; rw [hc1, hc2, hc3] at hp; simp only [hc1] at k1; simp only [hc2] at k2; simp only [hc3] at k3; clear hc1 hc2 hc3; unfold wdV wdC textV; simp only
 go_enter Tryz.func158, Tryz.ntmps158
 go_upto_region 1 with (fail)
 obtain ⟨b, hb⟩ := zNm w.heap.size; obtain ⟨b2, hb2⟩ := zNm (b + 1); obtain ⟨w2, hw2⟩ := zNm ((w.alloc (.cells #[.string ⟨xk.toArray⟩, .int .i64 xf, .int .i64 xt] 61)).alloc (.cells #[.string ⟨yk.toArray⟩, .int .i64 yf, .int .i64 yt] 61)); rw [hw2, hb, hb2] at H2; rw [hw2]; simp only [hb, hb2]; have H2 : zS w w2 [zcP b2 yk.toArray yf yt, zcP b xk.toArray xf xt] := H2; clear hb hb2 hw2 H0 H1; refine wp_script [(0, false), (1, false), (2, false), (3, false), (4, false), (5, false), (6, false), (7, false), (8, false), (9, false), (10, false), (11, false), (12, false), (13, false), (14, false), (17, false), (15, true), (16, false)] (Fam fun w' => zS w w' [zcP b2 yk.toArray yf yt, zcP b xk.toArray xf xt]) (fun w' => zS w w' [zcP b2 yk.toArray yf yt, zcP b xk.toArray xf xt]) (by kernel_rfl) (by rfl) (by kernel_rfl) (by kernel_rfl) H2.drew (Fam.st (fun _ h => h)) ?_
 iterate 16 first | (apply script_pass; rfl; rfl; intro K hK; go_simp; refine hK _ ?_; clear hK K) | (apply script_step; rfl; rfl; (focus (intro I hI w1 h1'; have h1 := hI.2 _ h1'; have d0 := h1.cell 0 0 rfl rfl; have d1 := h1.cell 0 1 rfl rfl; have d2 := h1.cell 0 2 rfl rfl; have e0 := h1.cell 1 0 rfl rfl; have e1 := h1.cell 1 1 rfl rfl; have e2 := h1.cell 1 2 rfl rfl; first | (go_simp; first | rfl | exact ⟨rfl, h1'⟩ | (go_at_call 211; with_reducible exact Fam.call0 h1' (k3 w1)) | (go_at_call 210; with_reducible exact Fam.call0 h1' (k2 w1)) | (go_at_call 210; with_reducible exact Fam.call0 h1' (k1 w1))))); intro K hK; go_simp; refine hK _ ?_; clear hK K)
 obtain ⟨V1, hV1⟩ := hide_rel (fun u I' => ∃ g2, u = .slice (some ⟨g2, 0, none⟩) 3 3 ∧ I' = fun w' => zS w w' [zbyP g2 c1 c2 c3, zcP b2 yk.toArray yf yt, zcP b xk.toArray xf xt])
 refine script_big V1 rfl rfl ?_ ?_
 · intro w1 h1
   go_simp
   exact ⟨_, (hV1.out _ _).2 ⟨_, rfl, rfl⟩, h1.alloc _ _⟩
 intro u I' hvI; obtain ⟨b3, rfl, rfl⟩ := (hV1.out _ _).1 hvI; clear hvI hV1; refine ⟨_, fun _ h => h, Fam.st (fun _ h => h.pick [1, 2]), ?_⟩
 intro K hK
 go_simp
 refine hK _ ?_; clear hK K
 iterate 1 first | (apply script_pass; rfl; rfl; intro K hK; go_simp; refine hK _ ?_; clear hK K) | (apply script_step; rfl; rfl; (focus (intro I hI w1 h1'; have h1 := hI.2 _ h1'; first | (go_simp; first | rfl | exact ⟨rfl, h1'⟩))); intro K hK; go_simp; refine hK _ ?_; clear hK K)
 refine script_nil ?_; intro w4 H4; have H5 : zS w w4 [zbyP b3 c1 c2 c3] := H4.pick [0]
 obtain ⟨ad, cap, hvv, _, hint, hcell⟩ := ints_blk (l := [c1, c2, c3]) (H5.blk 0 rfl) (by
  intro z hz; simp only [List.mem_cons, List.not_mem_nil, or_false] at hz
  omega)
 clear hvv hcell H4 H2 k1 k2 k3
 go_upto_block 1 with (fail)
 go_loopw [6, 24] (fun _ j wr => ∃ (i : Nat), i ≤ 3 ∧ j = .int .i64 i ∧ Hid (∀ y ∈ [c1, c2, c3].take i, y = 0) ∧ zS w wr [zbyP b3 c1 c2 c3]) (fun _ j _ => 3 - (intOf j).toNat)
 case atStart => exact ⟨0, by omega, rfl, zH (by simp), H5⟩
 case round =>
  clear H5; obtain ⟨i, hi, rfl, hz, HM⟩ := hrel
  by_cases hlt : i < 3
  · obtain ⟨x, hx⟩ : ∃ x, [c1, c2, c3][i]? = some x := ⟨_, List.getElem?_eq_getElem hlt⟩
    have c0 : wr.cell? ⟨b3, i, none⟩ = some (.int .i64 x) := HM.cell 0 i rfl (by
     have : (#[Value.int .i64 c1, .int .i64 c2, .int .i64 c3] : Array Value) = ([c1, c2, c3].map (Value.int .i64)).toArray := rfl; rw [this, List.getElem?_toArray, List.getElem?_map, hx]
     rfl)
    have hxh := zH hx; have hlt' : (i : Int) < 3 := by omega
    clear hx hint
    by_cases h0 : x = 0
    · subst h0; go_wp2; go_roundw
      case rel =>
       refine ⟨i + 1, by omega, by go_num, zH ?_, HM⟩
       rw [take_snoc' hxh.out]; intro y hy; rcases List.mem_append.1 hy with hy | hy
       · exact hz.out y hy
       · exact List.mem_singleton.1 hy
      case measure => simp [intOf]; omega
    · have hr := zH (orI_zero hz.out hxh.out h0); have z0 : (x != 0) = true := by simpa using h0
      have z1 : (x == 0) = false := by simpa using h0
      go_wp2; go_ret; rw [← hp.out, hr.out]; exact ⟨rfl, HM.below (Nat.le_refl _) (fun _ h => h.elim)⟩
  · obtain rfl : i = 3 := by omega
    have hr := zH (orI_all (l := [c1, c2, c3]) (by have := hz.out; simpa using this))
    go_wp2; go_ret; rw [← hp.out, hr.out]; exact ⟨rfl, HM.below (Nat.le_refl _) (fun _ h => h.elim)⟩
end Go.Proofs.YtiglgfonhdfpmaaGreat
