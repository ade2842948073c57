import Derived.Test.YtiglgfonhdfpmaaGreatOr19
/- The document's event. Conditions: the state is right, the item a right event. (Printed by a program of mine.) -/
set_option linter.unusedVariables false
set_option linter.unusedSimpArgs false
set_option maxHeartbeats 16000000
set_option maxRecDepth 100000
namespace Go.Proofs.YtiglgfonhdfpmaaGreat
open Go.RowKit
def DocOk (w : World) (G0 : List (Value × List Int)) (v0 : Value) (ms0 : List Pm) (R : StepR) (e : Ending) (w' : World) : Prop :=
 ∃ pv ov ms os H, e = .returned (.tuple #[.agg #[.int .i64 R.s.mark, pv], ov, .int .i64 R.e]) ∧ ms.map (·.p) = R.s.panes ∧ os.map (·.o) = R.outs ∧ (∀ m ∈ ms, Pm.own m ∈ H ++ G0) ∧ (∀ y ∈ os, Om.own y ∈ H ++ G0) ∧
  zS w w' [RowO 68 v0 ms0 pv ms, zsP (encO.all os) ov os.length, Pool H]
abbrev zpP (a0) (a1) (a2) (a3) (a4) (a5) (a6) (a7) := (RowO 68 (.slice a0 a1 a2) a3 (.slice a4 a5 a6) a7 : SP)
abbrev zbtP (a0) (a1) (a2) (a3) (a4) (a5) (a6) (a7) (a8) := (RowO 68 (.slice a0 a1 a2) a3 (.slice (some ⟨a4, a5, none⟩) a6 a7) a8 : SP)
theorem doc_event (q : Qry) (mk : Int) (key : List UInt8) (tm v : Int) {pv0 : Value} (ms0 : List Pm) (G0 : List (Value × List Int)) (w : World) (hro : encP.RO w pv0 ms0) (hG : ∀ x ∈ G0, IntsRO w x.1 x.2) (hmo : ∀ m ∈ ms0, Pm.own m ∈ G0) (hs : Stt.right q ⟨mk, ms0.map (·.p)⟩ = true) (hkey : nameB key = true) (htm : 0 ≤ tm ∧ tm ≤ 1099511627776) (hv : valB v = true) :
    Calls Tryz.prog 127 #[qyV q, .agg #[.int .i64 mk, pv0], itmV ⟨1, key, tm, v⟩] w fun e w' => DocOk w G0 pv0 ms0 (eventM q ⟨mk, ms0.map (·.p)⟩ ⟨1, key, tm, v⟩) e w' := by
 obtain ⟨hq, hmk, hlen, hall, hord, hset⟩ := right_parts hs; have hgood0 : GoodA q (ms0.map (·.p)) := right_good hs; simp only [List.length_map] at hmk hlen hset
 have hkl : key.length ≤ 9223372036854775807 := by
  unfold nameB at hkey; simp only [Bool.and_eq_true, decide_eq_true_eq] at hkey
  omega
 have hstl : q.kind = 3 → Stl (wsP ms0) := fun h => by rw [wsP_map]; exact settledW_iff.1 (hset h)
 have hwr : ∀ x ∈ winsOf q key tm, x.right = true := fun x hx => (wins_right x hx).1
 have hwl := wins_len q key tm; have hw3 : q.kind = 3 → (winsOf q key tm).length ≤ 1 := fun h => wins_sess h
 have hqb : (1 ≤ q.size ∧ q.size ≤ 1073741824) ∧ (0 ≤ q.late ∧ q.late ≤ 1073741824) := by
  have h0 := hq; unfold Qry.right at h0; simp only [Bool.and_eq_true, decide_eq_true_eq] at h0
  omega
 have kw := fun w' => ref_of q key tm w' hkl hq hkey htm
 have k1 := fun w' lv (h : IntsRO w' lv [v]) => doc_single q w' h hq hv
 have hg1 := single_right hq hv; have hvb := valB_iff.1 hv; have kmg := zH (fun (g1 g2 : Ag) (h1 h2 : Value) w' (a : IntsRO w' h1 g1.top) (b : IntsRO w' h2 g2.top) (c : g1.right q = true) (d : g2.right q = true) => doc_merge q g1 g2 w' a b c d)
 have kvl := zH (fun (g : Ag) (h : Value) w' (a : IntsRO w' h g.top) (c : g.right q = true) => doc_valp q g w' a c)
 have kgn := zH (fun (x : Wd) w' (h : x.right = true) => doc_gone q x mk (by have := right_iff.1 h; omega) w')
 have hngo := zH (fun (x : Wd) (h : x.right = true) => gone_right (q := q) (mk := mk) hq h)
 have hlays := zH (lays_cons q mk v); have hlgood := zH (fun (x : Wd) (old : Wd → Bool) (l : List Pn) (y : List Pn × List Ot) (h1 : x.right = true) (h2 : GoodA q l) h3 => lay_good (q := q) (mk := mk) (x := x) (old := old) (v := v) (l := l) (y := y) hq hv h1 h2 h3)
 have hmgr := zH (fun (a b g : Ag) (h1 : a.right q = true) (h2 : b.right q = true) h3 => merge_right (q := q) (a := a) (b := b) (g := g) h1 h2 h3)
 have hzr := zH (zero_right hq); have hbecr := zH (fun (l : List Pn) (own : Wd) (h : own.right = true) => bec_right q (l := l) h)
 have hresd : eventM q ⟨mk, ms0.map (·.p)⟩ ⟨1, key, tm, v⟩ = match laysM q mk v (winsOf q key tm) ⟨ms0.map (·.p), [], false⟩ with
     | none => ⟨⟨mk, ms0.map (·.p)⟩, [], 20⟩
     | some y => if 256 < y.panes.length then ⟨⟨mk, ms0.map (·.p)⟩, [], 30⟩ else ⟨⟨mk, y.panes⟩, if y.taken = true then y.outs else y.outs ++ [lateO ⟨1, key, tm, v⟩], 0⟩ := rfl
 obtain ⟨R, hR⟩ := zNm (eventM q ⟨mk, ms0.map (·.p)⟩ ⟨1, key, tm, v⟩); rw [hR] at hresd ⊢; obtain ⟨res, hres⟩ := zNm (laysM q mk v (winsOf q key tm) ⟨ms0.map (·.p), [], false⟩); rw [hres] at hresd; obtain ⟨ws, hws⟩ := zNm (winsOf q key tm); simp only [hws] at kw hwr hwl hw3 hres; have hRh := zH hresd; have hresh := zH hres; have hwrh := zH hwr; have hmlh := zH hmo; have hroh := zH hro; have hGh := zH hG; have hg1h := zH hg1; have hgood0h := zH hgood0; have hstlh := zH hstl; have hw3h := zH hw3; obtain ⟨g1, hgg⟩ := zNm (singleM q v); rw [hgg] at hg1h; simp only [hgg] at k1
 have hput : Hid (∀ x g r, putM q mk x g r v = match mergeM q g g1 with
     | none => none
     | some a => if x.ripe mk = true then (if r = 1073741824 then none else some (⟨x, a, r + 1⟩, [⟨false, itm00, x, r + 1, valueM q a⟩])) else some (⟨x, a, r⟩, [])) := zH (fun x g r => by rw [← hgg]; rfl)
 have hlayd : Hid (∀ x old l, layM q mk x old v l = match gathM q x old l (Ag.zero, 0) with
     | none => none
     | some s => match putM q mk x s.1 s.2 v with
      | none => none
      | some y => some (withP (l.filter fun p => !old p.w) y.1, y.2)) := zH (fun _ _ _ => rfl)
 obtain ⟨va, vc, rfl, -, -⟩ := hro; clear hR hresd hres hws hall hord hset hstl hwr hw3 hgood0 hs hkey hv hmo hG hgg hg1; obtain ⟨qq, hqq⟩ : ∃ z, z = q := ⟨_, rfl⟩; have hqqh := zH hqq; rw [← hqq] at kw k1 kmg kvl kgn hngo hlays hlgood hmgr hzr hbecr hresh hg1h hgood0h hstlh hw3h hput hlayd hq; clear hqq; have hqh := zH hq; clear hq; obtain ⟨kd, sz, sl, lt, ag, kk⟩ := q; have hqv : qyV qq = .agg #[.int .i64 kd, .int .i64 sz, .int .i64 sl, .int .i64 lt, .int .i64 ag, .int .i64 kk] := by rw [hqqh.out]
 rw [hqv] at kw k1 kmg kvl kgn; have hkd : qq.kind = kd ∧ qq.late = lt := by rw [hqqh.out]; exact ⟨rfl, rfl⟩
 have hkdh := zH hkd; rw [hkd.1] at hstlh hw3h; clear hqv hkd; have htl1 := top_lim hg1h.out; obtain ⟨g0, hg0⟩ : ∃ z, z = g1 := ⟨_, rfl⟩; have hg0h := zH hg0; rw [← hg0] at hput hg1h; clear hg0; obtain ⟨on, oa, ot, ox, oy⟩ := g1; unfold agV agC at k1; simp only at k1 htl1; obtain ⟨OX, hOX⟩ := zNm (ib ox); obtain ⟨OY, hOY⟩ := zNm (ib oy); simp only [hOX, hOY] at k1; have hOXh := zH hOX; have hOYh := zH hOY; clear hOX hOY; unfold textV at kw; unfold qyV qyC itmV textV; simp only at hqb ⊢; have H1 : zS w _ [_] := (St.nil _ w).allocAt rfl #[.int .i64 kd, .int .i64 sz, .int .i64 sl, .int .i64 lt, .int .i64 ag, .int .i64 kk] 23; have H2 : zS w _ [_, _] := H1.allocAt (B := w.heap.size + 1) (Array.size_push _) #[.int .i64 mk, .slice va ms0.length vc] 45; have H3 : zS w _ [_, _, _] := H2.allocAt (B := w.heap.size + 1 + 1) (by simp [Array.size_push]) #[.int .i64 1, .string ⟨key.toArray⟩, .int .i64 tm, .int .i64 v] 56
 have H4 : zS w _ [_, _, _, _] := H3.allocAt (B := w.heap.size + 1 + 1 + 1) (by simp [Array.size_push]) #[.int .i64 0, .slice none 0 0] 45
 go_enter Tryz.func127, Tryz.ntmps127
 go_upto_region 1 with (fail)
 obtain ⟨qb, hqb1⟩ := zNm w.heap.size; obtain ⟨sb, hsb⟩ := zNm (qb + 1); obtain ⟨xb, hxb⟩ := zNm (sb + 1); obtain ⟨rb, hrb⟩ := zNm (xb + 1); simp only [hqb1, hsb, hxb, hrb] at H4 ⊢; obtain ⟨w1, hw1⟩ := zNm ((((w.alloc (.cells #[.int .i64 kd, .int .i64 sz, .int .i64 sl, .int .i64 lt, .int .i64 ag, .int .i64 kk] 23)).alloc (.cells #[.int .i64 mk, .slice va ms0.length vc] 45)).alloc (.cells #[.int .i64 1, .string ⟨key.toArray⟩, .int .i64 tm, .int .i64 v] 56)).alloc (.cells #[.int .i64 0, .slice none 0 0] 45)); rw [hw1] at H4; rw [hw1]; have H5 : zS w w1 [zaP qb kd sz sl lt ag kk, zfP sb mk va ms0.length vc, zeP xb key.toArray tm v, zgP rb] := H4.pick [3, 2, 1, 0]; have hqbh := zH hqb1; clear hw1 hqb1 hsb hxb hrb H1 H2 H3 H4; have s1 := H5.cell 1 1 rfl rfl; have x3 := H5.cell 2 3 rfl rfl; have d0 := H5.cell 0 0 rfl rfl; have d1 := H5.cell 0 1 rfl rfl; have d2 := H5.cell 0 2 rfl rfl; have d3 := H5.cell 0 3 rfl rfl; have d4 := H5.cell 0 4 rfl rfl; have d5 := H5.cell 0 5 rfl rfl; obtain ⟨bv, hbv⟩ := zNm w1.heap.size; have HI : zS w _ (Row 3 1 (.slice (some ⟨bv, 0, none⟩) 1 1) 1 (intCells [v]) :: [zaP qb kd sz sl lt ag kk, zfP sb mk va ms0.length vc, zeP xb key.toArray tm v, zgP rb]) := (H5.allocAt hbv #[.int .i64 v] 3).blk_row 0 (e := 3) (size := 1) (cap := 1) (n := 1) (cs := [.int .i64 v]) (xs := intCells [v]) rfl (Nat.le_refl _) (by decide) rfl rfl
 have hIv : IntsRO _ (.slice (some ⟨bv, 0, none⟩) 1 1) [v] := ints_own (HI.row 0 rfl) (by intro z hz; rw [List.mem_singleton.1 hz]; omega)
 go_upto_region 4 with (fail)
 go_upto_region 5 with (go_at_call 185; go_must (refine (k1 _ _ hIv).mono ?_; rintro e w3 ⟨h1v, rfl, G1⟩; obtain ⟨ha, hc, rfl, -, -⟩ := slice_form' (G1.row 0 rfl); have HJ : zS w w3 (zxP (intCells ot) ha ot.length hc :: Row 3 1 (.slice (some ⟨bv, 0, none⟩) 1 1) 1 (intCells [v]) :: [zaP qb kd sz sl lt ag kk, zfP sb mk va ms0.length vc, zeP xb key.toArray tm v, zgP rb]) := HI.call0 G1))
 have HJ2 : zS w _ (Pool [] :: zxP (intCells ot) ha ot.length hc :: [zaP qb kd sz sl lt ag kk, zfP sb mk va ms0.length vc, zeP xb key.toArray tm v, zgP rb]) := (HJ.pick [0, 2, 3, 4, 5]).pool_nil; have HK : zS w _ (Pool [(.slice ha ot.length hc, ot)] :: [zaP qb kd sz sl lt ag kk, zfP sb mk va ms0.length vc, zeP xb key.toArray tm v, zgP rb]) := St.pool_add (l := [zaP qb kd sz sl lt ag kk, zfP sb mk va ms0.length vc, zeP xb key.toArray tm v, zgP rb]) (HJ2.pick [1, 0, 2, 3, 4, 5]) (ints_own (HJ.row 0 rfl) htl1); have HL : zS w _ [_, _, _, _, _, _] := HK.allocAt rfl #[.int .i64 on, .int .i64 oa, .slice ha ot.length hc, .complex .f64 OX OY] 66; obtain ⟨w4, hw4⟩ := zNm (w3.alloc (.cells #[.int .i64 on, .int .i64 oa, .slice ha ot.length hc, .complex .f64 OX OY] 66)); obtain ⟨ob, hob⟩ := zNm w3.heap.size; rw [hw4, hob] at HL; (try rw [hw4]); (try simp only [hob]); have HN : zS w w4 [zdP ob on oa ha ot.length hc OX OY, Pool [(.slice ha ot.length hc, ot)], zaP qb kd sz sl lt ag kk, zfP sb mk va ms0.length vc, zeP xb key.toArray tm v, zgP rb] := HL; have hobh := zH hob; clear hw4 hob HL HK HJ2 HJ HI hIv G1 k1 d0 d1 d2 d3 d4 d5 s1 x3 H5 hbv; have d0 := HN.cell 2 0 rfl rfl; have d1 := HN.cell 2 1 rfl rfl; have d2 := HN.cell 2 2 rfl rfl; have d3 := HN.cell 2 3 rfl rfl; have d4 := HN.cell 2 4 rfl rfl; have d5 := HN.cell 2 5 rfl rfl; have x1 := HN.cell 4 1 rfl rfl; have x2 := HN.cell 4 2 rfl rfl
 go_upto_block 1 with (go_at_call 182; go_must (refine (kw _).mono ?_; rintro e w5 ⟨wv, rfl, G2⟩; obtain ⟨wa, wsc, rfl, -, hwa⟩ := slice_form' (G2.row 0 rfl); have HO : zS w w5 [zqP (wds ws) wa ws.length wsc, zdP ob on oa ha ot.length hc OX OY, Pool [(.slice ha ot.length hc, ot)], zaP qb kd sz sl lt ag kk, zfP sb mk va ms0.length vc, zeP xb key.toArray tm v, zgP rb] := HN.call0 G2))
 have HP1 := (HO.row_nil 63 10).row_same 68 (.slice va ms0.length vc) ms0; have hwah := zH hwa; clear hwa HN HO G2 d0 d1 d2 d3 d4 d5 x1 x2 kw
 go_loopw [9, 10, 11, 15, 16, 17, 18, 19, 20, 22, 23, 25, 26, 27, 28, 29, 47] (fun u9 u10 u11 _ _ _ _ _ _ _ _ _ _ _ _ _ u47 wr => ∃ (i : Nat) (L : List Pm) (os : List Om) (b : Bool) (HH : List (Value × List Int)) (pa : Option Addr) (pc : Nat) (oo : Option Addr) (oc : Nat), i ≤ ws.length ∧ u9 = .slice pa L.length pc ∧ u10 = .slice oo os.length oc ∧ u11 = .bool b ∧ u47 = .int .i64 i ∧ Hid (res = laysM qq mk v (ws.drop i) ⟨L.map (·.p), os.map (·.o), b⟩) ∧ Hid (GoodA qq (L.map (·.p))) ∧ Hid (∀ m ∈ L, Pm.own m ∈ HH ++ G0) ∧ Hid (∀ y ∈ os, Om.own y ∈ HH ++ G0) ∧ Hid (i = 0 → L = ms0) ∧ L.length ≤ 256 + i ∧ os.length ≤ i ∧ Hid ((Value.slice ha ot.length hc, ot) ∈ HH) ∧ zS w wr [zaP qb kd sz sl lt ag kk, zfP sb mk va ms0.length vc, zeP xb key.toArray tm v, zgP rb, zdP ob on oa ha ot.length hc OX OY, zpP va ms0.length vc ms0 pa L.length pc L, zqP (wds ws) wa ws.length wsc, zlP (encO.all os) oo os.length oc, Pool HH]) (fun _ _ _ _ _ _ _ _ _ _ _ _ _ _ _ _ u47 _ => ws.length - (intOf u47).toNat)
 case atStart => exact ⟨0, ms0, [], false, [(.slice ha ot.length hc, ot)], va, vc, none, 0, by omega, rfl, rfl, rfl, rfl, zH hresh.out.symm, hgood0h, zH (fun m hm => List.mem_append_right _ (hmlh.out m hm)), zH (fun y hy => by cases hy), zH (fun _ => rfl), by omega, by simp, zH (by simp), HP1.pick [5, 6, 7, 8, 3, 0, 2, 1, 4]⟩
 case round =>
  clear HP1 hgood0h; obtain ⟨i, L, os, b, HH, pa, pc, oo, oc, hi, rfl, rfl, rfl, rfl, hlay, hgood, hmo, hoo, hfix, hLl, hOl, h1in, HM⟩ := hrel
  by_cases hlt : i < ws.length
  · obtain ⟨gw, rfl⟩ := hwah.out (by omega)
    obtain ⟨own, hown⟩ : ∃ x, ws[i]? = some x := ⟨_, List.getElem?_eq_getElem hlt⟩; have hor := hwrh.out own (List.mem_of_getElem? hown); obtain ⟨q0, q1, q2⟩ := row_wds (HM.row 6 rfl) hown; have hdrop := drop_cons_of hown; have hnext := hlay.out; rw [hdrop, hlays.out] at hnext; have hst3 : kd = 3 → Stl (wsP L) := fun h => by rw [hfix.out (by have := hw3h.out h; omega)]; exact hstlh.out h
    have hLfit : ∀ x ∈ wsP L, x.fits := fun x hx => by
     obtain ⟨m, hm, rfl⟩ := List.mem_map.1 hx; exact fits_right (hgood.out m.p (List.mem_map_of_mem hm)).2.2
    have hDfit : ∀ y ∈ docOld qq (wsP L) own, y.fits := fun y hy => (doc_old_mem y hy).elim (hLfit y) (fun e => by rw [e]; exact fits_right hor)
    have hDlen : (docOld qq (wsP L) own).length ≤ L.length + 1 := by have := doc_old_len (q := qq) (W := wsP L) (own := own); rw [show (wsP L).length = L.length by simp [wsP]] at this; exact this
    have hBr := hbecr.out (L.map (·.p)) own hor
    have hB3 : kd = 3 → becM qq (L.map (·.p)) own = becOf (wsP L) own ∧ docOld qq (wsP L) own = gaveW (wsP L) (takeF (wsP L) own).gave := fun h => by
     constructor
     · unfold becM; rw [if_pos (by rw [hkdh.out.1]; exact h), wsP_map]
     · unfold docOld; rw [if_pos (by rw [hkdh.out.1]; exact h)]
    have hBn : kd ≠ 3 → becM qq (L.map (·.p)) own = own ∧ docOld qq (wsP L) own = if (wsP L).contains own = true then [own] else [] := fun h => by
     constructor
     · unfold becM; rw [if_neg (by rw [hkdh.out.1]; exact h)]
     · unfold docOld; rw [if_neg (by rw [hkdh.out.1]; exact h)]
    have hgath : ∀ x s, gathM qq x (fun y => (docOld qq (wsP L) own).contains y) (L.map (·.p)) s = gathM qq x (oldM qq own) (L.map (·.p)) s := fun x s => doc_gath
    have hins : ∀ m : Pm, m.p.w = becM qq (L.map (·.p)) own → (insQ m (L.filter fun y => !(docOld qq (wsP L) own).contains y.p.w)).map (·.p) = withP ((L.map (·.p)).filter fun p => !oldM qq own p.w) m.p := fun m hm => doc_ins hor hm
    obtain ⟨B, hB⟩ := zNm (becM qq (L.map (·.p)) own); obtain ⟨D, hD⟩ := zNm (docOld qq (wsP L) own); have kg := fun w' => kgn.out B w' (by rw [← hB]; exact hBr)
    have hgd := hngo.out B (by rw [← hB]; exact hBr)
    rw [hkdh.out.2] at hgd; simp only [hkdh.out.2, ← hgd] at kg; simp only [hB] at hnext hBr hB3 hBn hins; simp only [hD] at hDfit hDlen hB3 hBn hgath hins; obtain ⟨gn, hgn⟩ := zNm (B.gone qq mk); simp only [hgn] at kg hnext; have hnexth := zH hnext; have hst3h := zH hst3; have hLfith := zH hLfit; have hDfith := zH hDfit; have hBrh := zH hBr; have hB3h := zH hB3; have hBnh := zH hBn; have hgathh := zH hgath; have hinsh := zH hins; have horh := zH hor; have hownf := zH (fits_right hor); clear hnext hst3 hLfit hDfit hBr hB3 hBn hgath hins hor hown hdrop hB hD hgd hgn; obtain ⟨BB, hBB⟩ : ∃ z, z = B := ⟨_, rfl⟩; have hBBh := zH hBB; rw [← hBB] at hnexth hBrh hB3h hBnh hinsh; clear hBB; obtain ⟨OW, hOW⟩ : ∃ z, z = own := ⟨_, rfl⟩; have hOWh := zH hOW; rw [← hOW] at hnexth hB3h hBnh hgathh hinsh horh hownf; clear hOW; have hi2 : (i : Int) < (ws.length : Int) := by omega
    obtain ⟨bk, bf, bt⟩ := B; obtain ⟨yk, yf, yt⟩ := own; unfold wdV wdC textV at kg; unfold textV at q0; simp only at kg q0 q1 q2; have HA : zS w _ (_ :: _) := HM.allocAt rfl #[.string ⟨yk.toArray⟩, .int .i64 yf, .int .i64 yt] 61; go_upto_region 8 with (fail)
    obtain ⟨wb, hwb⟩ := zNm (wr.alloc (.cells #[.string ⟨yk.toArray⟩, .int .i64 yf, .int .i64 yt] 61)); obtain ⟨ub, hub⟩ := zNm wr.heap.size; rw [hwb, hub] at HA; (try rw [hwb]); (try simp only [hub]); have HB : zS w wb [zcP ub yk.toArray yf yt, zaP qb kd sz sl lt ag kk, zfP sb mk va ms0.length vc, zeP xb key.toArray tm v, zgP rb, zdP ob on oa ha ot.length hc OX OY, zpP va ms0.length vc ms0 pa L.length pc L, zkP (wds ws) gw ws.length wsc, zlP (encO.all os) oo os.length oc, Pool HH] := HA; clear hwb hub q0 q1 q2 HM HA; have o0 := HB.cell 0 0 rfl rfl; have o1 := HB.cell 0 1 rfl rfl; have o2 := HB.cell 0 2 rfl rfl; have HA : zS w _ (_ :: _) := HB.allocAt rfl #[.string ⟨yk.toArray⟩, .int .i64 yf, .int .i64 yt] 61; go_upto_region 9 with (fail)
    obtain ⟨wd, hwd⟩ := zNm (wb.alloc (.cells #[.string ⟨yk.toArray⟩, .int .i64 yf, .int .i64 yt] 61)); obtain ⟨vb, hvb⟩ := zNm wb.heap.size; rw [hwd, hvb] at HA; (try rw [hwd]); (try simp only [hvb]); have HC : zS w wd [zcP vb yk.toArray yf yt, zcP ub yk.toArray yf yt, zaP qb kd sz sl lt ag kk, zfP sb mk va ms0.length vc, zeP xb key.toArray tm v, zgP rb, zdP ob on oa ha ot.length hc OX OY, zpP va ms0.length vc ms0 pa L.length pc L, zkP (wds ws) gw ws.length wsc, zlP (encO.all os) oo os.length oc, Pool HH] := HA; clear hwd hvb o0 o1 o2 HB HA; have d0 := HC.cell 2 0 rfl rfl
    go_upto_if 54 with (fail)
    go_cut [17, 18, 19, 20, 22, 54] from 55 to 84 (fun p17 _ _ _ _ _ wx => ∃ (da : Option Addr) (dc : Nat), p17 = .slice da D.length dc ∧ zS w wx [zqP (wds D) da D.length dc, zcP vb bk.toArray bf bt, zaP qb kd sz sl lt ag kk, zfP sb mk va ms0.length vc, zeP xb key.toArray tm v, zgP rb, zdP ob on oa ha ot.length hc OX OY, zpP va ms0.length vc ms0 pa L.length pc L, zkP (wds ws) gw ws.length wsc, zlP (encO.all os) oo os.length oc, Pool HH])
    case first =>
     by_cases hk3 : kd = 3
     · have hk3' : (kd == 3) = true := by simpa using hk3
       obtain ⟨e1, e2⟩ := hB3h.out hk3; have hst := hst3h.out hk3; have hWl : (wsP L).length = L.length := by simp [wsP]
       have kn := zH (fun w' (h : encP.RO w' (.slice pa L.length pc) L) => ref_windows h (by omega))
       have kt := fun w' v' (h : WdsRO w' v' (wsP L)) => ref_take w' h (by omega) hownf.out hst horh.out
       have hgv := takeF_gave (wsP L) OW; have hGl := takeF_len (wsP L) OW; rw [hWl] at hgv hGl; obtain ⟨G, hG1⟩ := zNm ((takeF (wsP L) OW).gave); obtain ⟨T, hT⟩ := zNm (tookW (wsP L) OW); simp only [← e1, hG1, hT] at kt; rw [hG1] at e2 hgv hGl; have hGl2 : G.length ≤ L.length := by omega
       clear hGl; have hGD : D.length = G.length := by rw [e2]; unfold gaveW; rw [List.length_map]
       rw [hOWh.out, hBBh.out] at kt; unfold wdV wdC textV at kt; simp only at kt; have e2h := zH e2; have hGDh := zH hGD; have hgvh := zH hgv; have kth := zH kt; clear e1 e2 hst hG1 hT hgv hGD kt hk3 hWl; go_upto_region 11 with (fail)
       clear d0
       go_cut [18, 19, 20, 54] from 55 to 62 (fun _ p19 p20 _ wx => ∃ (nb : Nat) (ga : Option Addr) (gc : Nat), p19 = .pointer (some ⟨nb, 0, none⟩) ∧ p20 = .slice ga G.length gc ∧ zS w wx [zcP nb bk.toArray bf bt, zxP (intCells G) ga G.length gc, zcP vb yk.toArray yf yt, zcP ub yk.toArray yf yt, zaP qb kd sz sl lt ag kk, zfP sb mk va ms0.length vc, zeP xb key.toArray tm v, zgP rb, zdP ob on oa ha ot.length hc OX OY, zpP va ms0.length vc ms0 pa L.length pc L, zkP (wds ws) gw ws.length wsc, zlP (encO.all os) oo os.length oc, Pool HH])
       case first =>
        refine wp_plan (.small 0 (.small 2 (.fork 1 8 (.fork 3 8 (.small 4 (.small 5 (.small 6 (.small 7 (.alone 8 (.small 9 (.alone 10 (.small 11 .nil)))))))) (.alone 3 (.small 4 (.small 5 (.small 6 (.small 7 (.small 9 (.alone 10 (.small 11 .nil))))))))) (.alone 1 (.alone 3 (.small 4 (.small 5 (.small 6 (.small 7 (.small 9 (.alone 10 (.small 11 .nil)))))))))))) (Fam fun w' => zS w w' [zcP ub yk.toArray yf yt]) (fun w' => zS w w' [zcP vb yk.toArray yf yt, zcP ub yk.toArray yf yt, zaP qb kd sz sl lt ag kk, zfP sb mk va ms0.length vc, zeP xb key.toArray tm v, zgP rb, zdP ob on oa ha ot.length hc OX OY, zpP va ms0.length vc ms0 pa L.length pc L, zkP (wds ws) gw ws.length wsc, zlP (encO.all os) oo os.length oc, Pool HH]) (by kernel_rfl) (by rfl) (by kernel_rfl) (by kernel_rfl) HC.drew (Fam.st (fun _ h => h.pick [1])) ?_
        iterate 2 first | (apply plan_pass; rfl; rfl; intro K hK; go_simp; refine hK _ ?_; clear hK K) | (apply plan_step; rfl; rfl; (focus (intro I hI w1 h1'; have h1 := hI.2 _ h1'; have o0 := h1.cell 0 0 rfl rfl; have o1 := h1.cell 0 1 rfl rfl; have o2 := h1.cell 0 2 rfl rfl; first | (go_simp; first | rfl | exact ⟨rfl, h1'⟩))); intro K hK; go_simp; refine hK _ ?_; clear hK K)
        refine plan_two rfl rfl rfl rfl ?_ ?_
        · skip
          intro V hV w1 h1
          go_simp
          refine (kn.out w1 (h1.rowO_ro 7 rfl hroh.out)).mono ?_; rintro e w2 ⟨v5, rfl, G1⟩; obtain ⟨wwa, wwc, rfl, -, -⟩ := slice_form' (G1.row 0 rfl); have HA : zS w w2 [zqP (wds (wsP L)) wwa L.length wwc, zcP vb yk.toArray yf yt, zcP ub yk.toArray yf yt, zaP qb kd sz sl lt ag kk, zfP sb mk va ms0.length vc, zeP xb key.toArray tm v, zgP rb, zdP ob on oa ha ot.length hc OX OY, zpP va ms0.length vc ms0 pa L.length pc L, zkP (wds ws) gw ws.length wsc, zlP (encO.all os) oo os.length oc, Pool HH] := h1.call0 G1; refine ⟨_, rfl, fun w' => zS w w' [zqP (wds (wsP L)) wwa L.length wwc, zcP vb yk.toArray yf yt, zcP ub yk.toArray yf yt, zaP qb kd sz sl lt ag kk, zfP sb mk va ms0.length vc, zeP xb key.toArray tm v, zgP rb, zdP ob on oa ha ot.length hc OX OY, zpP va ms0.length vc ms0 pa L.length pc L, zkP (wds ws) gw ws.length wsc, zlP (encO.all os) oo os.length oc, Pool HH], hV _ _ _ (fun _ h => h) (Fam.st (fun _ h => h.pick [2])) ?_, HA⟩
          intro K hK
          go_simp
          refine hK _ ?_; clear hK K hV V; clear HA h1 G1 w1 w2; refine plan_two rfl rfl rfl rfl ?_ ?_
          · skip
            intro V hV w1 h1
            go_simp
            have hrw : WdsRO w1 (.slice wwa L.length wwc) (wsP L) := wds_own (h1.row 0 rfl) hLfith.out; refine (kth.out w1 _ hrw).mono ?_; rintro e w2 ⟨v5, vg5, rfl, G1⟩; obtain ⟨tta, ttc, rfl, -, -⟩ := slice_form' (G1.row 0 rfl); obtain ⟨ga, gc, rfl, -, -⟩ := slice_form' (G1.row 1 rfl); have HA : zS w w2 [zqP (wds T) tta T.length ttc, zxP (intCells G) ga G.length gc, zqP (wds (wsP L)) wwa L.length wwc, zcP vb yk.toArray yf yt, zcP ub yk.toArray yf yt, zaP qb kd sz sl lt ag kk, zfP sb mk va ms0.length vc, zeP xb key.toArray tm v, zgP rb, zdP ob on oa ha ot.length hc OX OY, zpP va ms0.length vc ms0 pa L.length pc L, zkP (wds ws) gw ws.length wsc, zlP (encO.all os) oo os.length oc, Pool HH] := h1.call0 G1; refine ⟨_, rfl, fun w' => zS w w' [zqP (wds T) tta T.length ttc, zxP (intCells G) ga G.length gc, zqP (wds (wsP L)) wwa L.length wwc, zcP vb yk.toArray yf yt, zcP ub yk.toArray yf yt, zaP qb kd sz sl lt ag kk, zfP sb mk va ms0.length vc, zeP xb key.toArray tm v, zgP rb, zdP ob on oa ha ot.length hc OX OY, zpP va ms0.length vc ms0 pa L.length pc L, zkP (wds ws) gw ws.length wsc, zlP (encO.all os) oo os.length oc, Pool HH], hV _ _ _ (fun _ h => h) (Fam.st (fun _ h => h.pick [4])) ?_, HA⟩
            intro K hK
            go_simp
            refine hK _ ?_; clear hK K hV V; clear HA h1 hrw G1 w1 w2
            iterate 4 first | (apply plan_pass; rfl; rfl; intro K hK; go_simp; refine hK _ ?_; clear hK K) | (apply plan_step; rfl; rfl; (focus (intro I hI w1 h1'; have h1 := hI.2 _ h1'; first | (go_simp; first | rfl | exact ⟨rfl, h1'⟩))); intro K hK; go_simp; refine hK _ ?_; clear hK K)
            refine plan_one rfl rfl ?_; intro V hV w1 h1
            go_simp
            obtain ⟨nb, hnb⟩ := zNm w1.heap.size; have HA : zS w _ [ztP nb, zqP (wds T) tta T.length ttc, zxP (intCells G) ga G.length gc, zqP (wds (wsP L)) wwa L.length wwc, zcP vb yk.toArray yf yt, zcP ub yk.toArray yf yt, zaP qb kd sz sl lt ag kk, zfP sb mk va ms0.length vc, zeP xb key.toArray tm v, zgP rb, zdP ob on oa ha ot.length hc OX OY, zpP va ms0.length vc ms0 pa L.length pc L, zkP (wds ws) gw ws.length wsc, zlP (encO.all os) oo os.length oc, Pool HH] := h1.allocAt hnb #[.string ⟨#[]⟩, .int .i64 0, .int .i64 0] 61; simp only [hnb]; refine ⟨fun w' => zS w w' [ztP nb, zqP (wds T) tta T.length ttc, zxP (intCells G) ga G.length gc, zqP (wds (wsP L)) wwa L.length wwc, zcP vb yk.toArray yf yt, zcP ub yk.toArray yf yt, zaP qb kd sz sl lt ag kk, zfP sb mk va ms0.length vc, zeP xb key.toArray tm v, zgP rb, zdP ob on oa ha ot.length hc OX OY, zpP va ms0.length vc ms0 pa L.length pc L, zkP (wds ws) gw ws.length wsc, zlP (encO.all os) oo os.length oc, Pool HH], hV _ _ _ (fun _ h => h) (Fam.st (fun _ h => h.pick [5])) ?_, HA⟩
            intro K hK
            go_simp
            refine hK _ ?_; clear hK K hV V; clear HA h1 hnb w1
            iterate 1 first | (apply plan_pass; rfl; rfl; intro K hK; go_simp; refine hK _ ?_; clear hK K) | (apply plan_step; rfl; rfl; (focus (intro I hI w1 h1'; have h1 := hI.2 _ h1'; first | (go_simp; first | rfl | exact ⟨rfl, h1'⟩))); intro K hK; go_simp; refine hK _ ?_; clear hK K)
            refine plan_one rfl rfl ?_; intro V hV w1 h1; have r0 := h1.free 0 0 rfl; have r1 := h1.free 0 1 rfl; have r2 := h1.free 0 2 rfl; have x0 := h1.cell 0 0 rfl rfl; have x1 := h1.cell 0 1 rfl rfl; have x2 := h1.cell 0 2 rfl rfl; have H5 := ((h1.set 0 rfl 0 (.string ⟨bk.toArray⟩)).set 0 rfl 1 (.int .i64 bf)).set 0 rfl 2 (.int .i64 bt)
            go_simp
            refine ⟨fun w' => zS w w' [zcP nb bk.toArray bf bt, zqP (wds T) tta T.length ttc, zxP (intCells G) ga G.length gc, zqP (wds (wsP L)) wwa L.length wwc, zcP vb yk.toArray yf yt, zcP ub yk.toArray yf yt, zaP qb kd sz sl lt ag kk, zfP sb mk va ms0.length vc, zeP xb key.toArray tm v, zgP rb, zdP ob on oa ha ot.length hc OX OY, zpP va ms0.length vc ms0 pa L.length pc L, zkP (wds ws) gw ws.length wsc, zlP (encO.all os) oo os.length oc, Pool HH], hV _ _ _ (fun _ h => h) (Fam.st (fun _ h => h.pick [5])) ?_, H5⟩
            intro K hK
            go_simp
            refine hK _ ?_; clear hK K hV V; clear H5 h1 r0 r1 r2 x0 x1 x2 w1
            iterate 1 first | (apply plan_pass; rfl; rfl; intro K hK; go_simp; refine hK _ ?_; clear hK K) | (apply plan_step; rfl; rfl; (focus (intro I hI w1 h1'; have h1 := hI.2 _ h1'; first | (go_simp; first | rfl | exact ⟨rfl, h1'⟩))); intro K hK; go_simp; refine hK _ ?_; clear hK K)
            refine plan_nil ?_; intro w9 H9; go_wp2; go_meet; exact ⟨nb, ga, gc, rfl, rfl, H9.pick [0, 2, 4, 5, 6, 7, 8, 9, 10, 11, 12, 13, 14]⟩
          · skip
            intro V hV w1 h1
            go_simp
            obtain ⟨nb, hnb⟩ := zNm w1.heap.size; have HA : zS w _ [ztP nb, zqP (wds (wsP L)) wwa L.length wwc, zcP vb yk.toArray yf yt, zcP ub yk.toArray yf yt, zaP qb kd sz sl lt ag kk, zfP sb mk va ms0.length vc, zeP xb key.toArray tm v, zgP rb, zdP ob on oa ha ot.length hc OX OY, zpP va ms0.length vc ms0 pa L.length pc L, zkP (wds ws) gw ws.length wsc, zlP (encO.all os) oo os.length oc, Pool HH] := h1.allocAt hnb #[.string ⟨#[]⟩, .int .i64 0, .int .i64 0] 61; simp only [hnb]; refine ⟨fun w' => zS w w' [ztP nb, zqP (wds (wsP L)) wwa L.length wwc, zcP vb yk.toArray yf yt, zcP ub yk.toArray yf yt, zaP qb kd sz sl lt ag kk, zfP sb mk va ms0.length vc, zeP xb key.toArray tm v, zgP rb, zdP ob on oa ha ot.length hc OX OY, zpP va ms0.length vc ms0 pa L.length pc L, zkP (wds ws) gw ws.length wsc, zlP (encO.all os) oo os.length oc, Pool HH], hV _ _ _ (fun _ h => h) (Fam.st (fun _ h => h.pick [3])) ?_, HA⟩
            intro K hK
            go_simp
            refine hK _ ?_; clear hK K hV V; clear HA h1 hnb w1; refine plan_one rfl rfl ?_; intro V hV w1 h1
            go_simp
            have hrw : WdsRO w1 (.slice wwa L.length wwc) (wsP L) := wds_own (h1.row 1 rfl) hLfith.out; refine (kth.out w1 _ hrw).mono ?_; rintro e w2 ⟨v5, vg5, rfl, G1⟩; obtain ⟨tta, ttc, rfl, -, -⟩ := slice_form' (G1.row 0 rfl); obtain ⟨ga, gc, rfl, -, -⟩ := slice_form' (G1.row 1 rfl); have HA : zS w w2 [zqP (wds T) tta T.length ttc, zxP (intCells G) ga G.length gc, ztP nb, zqP (wds (wsP L)) wwa L.length wwc, zcP vb yk.toArray yf yt, zcP ub yk.toArray yf yt, zaP qb kd sz sl lt ag kk, zfP sb mk va ms0.length vc, zeP xb key.toArray tm v, zgP rb, zdP ob on oa ha ot.length hc OX OY, zpP va ms0.length vc ms0 pa L.length pc L, zkP (wds ws) gw ws.length wsc, zlP (encO.all os) oo os.length oc, Pool HH] := h1.call0 G1; refine ⟨_, rfl, fun w' => zS w w' [zqP (wds T) tta T.length ttc, zxP (intCells G) ga G.length gc, ztP nb, zqP (wds (wsP L)) wwa L.length wwc, zcP vb yk.toArray yf yt, zcP ub yk.toArray yf yt, zaP qb kd sz sl lt ag kk, zfP sb mk va ms0.length vc, zeP xb key.toArray tm v, zgP rb, zdP ob on oa ha ot.length hc OX OY, zpP va ms0.length vc ms0 pa L.length pc L, zkP (wds ws) gw ws.length wsc, zlP (encO.all os) oo os.length oc, Pool HH], hV _ _ _ (fun _ h => h) (Fam.st (fun _ h => h.pick [5])) ?_, HA⟩
            intro K hK
            go_simp
            refine hK _ ?_; clear hK K hV V; clear HA h1 hrw G1 w1 w2
            iterate 5 first | (apply plan_pass; rfl; rfl; intro K hK; go_simp; refine hK _ ?_; clear hK K) | (apply plan_step; rfl; rfl; (focus (intro I hI w1 h1'; have h1 := hI.2 _ h1'; first | (go_simp; first | rfl | exact ⟨rfl, h1'⟩))); intro K hK; go_simp; refine hK _ ?_; clear hK K)
            refine plan_one rfl rfl ?_; intro V hV w1 h1; have r0 := h1.free 2 0 rfl; have r1 := h1.free 2 1 rfl; have r2 := h1.free 2 2 rfl; have x0 := h1.cell 2 0 rfl rfl; have x1 := h1.cell 2 1 rfl rfl; have x2 := h1.cell 2 2 rfl rfl; have H5 := ((h1.set 2 rfl 0 (.string ⟨bk.toArray⟩)).set 2 rfl 1 (.int .i64 bf)).set 2 rfl 2 (.int .i64 bt)
            go_simp
            refine ⟨fun w' => zS w w' [zqP (wds T) tta T.length ttc, zxP (intCells G) ga G.length gc, zcP nb bk.toArray bf bt, zqP (wds (wsP L)) wwa L.length wwc, zcP vb yk.toArray yf yt, zcP ub yk.toArray yf yt, zaP qb kd sz sl lt ag kk, zfP sb mk va ms0.length vc, zeP xb key.toArray tm v, zgP rb, zdP ob on oa ha ot.length hc OX OY, zpP va ms0.length vc ms0 pa L.length pc L, zkP (wds ws) gw ws.length wsc, zlP (encO.all os) oo os.length oc, Pool HH], hV _ _ _ (fun _ h => h) (Fam.st (fun _ h => h.pick [5])) ?_, H5⟩
            intro K hK
            go_simp
            refine hK _ ?_; clear hK K hV V; clear H5 h1 r0 r1 r2 x0 x1 x2 w1
            iterate 1 first | (apply plan_pass; rfl; rfl; intro K hK; go_simp; refine hK _ ?_; clear hK K) | (apply plan_step; rfl; rfl; (focus (intro I hI w1 h1'; have h1 := hI.2 _ h1'; first | (go_simp; first | rfl | exact ⟨rfl, h1'⟩))); intro K hK; go_simp; refine hK _ ?_; clear hK K)
            refine plan_nil ?_; intro w9 H9; go_wp2; go_meet; exact ⟨nb, ga, gc, rfl, rfl, H9.pick [2, 1, 4, 5, 6, 7, 8, 9, 10, 11, 12, 13, 14]⟩
        · skip
          intro V hV w1 h1
          go_simp
          obtain ⟨nb, hnb⟩ := zNm w1.heap.size; have HA : zS w _ [ztP nb, zcP vb yk.toArray yf yt, zcP ub yk.toArray yf yt, zaP qb kd sz sl lt ag kk, zfP sb mk va ms0.length vc, zeP xb key.toArray tm v, zgP rb, zdP ob on oa ha ot.length hc OX OY, zpP va ms0.length vc ms0 pa L.length pc L, zkP (wds ws) gw ws.length wsc, zlP (encO.all os) oo os.length oc, Pool HH] := h1.allocAt hnb #[.string ⟨#[]⟩, .int .i64 0, .int .i64 0] 61; simp only [hnb]; refine ⟨fun w' => zS w w' [ztP nb, zcP vb yk.toArray yf yt, zcP ub yk.toArray yf yt, zaP qb kd sz sl lt ag kk, zfP sb mk va ms0.length vc, zeP xb key.toArray tm v, zgP rb, zdP ob on oa ha ot.length hc OX OY, zpP va ms0.length vc ms0 pa L.length pc L, zkP (wds ws) gw ws.length wsc, zlP (encO.all os) oo os.length oc, Pool HH], hV _ _ _ (fun _ h => h) (Fam.st (fun _ h => h.pick [2])) ?_, HA⟩
          intro K hK
          go_simp
          refine hK _ ?_; clear hK K hV V; clear HA h1 hnb w1; refine plan_one rfl rfl ?_; intro V hV w1 h1
          go_simp
          refine (kn.out w1 (h1.rowO_ro 8 rfl hroh.out)).mono ?_; rintro e w2 ⟨v5, rfl, G1⟩; obtain ⟨wwa, wwc, rfl, -, -⟩ := slice_form' (G1.row 0 rfl); have HA : zS w w2 [zqP (wds (wsP L)) wwa L.length wwc, ztP nb, zcP vb yk.toArray yf yt, zcP ub yk.toArray yf yt, zaP qb kd sz sl lt ag kk, zfP sb mk va ms0.length vc, zeP xb key.toArray tm v, zgP rb, zdP ob on oa ha ot.length hc OX OY, zpP va ms0.length vc ms0 pa L.length pc L, zkP (wds ws) gw ws.length wsc, zlP (encO.all os) oo os.length oc, Pool HH] := h1.call0 G1; refine ⟨_, rfl, fun w' => zS w w' [zqP (wds (wsP L)) wwa L.length wwc, ztP nb, zcP vb yk.toArray yf yt, zcP ub yk.toArray yf yt, zaP qb kd sz sl lt ag kk, zfP sb mk va ms0.length vc, zeP xb key.toArray tm v, zgP rb, zdP ob on oa ha ot.length hc OX OY, zpP va ms0.length vc ms0 pa L.length pc L, zkP (wds ws) gw ws.length wsc, zlP (encO.all os) oo os.length oc, Pool HH], hV _ _ _ (fun _ h => h) (Fam.st (fun _ h => h.pick [3])) ?_, HA⟩
          intro K hK
          go_simp
          refine hK _ ?_; clear hK K hV V; clear HA h1 G1 w1 w2; refine plan_one rfl rfl ?_; intro V hV w1 h1
          go_simp
          have hrw : WdsRO w1 (.slice wwa L.length wwc) (wsP L) := wds_own (h1.row 0 rfl) hLfith.out; refine (kth.out w1 _ hrw).mono ?_; rintro e w2 ⟨v5, vg5, rfl, G1⟩; obtain ⟨tta, ttc, rfl, -, -⟩ := slice_form' (G1.row 0 rfl); obtain ⟨ga, gc, rfl, -, -⟩ := slice_form' (G1.row 1 rfl); have HA : zS w w2 [zqP (wds T) tta T.length ttc, zxP (intCells G) ga G.length gc, zqP (wds (wsP L)) wwa L.length wwc, ztP nb, zcP vb yk.toArray yf yt, zcP ub yk.toArray yf yt, zaP qb kd sz sl lt ag kk, zfP sb mk va ms0.length vc, zeP xb key.toArray tm v, zgP rb, zdP ob on oa ha ot.length hc OX OY, zpP va ms0.length vc ms0 pa L.length pc L, zkP (wds ws) gw ws.length wsc, zlP (encO.all os) oo os.length oc, Pool HH] := h1.call0 G1; refine ⟨_, rfl, fun w' => zS w w' [zqP (wds T) tta T.length ttc, zxP (intCells G) ga G.length gc, zqP (wds (wsP L)) wwa L.length wwc, ztP nb, zcP vb yk.toArray yf yt, zcP ub yk.toArray yf yt, zaP qb kd sz sl lt ag kk, zfP sb mk va ms0.length vc, zeP xb key.toArray tm v, zgP rb, zdP ob on oa ha ot.length hc OX OY, zpP va ms0.length vc ms0 pa L.length pc L, zkP (wds ws) gw ws.length wsc, zlP (encO.all os) oo os.length oc, Pool HH], hV _ _ _ (fun _ h => h) (Fam.st (fun _ h => h.pick [5])) ?_, HA⟩
          intro K hK
          go_simp
          refine hK _ ?_; clear hK K hV V; clear HA h1 hrw G1 w1 w2
          iterate 5 first | (apply plan_pass; rfl; rfl; intro K hK; go_simp; refine hK _ ?_; clear hK K) | (apply plan_step; rfl; rfl; (focus (intro I hI w1 h1'; have h1 := hI.2 _ h1'; first | (go_simp; first | rfl | exact ⟨rfl, h1'⟩))); intro K hK; go_simp; refine hK _ ?_; clear hK K)
          refine plan_one rfl rfl ?_; intro V hV w1 h1; have r0 := h1.free 3 0 rfl; have r1 := h1.free 3 1 rfl; have r2 := h1.free 3 2 rfl; have x0 := h1.cell 3 0 rfl rfl; have x1 := h1.cell 3 1 rfl rfl; have x2 := h1.cell 3 2 rfl rfl; have H5 := ((h1.set 3 rfl 0 (.string ⟨bk.toArray⟩)).set 3 rfl 1 (.int .i64 bf)).set 3 rfl 2 (.int .i64 bt)
          go_simp
          refine ⟨fun w' => zS w w' [zqP (wds T) tta T.length ttc, zxP (intCells G) ga G.length gc, zqP (wds (wsP L)) wwa L.length wwc, zcP nb bk.toArray bf bt, zcP vb yk.toArray yf yt, zcP ub yk.toArray yf yt, zaP qb kd sz sl lt ag kk, zfP sb mk va ms0.length vc, zeP xb key.toArray tm v, zgP rb, zdP ob on oa ha ot.length hc OX OY, zpP va ms0.length vc ms0 pa L.length pc L, zkP (wds ws) gw ws.length wsc, zlP (encO.all os) oo os.length oc, Pool HH], hV _ _ _ (fun _ h => h) (Fam.st (fun _ h => h.pick [5])) ?_, H5⟩
          intro K hK
          go_simp
          refine hK _ ?_; clear hK K hV V; clear H5 h1 r0 r1 r2 x0 x1 x2 w1
          iterate 1 first | (apply plan_pass; rfl; rfl; intro K hK; go_simp; refine hK _ ?_; clear hK K) | (apply plan_step; rfl; rfl; (focus (intro I hI w1 h1'; have h1 := hI.2 _ h1'; first | (go_simp; first | rfl | exact ⟨rfl, h1'⟩))); intro K hK; go_simp; refine hK _ ?_; clear hK K)
          refine plan_nil ?_; intro w9 H9; go_wp2; go_meet; exact ⟨nb, ga, gc, rfl, rfl, H9.pick [3, 1, 4, 5, 6, 7, 8, 9, 10, 11, 12, 13, 14]⟩
       case rest =>
        obtain ⟨nb, ga, gc, rfl, rfl, HE⟩ := hcut; clear HC; have n0 := HE.cell 0 0 rfl rfl; have n1 := HE.cell 0 1 rfl rfl; have n2 := HE.cell 0 2 rfl rfl; obtain ⟨ga2, gc2, e3, -, hga⟩ := slice_form' (HE.row 1 rfl); cases e3; go_upto_region 13 with ((with_reducible show Go.wpList _ _ _ (Oper.mk none (Op.store 61 (Operand.tmp 16) _) _ _ _ _ :: _) _ _); go_must (refine St.list_store HE 2 rfl rfl 61 (.tmp 16) (.tmp 63) rfl #[.string ⟨bk.toArray⟩, .int .i64 bf, .int .i64 bt] rfl rfl (by kernel_rfl) rfl (by simp [Value.oneCell']) ?_; intro w9 HF0 hz9; clear hz9))
        have HF : zS w w9 [zcP nb bk.toArray bf bt, zxP (intCells G) ga G.length gc, zcP vb bk.toArray bf bt, zcP ub yk.toArray yf yt, zaP qb kd sz sl lt ag kk, zfP sb mk va ms0.length vc, zeP xb key.toArray tm v, zgP rb, zdP ob on oa ha ot.length hc OX OY, zpP va ms0.length vc ms0 pa L.length pc L, zkP (wds ws) gw ws.length wsc, zlP (encO.all os) oo os.length oc, Pool HH] := HF0; clear n0 n1 n2 HE HF0; have HF2 := HF.row_nil 61 3
        go_upto_block 3 with (fail)
        go_loopw [17, 22, 66] (fun u17 _ u66 wr => ∃ (n : Nat) (da : Option Addr) (dc : Nat), n ≤ G.length ∧ u17 = .slice da n dc ∧ u66 = .int .i64 n ∧ zS w wr (zqP (wds (D.take n)) da n dc :: [zxP (intCells G) ga G.length gc, zcP vb bk.toArray bf bt, zaP qb kd sz sl lt ag kk, zfP sb mk va ms0.length vc, zeP xb key.toArray tm v, zgP rb, zdP ob on oa ha ot.length hc OX OY, zpP va ms0.length vc ms0 pa L.length pc L, zkP (wds ws) gw ws.length wsc, zlP (encO.all os) oo os.length oc, Pool HH])) (fun _ _ u66 _ => G.length - (intOf u66).toNat)
        case atStart => exact ⟨0, none, 0, by omega, rfl, rfl, HF2.pick [0, 2, 3, 5, 6, 7, 8, 9, 10, 11, 12, 13]⟩
        case round =>
         clear HF HF2; obtain ⟨n, da, dc, hn, rfl, rfl, HM⟩ := hrel
         by_cases hlt2 : n < G.length
         · obtain ⟨k0, hk0⟩ : ∃ k, G[n]? = some k := ⟨_, List.getElem?_eq_getElem hlt2⟩; obtain ⟨hk1, hk2⟩ := hgvh.out k0 (List.mem_of_getElem? hk0); obtain ⟨k, rfl⟩ : ∃ k : Nat, k0 = (k : Int) := ⟨k0.toNat, by omega⟩
           obtain ⟨gg, rfl⟩ := hga (by omega)
           have g0 := own_cell (HM.row 1 rfl) (show (intCells G)[n]? = some (.int .i64 k) by unfold intCells; rw [List.getElem?_map, hk0]; rfl)
           obtain ⟨m, hm⟩ : ∃ m, L[k]? = some m := ⟨_, List.getElem?_eq_getElem (by omega)⟩
           obtain ⟨ad9, cap9, e9, -, hx9⟩ := HM.rowO_ro 8 rfl hroh.out; cases e9; obtain ⟨bp, o, rfl, hbp, hc9⟩ := hx9 (by intro e; rw [e] at hm; cases hm)
           obtain ⟨q0, q1, q2, -, -, -, -, -⟩ := pn_cells (hc9 k m hm) rfl
           have hDn : D.take (n + 1) = D.take n ++ [m.p.w] := by
            refine take_snoc' ?_; rw [e2h.out]; unfold gaveW; rw [List.getElem?_map, hk0]
            show some ((((wsP L)[k]?).getD wd000)) = some m.p.w
            unfold wsP; rw [List.getElem?_map, hm]
            rfl
           have hDnh := zH hDn; have hk3b : (k : Int) < (L.length : Int) := by omega
           have hn2 : (n : Int) < (G.length : Int) := by omega
           clear hm hc9 hx9 hk0 hDn; obtain ⟨⟨⟨xk, xf, xt⟩, xg, xr⟩, xa, xc⟩ := m; unfold textV at q0; simp only at q0 q1 q2 hDnh
           go_wp2_with (at_builtin; go_must (refine St.list_app (HM.skip _) 0 rfl rfl (.tmp 70) (.tmp 76) 145 rfl Tryz.underlying145 Tryz.info61 (by decide) rfl [.string ⟨xk.toArray⟩, .int .i64 xf, .int .i64 xt] rfl rfl (new_cells #[.string ⟨xk.toArray⟩, .int .i64 xf, .int .i64 xt] _) (by simp [Value.oneCell']) (by omega) (by omega) ?_; intro g5 cap5 w6 H6 hz6))
           go_roundw
           case rel =>
            refine ⟨n + 1, some ⟨g5, 0, none⟩, cap5, by omega, rfl, by go_num, ?_⟩
            rw [hDnh.out, wds_app, wds_one]; exact H6
           case measure => simp [intOf]; omega
         · obtain rfl : n = G.length := by omega
           go_wp2; go_meet; refine ⟨da, dc, by rw [hGDh.out], ?_⟩
           rw [hGDh.out]; have e4 : D.take G.length = D := by rw [← hGDh.out, List.take_length]
           rw [e4] at HM; exact HM.pick [0, 2, 3, 4, 5, 6, 7, 8, 9, 10, 11]
     · have hk3' : (kd == 3) = false := by simpa using hk3
       obtain ⟨e1, e2⟩ := hBnh.out hk3; have hWl : (wsP L).length = L.length := by simp [wsP]
       have kn := zH (fun w' (h : encP.RO w' (.slice pa L.length pc) L) => ref_windows h (by omega))
       have kh := fun w' v' (h : WdsRO w' v' (wsP L)) => ref_has OW h (by omega)
       obtain ⟨ct, hct⟩ := zNm ((wsP L).contains OW); rw [hct] at e2; simp only [hct] at kh; have hOW2 := hOWh.out; rw [hBBh.out, hOWh.out] at e1; rw [hOWh.out] at kh; unfold wdV wdC textV at kh; simp only at kh; cases e1; have khh := zH kh; have e2h := zH e2; clear hct kh hOW2 e2 hWl hk3; go_upto_region 18 with (fail)
       refine wp_script [(0, false), (2, false), (1, true), (3, true)] (Fam fun w' => zS w w' [zcP vb bk.toArray bf bt, zcP ub bk.toArray bf bt, zaP qb kd sz sl lt ag kk, zfP sb mk va ms0.length vc, zeP xb key.toArray tm v, zgP rb, zdP ob on oa ha ot.length hc OX OY, zpP va ms0.length vc ms0 pa L.length pc L, zkP (wds ws) gw ws.length wsc, zlP (encO.all os) oo os.length oc, Pool HH]) (fun w' => zS w w' [zcP vb bk.toArray bf bt, zcP ub bk.toArray bf bt, zaP qb kd sz sl lt ag kk, zfP sb mk va ms0.length vc, zeP xb key.toArray tm v, zgP rb, zdP ob on oa ha ot.length hc OX OY, zpP va ms0.length vc ms0 pa L.length pc L, zkP (wds ws) gw ws.length wsc, zlP (encO.all os) oo os.length oc, Pool HH]) (by kernel_rfl) (by rfl) (by kernel_rfl) (by kernel_rfl) HC.drew (Fam.st (fun _ h => h)) ?_
       iterate 2 first | (apply script_pass; rfl; rfl; intro K hK; go_simp; refine hK _ ?_; clear hK K) | (apply script_step; rfl; rfl; (focus (intro I hI w1 h1'; have h1 := hI.2 _ h1'; have o0 := h1.cell 1 0 rfl rfl; have o1 := h1.cell 1 1 rfl rfl; have o2 := h1.cell 1 2 rfl rfl; first | (go_simp; first | rfl | exact ⟨rfl, h1'⟩))); intro K hK; go_simp; refine hK _ ?_; clear hK K)
       refine script_alone rfl rfl ?_; intro V hV w1 h1
       go_simp
       refine (kn.out w1 (h1.rowO_ro 7 rfl hroh.out)).mono ?_; rintro e w2 ⟨v5, rfl, G1⟩; obtain ⟨wwa, wwc, rfl, -, -⟩ := slice_form' (G1.row 0 rfl); have HA : zS w w2 [zqP (wds (wsP L)) wwa L.length wwc, zcP vb bk.toArray bf bt, zcP ub bk.toArray bf bt, zaP qb kd sz sl lt ag kk, zfP sb mk va ms0.length vc, zeP xb key.toArray tm v, zgP rb, zdP ob on oa ha ot.length hc OX OY, zpP va ms0.length vc ms0 pa L.length pc L, zkP (wds ws) gw ws.length wsc, zlP (encO.all os) oo os.length oc, Pool HH] := h1.call0 G1; refine ⟨_, rfl, fun w' => zS w w' [zqP (wds (wsP L)) wwa L.length wwc, zcP vb bk.toArray bf bt, zcP ub bk.toArray bf bt, zaP qb kd sz sl lt ag kk, zfP sb mk va ms0.length vc, zeP xb key.toArray tm v, zgP rb, zdP ob on oa ha ot.length hc OX OY, zpP va ms0.length vc ms0 pa L.length pc L, zkP (wds ws) gw ws.length wsc, zlP (encO.all os) oo os.length oc, Pool HH], hV _ _ _ (fun _ h => h) (Fam.st (fun _ h => h.pick [1, 2, 3, 4, 5, 6, 7, 8, 9, 10, 11])) ?_, HA⟩
       intro K hK
       go_simp
       refine hK _ ?_; clear hK K hV V; clear HA h1 G1 w1 w2; refine script_alone rfl rfl ?_; intro V hV w1 h1
       go_simp
       have hrw : WdsRO w1 (.slice wwa L.length wwc) (wsP L) := wds_own (h1.row 0 rfl) hLfith.out; refine (St.callPast (khh.out w1 _ hrw) h1).mono ?_; rintro e w2 ⟨rfl, HA⟩; refine ⟨_, rfl, fun w' => zS w w' [zqP (wds (wsP L)) wwa L.length wwc, zcP vb bk.toArray bf bt, zcP ub bk.toArray bf bt, zaP qb kd sz sl lt ag kk, zfP sb mk va ms0.length vc, zeP xb key.toArray tm v, zgP rb, zdP ob on oa ha ot.length hc OX OY, zpP va ms0.length vc ms0 pa L.length pc L, zkP (wds ws) gw ws.length wsc, zlP (encO.all os) oo os.length oc, Pool HH], hV _ _ _ (fun _ h => h) (Fam.st (fun _ h => h.pick [1, 2, 3, 4, 5, 6, 7, 8, 9, 10, 11])) ?_, HA⟩
       intro K hK
       go_simp
       refine hK _ ?_; clear hK K hV V; clear HA h1 hrw w1 w2; refine script_nil ?_; intro w8 H8; have HX : zS w w8 [zcP vb bk.toArray bf bt, zcP ub bk.toArray bf bt, zaP qb kd sz sl lt ag kk, zfP sb mk va ms0.length vc, zeP xb key.toArray tm v, zgP rb, zdP ob on oa ha ot.length hc OX OY, zpP va ms0.length vc ms0 pa L.length pc L, zkP (wds ws) gw ws.length wsc, zlP (encO.all os) oo os.length oc, Pool HH] := H8.pick [1, 2, 3, 4, 5, 6, 7, 8, 9, 10, 11]; clear HC H8 d0
       cases ct with
       | true =>
        have e2 := e2h.out; simp only [if_true] at e2; have o0 := HX.cell 1 0 rfl rfl; have o1 := HX.cell 1 1 rfl rfl; have o2 := HX.cell 1 2 rfl rfl; obtain ⟨nb, hnb⟩ := zNm w8.heap.size; have HY := (HX.allocAt hnb #[.string ⟨bk.toArray⟩, .int .i64 bf, .int .i64 bt] 61).blk_row 0 (e := 61) (size := 3) (cap := 1) (n := 1) (cs := [.string ⟨bk.toArray⟩, .int .i64 bf, .int .i64 bt]) (xs := wds [⟨bk, bf, bt⟩]) rfl (Nat.le_refl _) (by decide) rfl rfl
        have e5 : D = [⟨bk, bf, bt⟩] := by rw [e2, hOWh.out]
        have e5h := zH e5; clear e2 e5 e2h; go_wp2; go_meet; refine ⟨some ⟨nb, 0, none⟩, 1, by rw [e5h.out]; rfl, ?_⟩
        rw [e5h.out]; exact HY.pick [0, 1, 3, 4, 5, 6, 7, 8, 9, 10, 11]
       | false =>
        have e2 := e2h.out; simp only [Bool.false_eq_true, if_false] at e2; have HY := HX.row_nil 61 3; have e6h := zH e2; clear e2; go_wp2; go_meet; refine ⟨none, 0, by rw [e6h.out]; rfl, ?_⟩
        rw [e6h.out]; exact HY.pick [0, 1, 3, 4, 5, 6, 7, 8, 9, 10, 11]
    case rest =>
     obtain ⟨da, dc, rfl, HD⟩ := hcut; clear HC d0 hB3h hBnh hst3h; have b0 := HD.cell 1 0 rfl rfl; have b1 := HD.cell 1 1 rfl rfl; have b2 := HD.cell 1 2 rfl rfl; have d0 := HD.cell 2 0 rfl rfl; have d1 := HD.cell 2 1 rfl rfl; have d2 := HD.cell 2 2 rfl rfl; have d3 := HD.cell 2 3 rfl rfl; have d4 := HD.cell 2 4 rfl rfl; have d5 := HD.cell 2 5 rfl rfl; have s0 := HD.cell 3 0 rfl rfl
     cases gn with
     | true =>
      have hn := hnexth.out; simp only [if_true] at hn; have hnh := zH hn; clear hn hnexth
      go_wp2_with (go_at_call 178; go_must (refine (St.callPast (kg _) HD).mono ?_; rintro e w3 ⟨rfl, H3⟩))
      go_roundw
      case rel => exact ⟨i + 1, L, os, b, HH, pa, pc, oo, oc, by omega, rfl, rfl, rfl, by go_num, hnh, hgood, hmo, hoo, zH (fun h => absurd h (by omega)), by omega, by omega, h1in, H3.pick [2, 3, 4, 5, 6, 7, 8, 9, 10]⟩
      case measure => simp [intOf]; omega
     | false =>
      have hn := hnexth.out; simp only [Bool.false_eq_true, if_false] at hn; have hnh := zH hn; clear hn hnexth; go_upto_region 22 with (go_at_call 178; go_must (refine (St.callPast (kg _) HD).mono ?_; rintro e w3 ⟨rfl, H3⟩))
      clear HD kg b0 b1 b2 d0 d1 d2 d3 d4 d5 s0; have b0 := H3.cell 1 0 rfl rfl; have b1 := H3.cell 1 1 rfl rfl; have b2 := H3.cell 1 2 rfl rfl; have HA : zS w _ (_ :: _) := H3.allocAt rfl #[.string ⟨bk.toArray⟩, .int .i64 bf, .int .i64 bt, .int .i64 0, .int .i64 0, .slice none 0 0, .complex .f64 0 0, .int .i64 0] 68
      go_upto_block 3 with (fail)
      obtain ⟨w4, hw4⟩ := zNm (w3.alloc (.cells #[.string ⟨bk.toArray⟩, .int .i64 bf, .int .i64 bt, .int .i64 0, .int .i64 0, .slice none 0 0, .complex .f64 0 0, .int .i64 0] 68)); obtain ⟨pb, hpb⟩ := zNm w3.heap.size; rw [hw4, hpb] at HA; (try rw [hw4]); (try simp only [hpb]); have HE : zS w w4 [zbrP pb bk.toArray bf bt, zqP (wds D) da D.length dc, zcP vb bk.toArray bf bt, zaP qb kd sz sl lt ag kk, zfP sb mk va ms0.length vc, zeP xb key.toArray tm v, zgP rb, zdP ob on oa ha ot.length hc OX OY, zpP va ms0.length vc ms0 pa L.length pc L, zkP (wds ws) gw ws.length wsc, zlP (encO.all os) oo os.length oc, Pool HH] := HA; have HE2 := HE.pool_zero 11 rfl; have hpbh := zH hpb; clear hw4 hpb b0 b1 b2 H3 HA HE
      go_loopw [25, 26, 27, 94] (fun _ _ _ u94 wr => ∃ (j : Nat) (g : Ag) (rd : Int) (ta : Option Addr) (tc : Nat) (H2 : List (Value × List Int)), j ≤ L.length ∧ u94 = .int .i64 j ∧ Hid (gathM qq BB (fun y => D.contains y) ((L.map (·.p)).drop j) (g, rd) = gathM qq BB (fun y => D.contains y) (L.map (·.p)) (Ag.zero, 0)) ∧ Hid (g.right qq = true) ∧ (0 ≤ rd ∧ rd ≤ 1073741824) ∧ Hid ((Value.slice ta g.top.length tc, g.top) ∈ H2 ++ G0) ∧ Hid (∀ x ∈ HH, x ∈ H2) ∧ zS w wr [zbfP pb (ib g.x) (ib g.y) bk.toArray bf bt g.n g.a ta g.top.length tc rd, zqP (wds D) da D.length dc, zcP vb bk.toArray bf bt, zaP qb kd sz sl lt ag kk, zfP sb mk va ms0.length vc, zeP xb key.toArray tm v, zgP rb, zdP ob on oa ha ot.length hc OX OY, zpP va ms0.length vc ms0 pa L.length pc L, zkP (wds ws) gw ws.length wsc, zlP (encO.all os) oo os.length oc, Pool H2]) (fun _ _ _ u94 _ => L.length - (intOf u94).toNat)
      case atStart => exact ⟨0, Ag.zero, 0, none, 0, (.slice none 0 0, []) :: HH, by omega, rfl, zH rfl, hzr, ⟨Int.le_refl 0, (by decide : (0 : Int) ≤ 1073741824)⟩, zH (by simp [Ag.zero]), zH (fun x hx => List.mem_cons_of_mem _ hx), by rw [show ib (Ag.zero).x = 0 from ib_zero, show ib (Ag.zero).y = 0 from ib_zero]; exact HE2⟩
      case round =>
       clear HE2; obtain ⟨j, g, rd, ta, tc, H2, hj, rfl, hgt, hgr, hrd, hgin, hsub, HM⟩ := hrel
       by_cases hlt2 : j < L.length
       · obtain ⟨m, hm⟩ : ∃ m, L[j]? = some m := ⟨_, List.getElem?_eq_getElem hlt2⟩; have hmm := List.mem_of_getElem? hm; obtain ⟨hmr, hmrd, hmwr⟩ := hgood.out m.p (List.mem_map_of_mem hmm); obtain ⟨ad9, cap9, e9, -, hx9⟩ := HM.rowO_ro 8 rfl hroh.out; cases e9; obtain ⟨bp, o, rfl, hbp, hc9⟩ := hx9 (by intro e; rw [e] at hm; cases hm)
         obtain ⟨q0, q1, q2, q3, q4, q5, q6, q7⟩ := pn_cells (hc9 j m hm) rfl; have hmp : (L.map (·.p))[j]? = some m.p := by rw [List.getElem?_map, hm]; rfl
         have hg2 := hgt.out; rw [drop_get hmp, gath_cons] at hg2
         have hmin : m.own ∈ H2 ++ G0 := by
          rcases List.mem_append.1 (hmo.out m hmm) with h | h
          · exact List.mem_append_left _ (hsub.out _ h)
          · exact List.mem_append_right _ h
         have kh := fun w' v' (h : WdsRO w' v' D) => ref_has m.p.w h (by omega)
         obtain ⟨ct, hct⟩ := zNm (D.contains m.p.w); simp only [hct] at kh hg2; have km := fun w' (h1 : IntsRO w' (.slice ta g.top.length tc) g.top) (h2 : IntsRO w' m.hd m.p.g.top) => kmg.out g m.p.g _ _ w' h1 h2 hgr.out hmr
         have hMr := fun a (h : mergeM qq g m.p.g = some a) => hmgr.out g m.p.g a hgr.out hmr h
         unfold MrgOk at km; obtain ⟨MR, hMR⟩ := zNm (mergeM qq g m.p.g); simp only [hMR] at km hg2 hMr; have hg2h := zH hg2; have hMrh := zH hMr; have hminh := zH hmin; have hginh := hgin; have khh := zH kh; clear hm hmm hmr hc9 hx9 hmp hg2 hmin kh hct hMR hMr hmwr; obtain ⟨⟨⟨xk, xf, xt⟩, ⟨zn, za, zt, zx, zy⟩, xr⟩, xa, xc⟩ := m; obtain ⟨sn, sa, st, sx, sy⟩ := g; unfold wdV wdC textV at khh; unfold textV at q0; unfold Pm.hd at q5 km; unfold Pm.own Pm.hd at hminh; unfold agV agC at km; simp only at q0 q1 q2 q3 q4 q5 q6 q7 km HM hginh hminh hmrd khh hg2h; obtain ⟨SX, hSX⟩ := zNm (ib sx); obtain ⟨SY, hSY⟩ := zNm (ib sy); obtain ⟨ZX, hZX⟩ := zNm (ib zx); obtain ⟨ZY, hZY⟩ := zNm (ib zy); simp only [hSX, hSY, hZX, hZY] at km q6 HM; have hSXh := zH hSX; have hSYh := zH hSY; clear hSX hSY hZX hZY; have hj2 : (j : Int) < (L.length : Int) := by omega
         have HA : zS w _ (_ :: _) := HM.allocAt rfl #[.string ⟨xk.toArray⟩, .int .i64 xf, .int .i64 xt, .int .i64 zn, .int .i64 za, .slice xa zt.length xc, .complex .f64 ZX ZY, .int .i64 xr] 68; go_upto_region 26 with (fail)
         obtain ⟨wb5, hwb⟩ := zNm (wr.alloc (.cells #[.string ⟨xk.toArray⟩, .int .i64 xf, .int .i64 xt, .int .i64 zn, .int .i64 za, .slice xa zt.length xc, .complex .f64 ZX ZY, .int .i64 xr] 68)); obtain ⟨eb, heb⟩ := zNm wr.heap.size; rw [hwb, heb] at HA; (try rw [hwb]); (try simp only [heb]); have HB : zS w wb5 [zbP eb xk.toArray xf xt zn za xa zt.length xc ZX ZY xr, zbP pb bk.toArray bf bt sn sa ta st.length tc SX SY rd, zqP (wds D) da D.length dc, zcP vb bk.toArray bf bt, zaP qb kd sz sl lt ag kk, zfP sb mk va ms0.length vc, zeP xb key.toArray tm v, zgP rb, zdP ob on oa ha ot.length hc OX OY, zbtP va ms0.length vc ms0 bp o L.length pc L, zkP (wds ws) gw ws.length wsc, zlP (encO.all os) oo os.length oc, Pool H2] := HA; clear hwb heb q0 q1 q2 q3 q4 q5 q6 q7 HM HA; have e0 := HB.cell 0 0 rfl rfl; have e1 := HB.cell 0 1 rfl rfl; have e2 := HB.cell 0 2 rfl rfl; have hrD : WdsRO wb5 (.slice da D.length dc) D := wds_own (HB.row 2 rfl) hDfith.out; have kh := khh.out wb5 _ hrD
         cases ct with
         | false =>
          have hg3 := hg2h.out; simp only [Bool.false_eq_true, if_false] at hg3; have hg3h := zH hg3; clear hg3 hg2h km
          go_wp2_with (go_at_call 181; go_must (refine (St.callPast kh HB).mono ?_; rintro e w6 ⟨rfl, H6⟩))
          go_roundw
          case rel =>
           refine ⟨j + 1, ⟨sn, sa, st, sx, sy⟩, rd, ta, tc, H2, by omega, by go_num, hg3h, hgr, hrd, hgin, hsub, ?_⟩
           simp only [hSXh.out, hSYh.out]; exact H6.pick [1, 2, 3, 4, 5, 6, 7, 8, 9, 10, 11, 12]
          case measure => simp [intOf]; omega
         | true =>
          have hg3 := hg2h.out; simp only [if_true] at hg3; clear hg2h; go_upto_region 27 with (go_at_call 181; go_must (refine (St.callPast kh HB).mono ?_; rintro e w6 ⟨rfl, H6⟩))
          clear e0 e1 e2 HB kh hrD; have d0 := H6.cell 4 0 rfl rfl; have d1 := H6.cell 4 1 rfl rfl; have d2 := H6.cell 4 2 rfl rfl; have d3 := H6.cell 4 3 rfl rfl; have d4 := H6.cell 4 4 rfl rfl; have d5 := H6.cell 4 5 rfl rfl; have p3 := H6.cell 1 3 rfl rfl; have p4 := H6.cell 1 4 rfl rfl; have p5 := H6.cell 1 5 rfl rfl; have p6 := H6.cell 1 6 rfl rfl; have e3 := H6.cell 0 3 rfl rfl; have e4 := H6.cell 0 4 rfl rfl; have e5 := H6.cell 0 5 rfl rfl; have e6 := H6.cell 0 6 rfl rfl; have km1 := km w6 (H6.pool_or 12 rfl hGh.out hginh.out) (H6.pool_or 12 rfl hGh.out hminh.out); clear km
          cases MR with
          | none =>
           simp only at km1 hg3
           have hres0 : res = none := by
            rw [hnh.out, hlayd.out, ← hgathh.out, ← hg3]
           have hfin : R = ⟨⟨mk, ms0.map (·.p)⟩, [], 20⟩ := by rw [hRh.out, hres0]
           have hfinh := zH hfin; clear hg3 hres0 hfin; go_upto_region 29 with (go_at_call 187; go_must (refine km1.mono ?_; rintro e w7 ⟨rfl, G1⟩; have H7 : zS w w7 [zbP eb xk.toArray xf xt zn za xa zt.length xc ZX ZY xr, zbP pb bk.toArray bf bt sn sa ta st.length tc SX SY rd, zqP (wds D) da D.length dc, zcP vb bk.toArray bf bt, zaP qb kd sz sl lt ag kk, zfP sb mk va ms0.length vc, zeP xb key.toArray tm v, zgP rb, zdP ob on oa ha ot.length hc OX OY, zbtP va ms0.length vc ms0 bp o L.length pc L, zkP (wds ws) gw ws.length wsc, zlP (encO.all os) oo os.length oc, Pool H2] := H6.call0 G1))
           clear d0 d1 d2 d3 d4 d5 p3 p4 p5 p6 e3 e4 e5 e6 G1 H6; have HT : zS w _ [zbP eb xk.toArray xf xt zn za xa zt.length xc ZX ZY xr, zbP pb bk.toArray bf bt sn sa ta st.length tc SX SY rd, zqP (wds D) da D.length dc, zcP vb bk.toArray bf bt, zaP qb kd sz sl lt ag kk, zfP sb mk va ms0.length vc, zeP xb key.toArray tm v, zgP rb, zdP ob on oa ha ot.length hc OX OY, zbtP va ms0.length vc ms0 bp o L.length pc L, zkP (wds ws) gw ws.length wsc, zlP (encO.all os) oo os.length oc, Pool H2] := H7.skip (.cells #[.int .i64 0, .int .i64 0, .slice none 0 0, .complex .f64 0 0] 66); have y0 := HT.cell 5 0 rfl rfl; have y1 := HT.cell 5 1 rfl rfl; have r0 := HT.free 7 0 rfl; have r1 := HT.free 7 1 rfl; have x0 := HT.cell 7 0 rfl rfl; have x1 := HT.cell 7 1 rfl rfl; have HZ := (HT.set 7 rfl 0 (.int .i64 mk)).set 7 rfl 1 (.slice va ms0.length vc); go_wp2
           try simp only [Exit.inBlock, Exit.then]
           refine bodyPost_ret (results_ctt rfl rfl (blk_range (cs := [.int .i64 mk, .slice va ms0.length vc]) (HZ.blk 7 rfl)) Tryz.underlying45 rfl (by kernel_rfl)) rfl ?_
           rw [hfinh.out]; exact ⟨.slice va ms0.length vc, .slice none 0 0, ms0, [], [], rfl, rfl, rfl, (fun m hm => List.mem_append_right _ (hmlh.out m hm)), (fun y hy => by cases hy), (((HZ.pick []).pool_nil).row_nil 63 10).row_same 68 (.slice va ms0.length vc) ms0⟩
          | some a =>
           have har := hMrh.out a rfl; simp only at km1 hg3; obtain ⟨un, ua, ut, ux, uy⟩ := a; obtain ⟨UX, hUX⟩ := zNm (ib ux); obtain ⟨UY, hUY⟩ := zNm (ib uy); simp only [hUX, hUY] at km1; have hUXh := zH hUX; have hUYh := zH hUY; have hg3h := zH hg3; have harh := zH har; clear hMrh hUX hUY hg3 har; go_upto_region 28 with (go_at_call 187; go_must (refine km1.mono ?_; rintro e w7 ⟨h5, H5, rfl, hin5, G1⟩; have H7 : zS w w7 (Pool H5 :: [zbP eb xk.toArray xf xt zn za xa zt.length xc ZX ZY xr, zbP pb bk.toArray bf bt sn sa ta st.length tc SX SY rd, zqP (wds D) da D.length dc, zcP vb bk.toArray bf bt, zaP qb kd sz sl lt ag kk, zfP sb mk va ms0.length vc, zeP xb key.toArray tm v, zgP rb, zdP ob on oa ha ot.length hc OX OY, zbtP va ms0.length vc ms0 bp o L.length pc L, zkP (wds ws) gw ws.length wsc, zlP (encO.all os) oo os.length oc, Pool H2]) := H6.call0 G1; obtain ⟨ua9, uc9, e9, -, -, -⟩ : IntsRO w7 h5 ut := (by rcases List.mem_append.1 hin5 with h | h; exact H7.pool_get 0 rfl h; rcases List.mem_cons.1 h with h | h; (cases h; exact H7.pool_or 13 rfl hGh.out hginh.out); (cases List.mem_singleton.1 h; exact H7.pool_or 13 rfl hGh.out hminh.out)); cases e9))
           have hin6 : (Value.slice ua9 ut.length uc9, ut) ∈ (H5 ++ H2) ++ G0 := by
            rcases List.mem_append.1 hin5 with h | h
            · exact List.mem_append_left _ (List.mem_append_left _ h)
            · rcases List.mem_cons.1 h with h | h
              · rw [h]; rcases List.mem_append.1 hginh.out with h | h
                · exact List.mem_append_left _ (List.mem_append_right _ h)
                · exact List.mem_append_right _ h
              · rw [List.mem_singleton.1 h]; rcases List.mem_append.1 hminh.out with h | h
                · exact List.mem_append_left _ (List.mem_append_right _ h)
                · exact List.mem_append_right _ h
           have hin6h := zH hin6; have HJ : zS w w7 [Pool (H5 ++ H2), zbP eb xk.toArray xf xt zn za xa zt.length xc ZX ZY xr, zbP pb bk.toArray bf bt sn sa ta st.length tc SX SY rd, zqP (wds D) da D.length dc, zcP vb bk.toArray bf bt, zaP qb kd sz sl lt ag kk, zfP sb mk va ms0.length vc, zeP xb key.toArray tm v, zgP rb, zdP ob on oa ha ot.length hc OX OY, zbtP va ms0.length vc ms0 bp o L.length pc L, zkP (wds ws) gw ws.length wsc, zlP (encO.all os) oo os.length oc] := St.pool_join (H7.pick [0, 13, 1, 2, 3, 4, 5, 6, 7, 8, 9, 10, 11, 12]); clear hin5 hin6 km1 d0 d1 d2 d3 d4 d5 p3 p4 p5 p6 e3 e4 e5 e6 G1 H6 H7; have HK : zS w _ (_ :: _) := HJ.allocAt rfl #[.int .i64 un, .int .i64 ua, .slice ua9 ut.length uc9, .complex .f64 UX UY] 66; obtain ⟨w8, hw8⟩ := zNm (w7.alloc (.cells #[.int .i64 un, .int .i64 ua, .slice ua9 ut.length uc9, .complex .f64 UX UY] 66)); obtain ⟨cb, hcb⟩ := zNm w7.heap.size; rw [hw8, hcb] at HK; (try rw [hw8]); (try simp only [hcb]); have HL2 : zS w w8 [zdP cb un ua ua9 ut.length uc9 UX UY, Pool (H5 ++ H2), zbP eb xk.toArray xf xt zn za xa zt.length xc ZX ZY xr, zbP pb bk.toArray bf bt sn sa ta st.length tc SX SY rd, zqP (wds D) da D.length dc, zcP vb bk.toArray bf bt, zaP qb kd sz sl lt ag kk, zfP sb mk va ms0.length vc, zeP xb key.toArray tm v, zgP rb, zdP ob on oa ha ot.length hc OX OY, zbtP va ms0.length vc ms0 bp o L.length pc L, zkP (wds ws) gw ws.length wsc, zlP (encO.all os) oo os.length oc] := HK; clear hw8 hcb HK HJ; go_upto_region 30 with (fail)
           have x0 := HL2.cell 0 0 rfl rfl; have x1 := HL2.cell 0 1 rfl rfl; have x2 := HL2.cell 0 2 rfl rfl; have x3 := HL2.cell 0 3 rfl rfl; go_upto_region 31 with ((with_reducible show Go.wpList _ _ _ (Oper.mk none (Op.store 66 _ _) _ _ _ _ :: _) _ _); go_must (refine St.list_storeMid HL2 3 rfl (cs := [.string ⟨bk.toArray⟩, .int .i64 bf, .int .i64 bt, .int .i64 sn, .int .i64 sa, .slice ta st.length tc, .complex .f64 SX SY, .int .i64 rd]) (ty := 66) (n := 4) (off := 3) (vs := #[.int .i64 un, .int .i64 ua, .slice ua9 ut.length uc9, .complex .f64 UX UY]) (by kernel_rfl) rfl (by simp [allOne, Value.oneCell']) (by show 3 + 4 ≤ 8; decide) rfl (.tmp 116) (.tmp 115) rfl rfl rfl ?_; intro w9 H9 hz9))
           have HQ : zS w w9 [zdP cb un ua ua9 ut.length uc9 UX UY, Pool (H5 ++ H2), zbP eb xk.toArray xf xt zn za xa zt.length xc ZX ZY xr, zbP pb bk.toArray bf bt un ua ua9 ut.length uc9 UX UY rd, zqP (wds D) da D.length dc, zcP vb bk.toArray bf bt, zaP qb kd sz sl lt ag kk, zfP sb mk va ms0.length vc, zeP xb key.toArray tm v, zgP rb, zdP ob on oa ha ot.length hc OX OY, zbtP va ms0.length vc ms0 bp o L.length pc L, zkP (wds ws) gw ws.length wsc, zlP (encO.all os) oo os.length oc] := H9; clear x0 x1 x2 x3 H9 HL2 hz9; have e0 := HQ.cell 2 0 rfl rfl; have e1 := HQ.cell 2 1 rfl rfl; have e2 := HQ.cell 2 2 rfl rfl; have e7 := HQ.cell 2 7 rfl rfl; have b0 := HQ.cell 5 0 rfl rfl; have b1 := HQ.cell 5 1 rfl rfl; have b2 := HQ.cell 5 2 rfl rfl
           by_cases hall : xk = bk ∧ xf = bf ∧ xt = bt
           · have hr1 := hg3h.out; rw [if_pos (by rw [hBBh.out, hall.1, hall.2.1, hall.2.2])] at hr1
             have hr1h := zH hr1; obtain ⟨rfl, rfl, rfl⟩ := hall; have f7 := HQ.free 3 7 rfl; have n7 := HQ.cell 3 7 rfl rfl; have HR : zS w _ [_, _, _, _, _, _, _, _, _, _, _, _, _, _] := HQ.set 3 rfl 7 (.int .i64 xr); clear hr1 hg3h; go_wp2; go_roundw
             case rel =>
              refine ⟨j + 1, ⟨un, ua, ut, ux, uy⟩, xr, ua9, uc9, H5 ++ H2, by omega, by go_num, hr1h, harh, hmrd, hin6h, zH (fun x hx => List.mem_append_right _ (hsub.out x hx)), ?_⟩
              simp only [hUXh.out, hUYh.out]; exact HR.pick [3, 4, 5, 6, 7, 8, 9, 10, 11, 12, 13, 1]
             case measure => simp [intOf]; omega
           · have hr1 := hg3h.out; rw [if_neg (fun e => hall (by rw [hBBh.out] at e; cases e; exact ⟨rfl, rfl, rfl⟩))] at hr1
             have hr1h := zH hr1
             have h3 : (¬ xk = bk) ∨ (xk = bk ∧ ¬ xf = bf) ∨ (xk = bk ∧ xf = bf ∧ ¬ xt = bt) := by
              by_cases h1 : xk = bk
              · by_cases h2 : xf = bf
                · exact .inr (.inr ⟨h1, h2, fun h3 => hall ⟨h1, h2, h3⟩⟩)
                · exact .inr (.inl ⟨h1, h2⟩)
              · exact .inl h1
             clear hall hr1 hg3h; rcases h3 with h3 | ⟨rfl, h3⟩ | ⟨rfl, rfl, h3⟩
             all_goals
              go_wp2; go_roundw
              case rel =>
               refine ⟨j + 1, ⟨un, ua, ut, ux, uy⟩, rd, ua9, uc9, H5 ++ H2, by omega, by go_num, hr1h, harh, hrd, hin6h, zH (fun x hx => List.mem_append_right _ (hsub.out x hx)), ?_⟩
               simp only [hUXh.out, hUYh.out]; exact HQ.pick [3, 4, 5, 6, 7, 8, 9, 10, 11, 12, 13, 1]
              case measure => simp [intOf]; omega
       · obtain rfl : j = L.length := by omega
         have hs := hgt.out; rw [List.drop_eq_nil_of_le (by rw [List.length_map]; omega)] at hs
         have hs : gathM qq BB (fun y => D.contains y) (L.map (·.p)) (Ag.zero, 0) = some (g, rd) := hs.symm
         rw [hgathh.out] at hs
         have hnone : mergeM qq g g0 = none → R = ⟨⟨mk, ms0.map (·.p)⟩, [], 20⟩ := fun h => by
          rw [hRh.out, show res = none by rw [hnh.out, hlayd.out, hs]; simp only; rw [hput.out, h]]
         have hfull : ∀ a, mergeM qq g g0 = some a → BB.ripe mk = true → rd = 1073741824 → R = ⟨⟨mk, ms0.map (·.p)⟩, [], 20⟩ := fun a h h2 h3 => by
          rw [hRh.out, show res = none by rw [hnh.out, hlayd.out, hs]; simp only; rw [hput.out, h]; simp only; rw [if_pos h2, if_pos h3]]
         have hyes : ∀ a rdn O, putM qq mk BB g rd v = some (⟨BB, a, rdn⟩, O) → res = laysM qq mk v (ws.drop (i + 1)) ⟨withP ((L.map (·.p)).filter fun p => !oldM qq OW p.w) ⟨BB, a, rdn⟩, os.map (·.o) ++ O, true⟩ ∧ GoodA qq (withP ((L.map (·.p)).filter fun p => !oldM qq OW p.w) ⟨BB, a, rdn⟩) := fun a rdn O h => by
          have hly : layM qq mk BB (oldM qq OW) v (L.map (·.p)) = some (withP ((L.map (·.p)).filter fun p => !oldM qq OW p.w) ⟨BB, a, rdn⟩, O) := by
           rw [hlayd.out, hs]; simp only; rw [h]
          refine ⟨?_, hlgood.out BB _ _ _ hBrh.out hgood.out hly⟩; rw [hnh.out, hly]
         have hputn : ∀ a, mergeM qq g g0 = some a → BB.ripe mk = false → putM qq mk BB g rd v = some (⟨BB, a, rd⟩, []) := fun a h h2 => by
          rw [hput.out, h]; simp only; rw [if_neg (by rw [h2]; simp)]
         have hputy : ∀ a, mergeM qq g g0 = some a → BB.ripe mk = true → ¬ rd = 1073741824 → putM qq mk BB g rd v = some (⟨BB, a, rd + 1⟩, [⟨false, itm00, BB, rd + 1, valueM qq a⟩]) := fun a h h2 h3 => by
          rw [hput.out, h]; simp only; rw [if_pos h2, if_neg h3]
         have hgr0 : Ag.right qq ⟨on, oa, ot, ox, oy⟩ = true := by rw [← hg0h.out]; exact hg1h.out
         have km := fun w' (h1 : IntsRO w' (.slice ta g.top.length tc) g.top) (h2 : IntsRO w' (.slice ha ot.length hc) ot) => kmg.out g ⟨on, oa, ot, ox, oy⟩ _ _ w' h1 h2 hgr.out hgr0
         have hMr := fun a (h : mergeM qq g g0 = some a) => hmgr.out g g0 a hgr.out hg1h.out h
         rw [← hg0h.out] at km; unfold MrgOk at km; obtain ⟨MR, hMR⟩ := zNm (mergeM qq g g0); simp only [hMR] at km hMr hnone hfull hputn hputy; rw [hg0h.out] at km; have hnoneh := zH hnone; have hfullh := zH hfull; have hyesh := zH hyes; have hputnh := zH hputn; have hputyh := zH hputy; have hMrh := zH hMr; have hginh := hgin; have hone : (Value.slice ha ot.length hc, ot) ∈ H2 ++ G0 := List.mem_append_left _ (hsub.out _ h1in.out); have honeh := zH hone; have hrip : BB.ripe mk = decide (bt ≤ mk) := by rw [ripe_right hBrh.out, hBBh.out]
         have hriph := zH hrip; clear hs hnone hfull hyes hputn hputy hgr0 hMr hMR hone hgt hrip; obtain ⟨sn, sa, st, sx, sy⟩ := g; unfold agV agC at km; simp only at km HM hginh; obtain ⟨SX, hSX⟩ := zNm (ib sx); obtain ⟨SY, hSY⟩ := zNm (ib sy); simp only [hSX, hSY, hOXh.out, hOYh.out] at km HM; have HB : zS w wr [zbP pb bk.toArray bf bt sn sa ta st.length tc SX SY rd, zqP (wds D) da D.length dc, zcP vb bk.toArray bf bt, zaP qb kd sz sl lt ag kk, zfP sb mk va ms0.length vc, zeP xb key.toArray tm v, zgP rb, zdP ob on oa ha ot.length hc OX OY, zpP va ms0.length vc ms0 pa L.length pc L, zkP (wds ws) gw ws.length wsc, zlP (encO.all os) oo os.length oc, Pool H2] := HM; clear hSX hSY HM; have d0 := HB.cell 3 0 rfl rfl; have d1 := HB.cell 3 1 rfl rfl; have d2 := HB.cell 3 2 rfl rfl; have d3 := HB.cell 3 3 rfl rfl; have d4 := HB.cell 3 4 rfl rfl; have d5 := HB.cell 3 5 rfl rfl; have p3 := HB.cell 0 3 rfl rfl; have p4 := HB.cell 0 4 rfl rfl; have p5 := HB.cell 0 5 rfl rfl; have p6 := HB.cell 0 6 rfl rfl; have e3 := HB.cell 7 0 rfl rfl; have e4 := HB.cell 7 1 rfl rfl; have e5 := HB.cell 7 2 rfl rfl; have e6 := HB.cell 7 3 rfl rfl; have km1 := km wr (HB.pool_or 11 rfl hGh.out hginh.out) (HB.pool_or 11 rfl hGh.out honeh.out); clear km
         cases MR with
         | none =>
          simp only at km1; have hfinh := zH (hnoneh.out rfl); go_upto_region 36 with (go_at_call 187; go_must (refine km1.mono ?_; rintro e w7 ⟨rfl, G1⟩; have H7 : zS w w7 [zbP pb bk.toArray bf bt sn sa ta st.length tc SX SY rd, zqP (wds D) da D.length dc, zcP vb bk.toArray bf bt, zaP qb kd sz sl lt ag kk, zfP sb mk va ms0.length vc, zeP xb key.toArray tm v, zgP rb, zdP ob on oa ha ot.length hc OX OY, zpP va ms0.length vc ms0 pa L.length pc L, zkP (wds ws) gw ws.length wsc, zlP (encO.all os) oo os.length oc, Pool H2] := HB.call0 G1))
          clear d0 d1 d2 d3 d4 d5 p3 p4 p5 p6 e3 e4 e5 e6 G1 HB; have HT : zS w _ [zbP pb bk.toArray bf bt sn sa ta st.length tc SX SY rd, zqP (wds D) da D.length dc, zcP vb bk.toArray bf bt, zaP qb kd sz sl lt ag kk, zfP sb mk va ms0.length vc, zeP xb key.toArray tm v, zgP rb, zdP ob on oa ha ot.length hc OX OY, zpP va ms0.length vc ms0 pa L.length pc L, zkP (wds ws) gw ws.length wsc, zlP (encO.all os) oo os.length oc, Pool H2] := H7.skip (.cells #[.int .i64 0, .int .i64 0, .slice none 0 0, .complex .f64 0 0] 66); have y0 := HT.cell 4 0 rfl rfl; have y1 := HT.cell 4 1 rfl rfl; have r0 := HT.free 6 0 rfl; have r1 := HT.free 6 1 rfl; have x0 := HT.cell 6 0 rfl rfl; have x1 := HT.cell 6 1 rfl rfl; have HZ := (HT.set 6 rfl 0 (.int .i64 mk)).set 6 rfl 1 (.slice va ms0.length vc); go_wp2
          try simp only [Exit.inBlock, Exit.then]
          refine bodyPost_ret (results_ctt rfl rfl (blk_range (cs := [.int .i64 mk, .slice va ms0.length vc]) (HZ.blk 6 rfl)) Tryz.underlying45 rfl (by kernel_rfl)) rfl ?_
          rw [hfinh.out]; exact ⟨.slice va ms0.length vc, .slice none 0 0, ms0, [], [], rfl, rfl, rfl, (fun m hm => List.mem_append_right _ (hmlh.out m hm)), (fun y hy => by cases hy), (((HZ.pick []).pool_nil).row_nil 63 10).row_same 68 (.slice va ms0.length vc) ms0⟩
         | some a =>
          have har := hMrh.out a rfl; have hfull2 := hfullh.out a rfl; have hputn2 := hputnh.out a rfl; have hputy2 := hputyh.out a rfl; have hyes2 := hyesh.out a; simp only at km1; have kv := fun w' h (hh : IntsRO w' h a.top) => kvl.out a h w' hh har
          obtain ⟨VL, hV⟩ := zNm (valueM qq a); simp only [hV] at kv hputy2; clear hV; obtain ⟨aa, haa⟩ : ∃ z, z = a := ⟨_, rfl⟩; have haah := zH haa; rw [← haa] at hputn2 hputy2 hyes2; clear haa hnoneh hfullh hyesh hputnh hputyh hMrh har; have hfull2h := zH hfull2; have hputn2h := zH hputn2; have hputy2h := zH hputy2; have hyes2h := zH hyes2; clear hfull2 hputn2 hputy2 hyes2; obtain ⟨un, ua, ut, ux, uy⟩ := a; unfold agV agC at kv; obtain ⟨UX, hUX⟩ := zNm (ib ux); obtain ⟨UY, hUY⟩ := zNm (ib uy); simp only [hUX, hUY] at km1 kv; have hUXh := zH hUX; have hUYh := zH hUY; have kvh := zH kv; clear hUX hUY kv; go_upto_region 35 with (go_at_call 187; go_must (refine km1.mono ?_; rintro e w7 ⟨h5, H5, rfl, hin5, G1⟩; have H7 : zS w w7 (Pool H5 :: [zbP pb bk.toArray bf bt sn sa ta st.length tc SX SY rd, zqP (wds D) da D.length dc, zcP vb bk.toArray bf bt, zaP qb kd sz sl lt ag kk, zfP sb mk va ms0.length vc, zeP xb key.toArray tm v, zgP rb, zdP ob on oa ha ot.length hc OX OY, zpP va ms0.length vc ms0 pa L.length pc L, zkP (wds ws) gw ws.length wsc, zlP (encO.all os) oo os.length oc, Pool H2]) := HB.call0 G1; obtain ⟨ua9, uc9, e9, -, -, -⟩ : IntsRO w7 h5 ut := (by rcases List.mem_append.1 hin5 with h | h; exact H7.pool_get 0 rfl h; rcases List.mem_cons.1 h with h | h; (cases h; exact H7.pool_or 12 rfl hGh.out hginh.out); (cases List.mem_singleton.1 h; exact H7.pool_or 12 rfl hGh.out honeh.out)); cases e9))
          have hin6 : (Value.slice ua9 ut.length uc9, ut) ∈ (H5 ++ H2) ++ G0 := by
           rcases List.mem_append.1 hin5 with h | h
           · exact List.mem_append_left _ (List.mem_append_left _ h)
           · rcases List.mem_cons.1 h with h | h
             · rw [h]; rcases List.mem_append.1 hginh.out with h | h
               · exact List.mem_append_left _ (List.mem_append_right _ h)
               · exact List.mem_append_right _ h
             · rw [List.mem_singleton.1 h]; rcases List.mem_append.1 honeh.out with h | h
               · exact List.mem_append_left _ (List.mem_append_right _ h)
               · exact List.mem_append_right _ h
          have hin6h := zH hin6; have HJ : zS w w7 [Pool (H5 ++ H2), zbP pb bk.toArray bf bt sn sa ta st.length tc SX SY rd, zqP (wds D) da D.length dc, zcP vb bk.toArray bf bt, zaP qb kd sz sl lt ag kk, zfP sb mk va ms0.length vc, zeP xb key.toArray tm v, zgP rb, zdP ob on oa ha ot.length hc OX OY, zpP va ms0.length vc ms0 pa L.length pc L, zkP (wds ws) gw ws.length wsc, zlP (encO.all os) oo os.length oc] := St.pool_join (H7.pick [0, 12, 1, 2, 3, 4, 5, 6, 7, 8, 9, 10, 11]); clear hin5 hin6 km1 d0 d1 d2 d3 d4 d5 p3 p4 p5 p6 e3 e4 e5 e6 G1 HB H7; have HK : zS w _ (_ :: _) := HJ.allocAt rfl #[.int .i64 un, .int .i64 ua, .slice ua9 ut.length uc9, .complex .f64 UX UY] 66; obtain ⟨w8, hw8⟩ := zNm (w7.alloc (.cells #[.int .i64 un, .int .i64 ua, .slice ua9 ut.length uc9, .complex .f64 UX UY] 66)); obtain ⟨cb, hcb⟩ := zNm w7.heap.size; rw [hw8, hcb] at HK; (try rw [hw8]); (try simp only [hcb]); have HL2 : zS w w8 [zdP cb un ua ua9 ut.length uc9 UX UY, Pool (H5 ++ H2), zbP pb bk.toArray bf bt sn sa ta st.length tc SX SY rd, zqP (wds D) da D.length dc, zcP vb bk.toArray bf bt, zaP qb kd sz sl lt ag kk, zfP sb mk va ms0.length vc, zeP xb key.toArray tm v, zgP rb, zdP ob on oa ha ot.length hc OX OY, zpP va ms0.length vc ms0 pa L.length pc L, zkP (wds ws) gw ws.length wsc, zlP (encO.all os) oo os.length oc] := HK; clear hw8 hcb HK HJ; go_upto_region 37 with (fail)
          have x0 := HL2.cell 0 0 rfl rfl; have x1 := HL2.cell 0 1 rfl rfl; have x2 := HL2.cell 0 2 rfl rfl; have x3 := HL2.cell 0 3 rfl rfl; go_upto_region 38 with ((with_reducible show Go.wpList _ _ _ (Oper.mk none (Op.store 66 _ _) _ _ _ _ :: _) _ _); go_must (refine St.list_storeMid HL2 2 rfl (cs := [.string ⟨bk.toArray⟩, .int .i64 bf, .int .i64 bt, .int .i64 sn, .int .i64 sa, .slice ta st.length tc, .complex .f64 SX SY, .int .i64 rd]) (ty := 66) (n := 4) (off := 3) (vs := #[.int .i64 un, .int .i64 ua, .slice ua9 ut.length uc9, .complex .f64 UX UY]) (by kernel_rfl) rfl (by simp [allOne, Value.oneCell']) (by show 3 + 4 ≤ 8; decide) rfl (.tmp 137) (.tmp 136) rfl rfl rfl ?_; intro w9 H9 hz9))
          have HQ : zS w w9 [zdP cb un ua ua9 ut.length uc9 UX UY, Pool (H5 ++ H2), zbP pb bk.toArray bf bt un ua ua9 ut.length uc9 UX UY rd, zqP (wds D) da D.length dc, zcP vb bk.toArray bf bt, zaP qb kd sz sl lt ag kk, zfP sb mk va ms0.length vc, zeP xb key.toArray tm v, zgP rb, zdP ob on oa ha ot.length hc OX OY, zpP va ms0.length vc ms0 pa L.length pc L, zkP (wds ws) gw ws.length wsc, zlP (encO.all os) oo os.length oc] := H9; clear x0 x1 x2 x3 H9 HL2 hz9; have b2 := HQ.cell 4 2 rfl rfl; have s0 := HQ.cell 6 0 rfl rfl
          have hres9 : Hid ((∀ m ∈ L, Pm.own m ∈ (H5 ++ H2) ++ G0) ∧ (∀ y ∈ os, Om.own y ∈ (H5 ++ H2) ++ G0) ∧ (Value.slice ha ot.length hc, ot) ∈ H5 ++ H2) := zH ⟨fun m hm => by
           rcases List.mem_append.1 (hmo.out m hm) with h | h
           · exact List.mem_append_left _ (List.mem_append_right _ (hsub.out _ h))
           · exact List.mem_append_right _ h, fun y hy => by
           rcases List.mem_append.1 (hoo.out y hy) with h | h
           · exact List.mem_append_left _ (List.mem_append_right _ (hsub.out _ h))
           · exact List.mem_append_right _ h, List.mem_append_right _ (hsub.out _ h1in.out)⟩
          by_cases hto : bt ≤ mk
          · have z1 : decide (bt ≤ mk) = true := by simpa using hto
            have hrp : BB.ripe mk = true := by rw [hriph.out, z1]
            go_upto_region 39 with (fail)
            have p7 := HQ.cell 2 7 rfl rfl
            by_cases hrf : rd = 1073741824
            · have z2 : (rd == 1073741824) = true := by simpa using hrf
              have hfinh := zH (hfull2h.out hrp hrf); clear hrf hto hrp; go_upto_region 40 with (fail)
              clear b2 s0 p7; have HT : zS w _ [zdP cb un ua ua9 ut.length uc9 UX UY, Pool (H5 ++ H2), zbP pb bk.toArray bf bt un ua ua9 ut.length uc9 UX UY rd, zqP (wds D) da D.length dc, zcP vb bk.toArray bf bt, zaP qb kd sz sl lt ag kk, zfP sb mk va ms0.length vc, zeP xb key.toArray tm v, zgP rb, zdP ob on oa ha ot.length hc OX OY, zpP va ms0.length vc ms0 pa L.length pc L, zkP (wds ws) gw ws.length wsc, zlP (encO.all os) oo os.length oc] := HQ; have y0 := HT.cell 6 0 rfl rfl; have y1 := HT.cell 6 1 rfl rfl; have r0 := HT.free 8 0 rfl; have r1 := HT.free 8 1 rfl; have x0 := HT.cell 8 0 rfl rfl; have x1 := HT.cell 8 1 rfl rfl; have HZ := (HT.set 8 rfl 0 (.int .i64 mk)).set 8 rfl 1 (.slice va ms0.length vc); go_wp2
              try simp only [Exit.inBlock, Exit.then]
              refine bodyPost_ret (results_ctt rfl rfl (blk_range (cs := [.int .i64 mk, .slice va ms0.length vc]) (HZ.blk 8 rfl)) Tryz.underlying45 rfl (by kernel_rfl)) rfl ?_
              rw [hfinh.out]; exact ⟨.slice va ms0.length vc, .slice none 0 0, ms0, [], [], rfl, rfl, rfl, (fun m hm => List.mem_append_right _ (hmlh.out m hm)), (fun y hy => by cases hy), (((HZ.pick []).pool_nil).row_nil 63 10).row_same 68 (.slice va ms0.length vc) ms0⟩
            · have z2 : (rd == 1073741824) = false := by simpa using hrf
              have hpt := hputy2h.out hrp hrf; obtain ⟨r1, hr1⟩ := zNm (rd + 1); rw [hr1] at hpt; have n8 : IntKind.i64.wrap (rd + 1) = r1 := by rw [IntKind.wrap_i64]; omega
              have n8' : IntKind.i64.wrap r1 = r1 := by rw [IntKind.wrap_i64]; omega
              obtain ⟨hy1, hy2⟩ := hyes2h.out r1 _ hpt; have hy1h := zH hy1; have hy2h := zH hy2; have f7 := HQ.free 2 7 rfl; have HR : zS w _ [_, _, _, _, _, _, _, _, _, _, _, _, _] := HQ.set 2 rfl 7 (.int .i64 r1); clear hpt hrf hto hrp hy1 hy2 hr1; go_upto_region 42 with (fail)
              obtain ⟨wx, hwx⟩ := zNm (w9.setCell ⟨pb, 7, none⟩ (.int .i64 r1)); rw [hwx] at HR; (try rw [hwx]); have HX : zS w wx [zdP cb un ua ua9 ut.length uc9 UX UY, Pool (H5 ++ H2), zbP pb bk.toArray bf bt un ua ua9 ut.length uc9 UX UY r1, zqP (wds D) da D.length dc, zcP vb bk.toArray bf bt, zaP qb kd sz sl lt ag kk, zfP sb mk va ms0.length vc, zeP xb key.toArray tm v, zgP rb, zdP ob on oa ha ot.length hc OX OY, zpP va ms0.length vc ms0 pa L.length pc L, zkP (wds ws) gw ws.length wsc, zlP (encO.all os) oo os.length oc] := HR; clear hwx HR HQ b2 s0 p7 f7 n8; refine wp_script [(0, false), (1, false), (2, false), (3, false), (4, false), (5, false), (6, true), (7, false), (8, true), (9, true), (10, false)] (Fam fun w' => zS w w' [zbP pb bk.toArray bf bt un ua ua9 ut.length uc9 UX UY r1, zcP vb bk.toArray bf bt, zaP qb kd sz sl lt ag kk, zdP cb un ua ua9 ut.length uc9 UX UY]) (fun w' => zS w w' [zdP cb un ua ua9 ut.length uc9 UX UY, Pool (H5 ++ H2), zbP pb bk.toArray bf bt un ua ua9 ut.length uc9 UX UY r1, zqP (wds D) da D.length dc, zcP vb bk.toArray bf bt, zaP qb kd sz sl lt ag kk, zfP sb mk va ms0.length vc, zeP xb key.toArray tm v, zgP rb, zdP ob on oa ha ot.length hc OX OY, zpP va ms0.length vc ms0 pa L.length pc L, zkP (wds ws) gw ws.length wsc, zlP (encO.all os) oo os.length oc]) (by kernel_rfl) (by rfl) (by kernel_rfl) (by kernel_rfl) HX.drew (Fam.st (fun _ h => h.pick [2, 4, 5, 0])) ?_
              iterate 6 first | (apply script_pass; rfl; rfl; intro K hK; go_simp; refine hK _ ?_; clear hK K) | (apply script_step; rfl; rfl; (focus (intro I hI w1 h1'; have h1 := hI.2 _ h1'; have p7 := h1.cell 0 7 rfl rfl; have b0 := h1.cell 1 0 rfl rfl; have b1 := h1.cell 1 1 rfl rfl; have b2 := h1.cell 1 2 rfl rfl; have d0 := h1.cell 2 0 rfl rfl; have d1 := h1.cell 2 1 rfl rfl; have d2 := h1.cell 2 2 rfl rfl; have d3 := h1.cell 2 3 rfl rfl; have d4 := h1.cell 2 4 rfl rfl; have d5 := h1.cell 2 5 rfl rfl; have c0 := h1.cell 3 0 rfl rfl; have c1 := h1.cell 3 1 rfl rfl; have c2 := h1.cell 3 2 rfl rfl; have c3 := h1.cell 3 3 rfl rfl; first | (go_simp; first | rfl | exact ⟨rfl, h1'⟩))); intro K hK; go_simp; refine hK _ ?_; clear hK K)
              refine script_alone rfl rfl ?_; intro V hV w1 h1
              go_simp
              refine (kvh.out w1 _ (h1.pool_or 1 rfl hGh.out hin6h.out)).mono ?_; rintro e w2 ⟨vv, H6, rfl, hvin, G1⟩; have HA0 : zS w w2 [Pool H6, zdP cb un ua ua9 ut.length uc9 UX UY, Pool (H5 ++ H2), zbP pb bk.toArray bf bt un ua ua9 ut.length uc9 UX UY r1, zqP (wds D) da D.length dc, zcP vb bk.toArray bf bt, zaP qb kd sz sl lt ag kk, zfP sb mk va ms0.length vc, zeP xb key.toArray tm v, zgP rb, zdP ob on oa ha ot.length hc OX OY, zpP va ms0.length vc ms0 pa L.length pc L, zkP (wds ws) gw ws.length wsc, zlP (encO.all os) oo os.length oc] := h1.call0 G1; obtain ⟨va6, vc6, e6, -, -, -⟩ : IntsRO w2 vv VL := (by rcases List.mem_append.1 hvin with h | h; exact HA0.pool_get 0 rfl h; (cases List.mem_singleton.1 h; exact HA0.pool_or 2 rfl hGh.out hin6h.out))
              cases e6; have hvinh := zH hvin; clear hvin; have HA : zS w w2 [Pool (H6 ++ (H5 ++ H2)), zdP cb un ua ua9 ut.length uc9 UX UY, zbP pb bk.toArray bf bt un ua ua9 ut.length uc9 UX UY r1, zqP (wds D) da D.length dc, zcP vb bk.toArray bf bt, zaP qb kd sz sl lt ag kk, zfP sb mk va ms0.length vc, zeP xb key.toArray tm v, zgP rb, zdP ob on oa ha ot.length hc OX OY, zpP va ms0.length vc ms0 pa L.length pc L, zkP (wds ws) gw ws.length wsc, zlP (encO.all os) oo os.length oc] := St.pool_join (HA0.pick [0, 2, 1, 3, 4, 5, 6, 7, 8, 9, 10, 11, 12, 13]); refine ⟨_, rfl, fun w' => zS w w' [Pool (H6 ++ (H5 ++ H2)), zdP cb un ua ua9 ut.length uc9 UX UY, zbP pb bk.toArray bf bt un ua ua9 ut.length uc9 UX UY r1, zqP (wds D) da D.length dc, zcP vb bk.toArray bf bt, zaP qb kd sz sl lt ag kk, zfP sb mk va ms0.length vc, zeP xb key.toArray tm v, zgP rb, zdP ob on oa ha ot.length hc OX OY, zpP va ms0.length vc ms0 pa L.length pc L, zkP (wds ws) gw ws.length wsc, zlP (encO.all os) oo os.length oc], hV _ _ _ (fun _ h => h) (Fam.st (fun _ h => h.pick [2, 4, 5, 1])) ?_, HA⟩
              intro K hK
              go_simp
              refine hK _ ?_; clear hK K hV V; clear HA HA0 h1 G1 w1 w2
              iterate 1 first | (apply script_pass; rfl; rfl; intro K hK; go_simp; refine hK _ ?_; clear hK K) | (apply script_step; rfl; rfl; (focus (intro I hI w1 h1'; have h1 := hI.2 _ h1'; first | (go_simp; first | rfl | exact ⟨rfl, h1'⟩))); intro K hK; go_simp; refine hK _ ?_; clear hK K)
              refine script_alone rfl rfl ?_; intro V hV w1 h1
              go_simp
              obtain ⟨nw, hnw⟩ := zNm w1.heap.size; have HA : zS w _ [zvP nw bk.toArray bf bt r1 va6 VL.length vc6, Pool (H6 ++ (H5 ++ H2)), zdP cb un ua ua9 ut.length uc9 UX UY, zbP pb bk.toArray bf bt un ua ua9 ut.length uc9 UX UY r1, zqP (wds D) da D.length dc, zcP vb bk.toArray bf bt, zaP qb kd sz sl lt ag kk, zfP sb mk va ms0.length vc, zeP xb key.toArray tm v, zgP rb, zdP ob on oa ha ot.length hc OX OY, zpP va ms0.length vc ms0 pa L.length pc L, zkP (wds ws) gw ws.length wsc, zlP (encO.all os) oo os.length oc] := h1.allocAt hnw #[.bool false, .int .i64 0, .string ⟨#[]⟩, .int .i64 0, .int .i64 0, .string ⟨bk.toArray⟩, .int .i64 bf, .int .i64 bt, .int .i64 r1, .slice va6 VL.length vc6] 63; simp only [hnw]; refine ⟨fun w' => zS w w' [zvP nw bk.toArray bf bt r1 va6 VL.length vc6, Pool (H6 ++ (H5 ++ H2)), zdP cb un ua ua9 ut.length uc9 UX UY, zbP pb bk.toArray bf bt un ua ua9 ut.length uc9 UX UY r1, zqP (wds D) da D.length dc, zcP vb bk.toArray bf bt, zaP qb kd sz sl lt ag kk, zfP sb mk va ms0.length vc, zeP xb key.toArray tm v, zgP rb, zdP ob on oa ha ot.length hc OX OY, zpP va ms0.length vc ms0 pa L.length pc L, zkP (wds ws) gw ws.length wsc, zlP (encO.all os) oo os.length oc], hV _ _ _ (fun _ h => h) (Fam.st (fun _ h => h.pick [3, 5, 6, 2])) ?_, HA⟩
              intro K hK
              go_simp
              refine hK _ ?_; clear hK K hV V; clear HA h1 hnw w1; refine script_alone rfl rfl ?_; intro V hV w1 h1; have HA : zS w w1 [zlP (encO.all os) oo os.length oc, zvP nw bk.toArray bf bt r1 va6 VL.length vc6, Pool (H6 ++ (H5 ++ H2)), zdP cb un ua ua9 ut.length uc9 UX UY, zbP pb bk.toArray bf bt un ua ua9 ut.length uc9 UX UY r1, zqP (wds D) da D.length dc, zcP vb bk.toArray bf bt, zaP qb kd sz sl lt ag kk, zfP sb mk va ms0.length vc, zeP xb key.toArray tm v, zgP rb, zdP ob on oa ha ot.length hc OX OY, zpP va ms0.length vc ms0 pa L.length pc L, zkP (wds ws) gw ws.length wsc] := h1.pick [13, 0, 1, 2, 3, 4, 5, 6, 7, 8, 9, 10, 11, 12]; have hnw := World.news_of_block (h1.blk 0 rfl); refine St.came_row HA (.tmp 151) (.tmp 159) 46 rfl Tryz.underlying46 Tryz.info63 (by decide) rfl #[.bool false, .int .i64 0, .string ⟨#[]⟩, .int .i64 0, .int .i64 0, .string ⟨bk.toArray⟩, .int .i64 bf, .int .i64 bt, .int .i64 r1, .slice va6 VL.length vc6].toList rfl rfl (by intro h; cases h) (fun ad e => by cases e; exact hnw) (by simp [Value.oneCell']) (by omega) ?_
              intro v2 w2 HB; obtain ⟨a2, p2, rfl, -, -⟩ := slice_form' (HB.row 0 rfl); refine ⟨fun w' => zS w w' [zbuP (os.length + 1) (encO.all os ++ #[.bool false, .int .i64 0, .string ⟨#[]⟩, .int .i64 0, .int .i64 0, .string ⟨bk.toArray⟩, .int .i64 bf, .int .i64 bt, .int .i64 r1, .slice va6 VL.length vc6].toList) a2 p2, zvP nw bk.toArray bf bt r1 va6 VL.length vc6, Pool (H6 ++ (H5 ++ H2)), zdP cb un ua ua9 ut.length uc9 UX UY, zbP pb bk.toArray bf bt un ua ua9 ut.length uc9 UX UY r1, zqP (wds D) da D.length dc, zcP vb bk.toArray bf bt, zaP qb kd sz sl lt ag kk, zfP sb mk va ms0.length vc, zeP xb key.toArray tm v, zgP rb, zdP ob on oa ha ot.length hc OX OY, zpP va ms0.length vc ms0 pa L.length pc L, zkP (wds ws) gw ws.length wsc], hV _ _ _ (fun _ h => h) (Fam.st (fun _ h => h.pick [4, 6, 7, 3])) ?_, HB⟩
              intro K hK
              go_simp
              refine hK _ ?_; clear hK K hV V; clear HB HA hnw h1 w1 w2
              iterate 1 first | (apply script_pass; rfl; rfl; intro K hK; go_simp; refine hK _ ?_; clear hK K) | (apply script_step; rfl; rfl; (focus (intro I hI w1 h1'; have h1 := hI.2 _ h1'; first | (go_simp; first | rfl | exact ⟨rfl, h1'⟩))); intro K hK; go_simp; refine hK _ ?_; clear hK K)
              refine script_nil ?_; intro w10 H10; have hvinh := (by assumption : Hid ((Value.slice va6 VL.length vc6, VL) ∈ H6 ++ [(Value.slice ua9 ut.length uc9, ut)]))
              obtain ⟨OM, hOM⟩ : ∃ z : Om, z = ⟨⟨false, itm00, ⟨bk, bf, bt⟩, r1, VL⟩, va6, vc6⟩ := ⟨_, rfl⟩; have hOMc : (otC OM).toList = #[.bool false, .int .i64 0, .string ⟨#[]⟩, .int .i64 0, .int .i64 0, .string ⟨bk.toArray⟩, .int .i64 bf, .int .i64 bt, .int .i64 r1, .slice va6 VL.length vc6].toList := by rw [hOM]; rfl
              have hOMo : OM.o = ⟨false, itm00, BB, r1, VL⟩ := by rw [hOM, hBBh.out]
              have hOMw : OM.own = (Value.slice va6 VL.length vc6, VL) := by rw [hOM]; rfl
              obtain ⟨OS, hOS⟩ := zNm (os ++ [OM]); have hOSl : OS.length = os.length + 1 := by rw [← hOS, List.length_append]; rfl
              have hOSc : encO.all OS = encO.all os ++ #[.bool false, .int .i64 0, .string ⟨#[]⟩, .int .i64 0, .int .i64 0, .string ⟨bk.toArray⟩, .int .i64 bf, .int .i64 bt, .int .i64 r1, .slice va6 VL.length vc6].toList := by rw [← hOS, encO.all_app, encO.all_one]; exact congrArg _ hOMc
              have hOSm : OS.map (·.o) = os.map (·.o) ++ [⟨false, itm00, BB, r1, VL⟩] := by rw [← hOS, List.map_append, List.map_singleton, hOMo]
              have hOSw : ∀ y ∈ OS, Om.own y ∈ (H6 ++ (H5 ++ H2)) ++ G0 := by
               intro y hy; rw [← hOS] at hy; rcases List.mem_append.1 hy with h | h
               · rcases List.mem_append.1 (hres9.out.2.1 y h) with h | h
                 · exact List.mem_append_left _ (List.mem_append_right _ h)
                 · exact List.mem_append_right _ h
               · rw [List.mem_singleton.1 h, hOMw]; rcases List.mem_append.1 hvinh.out with h | h
                 · exact List.mem_append_left _ (List.mem_append_left _ h)
                 · rw [List.mem_singleton.1 h]; rcases List.mem_append.1 hin6h.out with h | h
                   · exact List.mem_append_left _ (List.mem_append_right _ h)
                   · exact List.mem_append_right _ h
              have hin7 : (Value.slice ua9 ut.length uc9, ut) ∈ (H6 ++ (H5 ++ H2)) ++ G0 := by
               rcases List.mem_append.1 hin6h.out with h | h
               · exact List.mem_append_left _ (List.mem_append_right _ h)
               · exact List.mem_append_right _ h
              have hin7h := zH hin7; have hOSwh := zH hOSw; rw [← hOSm] at hy1h; rw [← hOSc, ← hOSl] at H10; have hOSl2 : OS.length ≤ i + 1 := by omega
              have hOSlh := zH hOSl; clear hOS hOSm hOSc hOMc hOMo hOMw hOM hOSw hin7 hOSl; have H11 : zS w w10 [zlP (encO.all OS) a2 OS.length p2, zvP nw bk.toArray bf bt r1 va6 VL.length vc6, Pool (H6 ++ (H5 ++ H2)), zdP cb un ua ua9 ut.length uc9 UX UY, zbP pb bk.toArray bf bt un ua ua9 ut.length uc9 UX UY r1, zqP (wds D) da D.length dc, zcP vb bk.toArray bf bt, zaP qb kd sz sl lt ag kk, zfP sb mk va ms0.length vc, zeP xb key.toArray tm v, zgP rb, zdP ob on oa ha ot.length hc OX OY, zpP va ms0.length vc ms0 pa L.length pc L, zkP (wds ws) gw ws.length wsc] := H10; clear H10 HX; obtain ⟨F, hF⟩ := zNm ((L.filter fun m => !D.contains m.p.w))
              have hFl : F.length ≤ L.length := by rw [← hF]; exact List.length_filter_le _ _
              have hFm : ∀ m ∈ F, m ∈ L := by rw [← hF]; intro m hm; exact (List.mem_filter.1 hm).1
              obtain ⟨M, hM⟩ : ∃ z : Pm, z = ⟨⟨⟨bk, bf, bt⟩, ⟨un, ua, ut, ux, uy⟩, r1⟩, ua9, uc9⟩ := ⟨_, rfl⟩; have hI1 := hinsh.out M (by rw [hM, hBBh.out])
              have kwo := fun w' gv (h1 : encP.RO w' (.slice pa L.length pc) L) (h2 : WdsRO w' gv D) => ref_without h1 h2 (by omega) (by omega)
              simp only [hF] at kwo; rw [hF] at hI1; have hMp : M.p = ⟨BB, aa, r1⟩ := by rw [hM, hBBh.out, haah.out]
              rw [hMp] at hI1; have hMo : M.own = (.slice ua9 ut.length uc9, ut) := by rw [hM]; rfl
              have hIl := insQ_len M F; have hIm := fun y => insQ_mem (p := M) (y := y) (l := F)
              have kin := fun w' v' (h : encP.RO w' v' F) => ref_insert M h (by omega)
              obtain ⟨I, hI⟩ := zNm (insQ M F); rw [hI] at hI1 hIl; simp only [hI] at hIm kin; simp only [hM] at kin; unfold pnV pnC Pm.hd textV at kin; simp only [hUXh.out, hUYh.out] at kin; have kwoh := zH kwo; have kinh := zH kin; have hFmh := zH hFm; have hI1h := zH hI1; have hMoh := zH hMo; have hImh := zH hIm; have hIl2 : I.length ≤ L.length + 1 := by omega
              clear kwo kin hFm hI1 hMo hIm hF hI hM hMp hIl; go_upto_region 43 with (fail)
              refine wp_script [(0, false), (1, false), (3, false), (2, true), (4, true), (5, false)] (Fam fun w' => zS w w' [zbP pb bk.toArray bf bt un ua ua9 ut.length uc9 UX UY r1]) (fun w' => zS w w' [zlP (encO.all OS) a2 OS.length p2, zvP nw bk.toArray bf bt r1 va6 VL.length vc6, Pool (H6 ++ (H5 ++ H2)), zdP cb un ua ua9 ut.length uc9 UX UY, zbP pb bk.toArray bf bt un ua ua9 ut.length uc9 UX UY r1, zqP (wds D) da D.length dc, zcP vb bk.toArray bf bt, zaP qb kd sz sl lt ag kk, zfP sb mk va ms0.length vc, zeP xb key.toArray tm v, zgP rb, zdP ob on oa ha ot.length hc OX OY, zpP va ms0.length vc ms0 pa L.length pc L, zkP (wds ws) gw ws.length wsc]) (by kernel_rfl) (by rfl) (by kernel_rfl) (by kernel_rfl) H11.drew (Fam.st (fun _ h => h.pick [4])) ?_
              iterate 3 first | (apply script_pass; rfl; rfl; intro K hK; go_simp; refine hK _ ?_; clear hK K) | (apply script_step; rfl; rfl; (focus (intro I hI w1 h1'; have h1 := hI.2 _ h1'; have p0 := h1.cell 0 0 rfl rfl; have p1 := h1.cell 0 1 rfl rfl; have p2 := h1.cell 0 2 rfl rfl; have p3 := h1.cell 0 3 rfl rfl; have p4 := h1.cell 0 4 rfl rfl; have p5 := h1.cell 0 5 rfl rfl; have p6 := h1.cell 0 6 rfl rfl; have p7 := h1.cell 0 7 rfl rfl; first | (go_simp; first | rfl | exact ⟨rfl, h1'⟩))); intro K hK; go_simp; refine hK _ ?_; clear hK K)
              refine script_alone rfl rfl ?_; intro V hV w1 h1
              go_simp
              have hrw : WdsRO w1 (.slice da D.length dc) D := wds_own (h1.row 5 rfl) hDfith.out; refine (kwoh.out w1 _ (h1.rowO_ro 12 rfl hroh.out) hrw).mono ?_; rintro e w2 ⟨v5, rfl, G1⟩; obtain ⟨fa, fc, rfl, -, -⟩ := slice_form' (G1.row 0 rfl); have HA : zS w w2 [znP (encP.all F) fa F.length fc, zlP (encO.all OS) a2 OS.length p2, zvP nw bk.toArray bf bt r1 va6 VL.length vc6, Pool (H6 ++ (H5 ++ H2)), zdP cb un ua ua9 ut.length uc9 UX UY, zbP pb bk.toArray bf bt un ua ua9 ut.length uc9 UX UY r1, zqP (wds D) da D.length dc, zcP vb bk.toArray bf bt, zaP qb kd sz sl lt ag kk, zfP sb mk va ms0.length vc, zeP xb key.toArray tm v, zgP rb, zdP ob on oa ha ot.length hc OX OY, zpP va ms0.length vc ms0 pa L.length pc L, zkP (wds ws) gw ws.length wsc] := h1.call0 G1; refine ⟨_, rfl, fun w' => zS w w' [znP (encP.all F) fa F.length fc, zlP (encO.all OS) a2 OS.length p2, zvP nw bk.toArray bf bt r1 va6 VL.length vc6, Pool (H6 ++ (H5 ++ H2)), zdP cb un ua ua9 ut.length uc9 UX UY, zbP pb bk.toArray bf bt un ua ua9 ut.length uc9 UX UY r1, zqP (wds D) da D.length dc, zcP vb bk.toArray bf bt, zaP qb kd sz sl lt ag kk, zfP sb mk va ms0.length vc, zeP xb key.toArray tm v, zgP rb, zdP ob on oa ha ot.length hc OX OY, zpP va ms0.length vc ms0 pa L.length pc L, zkP (wds ws) gw ws.length wsc], hV _ _ _ (fun _ h => h) (Fam.st (fun _ h => h.pick [5])) ?_, HA⟩
              intro K hK
              go_simp
              refine hK _ ?_; clear hK K hV V; clear HA h1 hrw G1 w1 w2; refine script_alone rfl rfl ?_; intro V hV w1 h1
              go_simp
              have hrw : encP.RO w1 (.slice fa F.length fc) F := Enc.own encP (h1.row 0 rfl) rfl; refine (kinh.out w1 _ hrw).mono ?_; rintro e w2 ⟨v6, rfl, G1⟩; obtain ⟨ia, ic, rfl, -, -⟩ := slice_form' (G1.row 0 rfl); have HA : zS w w2 [znP (encP.all I) ia I.length ic, znP (encP.all F) fa F.length fc, zlP (encO.all OS) a2 OS.length p2, zvP nw bk.toArray bf bt r1 va6 VL.length vc6, Pool (H6 ++ (H5 ++ H2)), zdP cb un ua ua9 ut.length uc9 UX UY, zbP pb bk.toArray bf bt un ua ua9 ut.length uc9 UX UY r1, zqP (wds D) da D.length dc, zcP vb bk.toArray bf bt, zaP qb kd sz sl lt ag kk, zfP sb mk va ms0.length vc, zeP xb key.toArray tm v, zgP rb, zdP ob on oa ha ot.length hc OX OY, zpP va ms0.length vc ms0 pa L.length pc L, zkP (wds ws) gw ws.length wsc] := h1.call0 G1; refine ⟨_, rfl, fun w' => zS w w' [znP (encP.all I) ia I.length ic, znP (encP.all F) fa F.length fc, zlP (encO.all OS) a2 OS.length p2, zvP nw bk.toArray bf bt r1 va6 VL.length vc6, Pool (H6 ++ (H5 ++ H2)), zdP cb un ua ua9 ut.length uc9 UX UY, zbP pb bk.toArray bf bt un ua ua9 ut.length uc9 UX UY r1, zqP (wds D) da D.length dc, zcP vb bk.toArray bf bt, zaP qb kd sz sl lt ag kk, zfP sb mk va ms0.length vc, zeP xb key.toArray tm v, zgP rb, zdP ob on oa ha ot.length hc OX OY, zpP va ms0.length vc ms0 pa L.length pc L, zkP (wds ws) gw ws.length wsc], hV _ _ _ (fun _ h => h) (Fam.st (fun _ h => h.pick [6])) ?_, HA⟩
              intro K hK
              go_simp
              refine hK _ ?_; clear hK K hV V; clear HA h1 hrw G1 w1 w2
              iterate 1 first | (apply script_pass; rfl; rfl; intro K hK; go_simp; refine hK _ ?_; clear hK K) | (apply script_step; rfl; rfl; (focus (intro I hI w1 h1'; have h1 := hI.2 _ h1'; first | (go_simp; first | rfl | exact ⟨rfl, h1'⟩))); intro K hK; go_simp; refine hK _ ?_; clear hK K)
              refine script_nil ?_; intro w5 HS; go_wp2; go_roundw
              case rel =>
               refine ⟨i + 1, I, OS, true, H6 ++ (H5 ++ H2), ia, ic, a2, p2, by omega, rfl, (by rw [hOSlh.out]), rfl, by go_num, zH ?_, zH ?_, zH ?_, zH ?_, zH (fun h => absurd h (by omega)), by omega, hOSl2, zH (List.mem_append_right _ hres9.out.2.2), ?_⟩
               · rw [hy1h.out, hI1h.out]
               · rw [hI1h.out]; exact hy2h.out
               · intro m hm; rcases hImh.out m hm with rfl | hm
                 · rw [hMoh.out]; exact hin7h.out
                 · exact (by rcases List.mem_append.1 (hres9.out.1 m (hFmh.out m hm)) with h | h; exact List.mem_append_left _ (List.mem_append_right _ h); exact List.mem_append_right _ h)
               · exact hOSwh.out
               · have HT := (HS.pick [0, 9, 10, 11, 12, 13, 15, 2, 4]).row_new (.slice va ms0.length vc) ms0; exact HT.pick [1, 2, 3, 4, 5, 0, 6, 7, 8]
              case measure => simp [intOf]; omega
          · have z1 : decide (bt ≤ mk) = false := by simpa using hto
            have hrp : BB.ripe mk = false := by rw [hriph.out, z1]
            have hpt := hputn2h.out hrp; obtain ⟨hy1, hy2⟩ := hyes2h.out rd _ hpt; rw [List.append_nil] at hy1; have hy1h := zH hy1; have hy2h := zH hy2; clear hpt hto hrp hy1 hy2; go_upto_region 43 with (fail)
            clear b2 s0; obtain ⟨F, hF⟩ := zNm ((L.filter fun m => !D.contains m.p.w))
            have hFl : F.length ≤ L.length := by rw [← hF]; exact List.length_filter_le _ _
            have hFm : ∀ m ∈ F, m ∈ L := by rw [← hF]; intro m hm; exact (List.mem_filter.1 hm).1
            obtain ⟨M, hM⟩ : ∃ z : Pm, z = ⟨⟨⟨bk, bf, bt⟩, ⟨un, ua, ut, ux, uy⟩, rd⟩, ua9, uc9⟩ := ⟨_, rfl⟩; have hI1 := hinsh.out M (by rw [hM, hBBh.out])
            have kwo := fun w' gv (h1 : encP.RO w' (.slice pa L.length pc) L) (h2 : WdsRO w' gv D) => ref_without h1 h2 (by omega) (by omega)
            simp only [hF] at kwo; rw [hF] at hI1; have hMp : M.p = ⟨BB, aa, rd⟩ := by rw [hM, hBBh.out, haah.out]
            rw [hMp] at hI1; have hMo : M.own = (.slice ua9 ut.length uc9, ut) := by rw [hM]; rfl
            have hIl := insQ_len M F; have hIm := fun y => insQ_mem (p := M) (y := y) (l := F)
            have kin := fun w' v' (h : encP.RO w' v' F) => ref_insert M h (by omega)
            obtain ⟨I, hI⟩ := zNm (insQ M F); rw [hI] at hI1 hIl; simp only [hI] at hIm kin; simp only [hM] at kin; unfold pnV pnC Pm.hd textV at kin; simp only [hUXh.out, hUYh.out] at kin; have kwoh := zH kwo; have kinh := zH kin; have hFmh := zH hFm; have hI1h := zH hI1; have hMoh := zH hMo; have hImh := zH hIm; have hIl2 : I.length ≤ L.length + 1 := by omega
            clear kwo kin hFm hI1 hMo hIm hF hI hM hMp hIl; go_upto_region 43 with (fail)
            refine wp_script [(0, false), (1, false), (3, false), (2, true), (4, true), (5, false)] (Fam fun w' => zS w w' [zbP pb bk.toArray bf bt un ua ua9 ut.length uc9 UX UY rd]) (fun w' => zS w w' [zdP cb un ua ua9 ut.length uc9 UX UY, Pool (H5 ++ H2), zbP pb bk.toArray bf bt un ua ua9 ut.length uc9 UX UY rd, zqP (wds D) da D.length dc, zcP vb bk.toArray bf bt, zaP qb kd sz sl lt ag kk, zfP sb mk va ms0.length vc, zeP xb key.toArray tm v, zgP rb, zdP ob on oa ha ot.length hc OX OY, zpP va ms0.length vc ms0 pa L.length pc L, zkP (wds ws) gw ws.length wsc, zlP (encO.all os) oo os.length oc]) (by kernel_rfl) (by rfl) (by kernel_rfl) (by kernel_rfl) HQ.drew (Fam.st (fun _ h => h.pick [2])) ?_
            iterate 3 first | (apply script_pass; rfl; rfl; intro K hK; go_simp; refine hK _ ?_; clear hK K) | (apply script_step; rfl; rfl; (focus (intro I hI w1 h1'; have h1 := hI.2 _ h1'; have p0 := h1.cell 0 0 rfl rfl; have p1 := h1.cell 0 1 rfl rfl; have p2 := h1.cell 0 2 rfl rfl; have p3 := h1.cell 0 3 rfl rfl; have p4 := h1.cell 0 4 rfl rfl; have p5 := h1.cell 0 5 rfl rfl; have p6 := h1.cell 0 6 rfl rfl; have p7 := h1.cell 0 7 rfl rfl; first | (go_simp; first | rfl | exact ⟨rfl, h1'⟩))); intro K hK; go_simp; refine hK _ ?_; clear hK K)
            refine script_alone rfl rfl ?_; intro V hV w1 h1
            go_simp
            have hrw : WdsRO w1 (.slice da D.length dc) D := wds_own (h1.row 3 rfl) hDfith.out; refine (kwoh.out w1 _ (h1.rowO_ro 10 rfl hroh.out) hrw).mono ?_; rintro e w2 ⟨v5, rfl, G1⟩; obtain ⟨fa, fc, rfl, -, -⟩ := slice_form' (G1.row 0 rfl); have HA : zS w w2 [znP (encP.all F) fa F.length fc, zdP cb un ua ua9 ut.length uc9 UX UY, Pool (H5 ++ H2), zbP pb bk.toArray bf bt un ua ua9 ut.length uc9 UX UY rd, zqP (wds D) da D.length dc, zcP vb bk.toArray bf bt, zaP qb kd sz sl lt ag kk, zfP sb mk va ms0.length vc, zeP xb key.toArray tm v, zgP rb, zdP ob on oa ha ot.length hc OX OY, zpP va ms0.length vc ms0 pa L.length pc L, zkP (wds ws) gw ws.length wsc, zlP (encO.all os) oo os.length oc] := h1.call0 G1; refine ⟨_, rfl, fun w' => zS w w' [znP (encP.all F) fa F.length fc, zdP cb un ua ua9 ut.length uc9 UX UY, Pool (H5 ++ H2), zbP pb bk.toArray bf bt un ua ua9 ut.length uc9 UX UY rd, zqP (wds D) da D.length dc, zcP vb bk.toArray bf bt, zaP qb kd sz sl lt ag kk, zfP sb mk va ms0.length vc, zeP xb key.toArray tm v, zgP rb, zdP ob on oa ha ot.length hc OX OY, zpP va ms0.length vc ms0 pa L.length pc L, zkP (wds ws) gw ws.length wsc, zlP (encO.all os) oo os.length oc], hV _ _ _ (fun _ h => h) (Fam.st (fun _ h => h.pick [3])) ?_, HA⟩
            intro K hK
            go_simp
            refine hK _ ?_; clear hK K hV V; clear HA h1 hrw G1 w1 w2; refine script_alone rfl rfl ?_; intro V hV w1 h1
            go_simp
            have hrw : encP.RO w1 (.slice fa F.length fc) F := Enc.own encP (h1.row 0 rfl) rfl; refine (kinh.out w1 _ hrw).mono ?_; rintro e w2 ⟨v6, rfl, G1⟩; obtain ⟨ia, ic, rfl, -, -⟩ := slice_form' (G1.row 0 rfl); have HA : zS w w2 [znP (encP.all I) ia I.length ic, znP (encP.all F) fa F.length fc, zdP cb un ua ua9 ut.length uc9 UX UY, Pool (H5 ++ H2), zbP pb bk.toArray bf bt un ua ua9 ut.length uc9 UX UY rd, zqP (wds D) da D.length dc, zcP vb bk.toArray bf bt, zaP qb kd sz sl lt ag kk, zfP sb mk va ms0.length vc, zeP xb key.toArray tm v, zgP rb, zdP ob on oa ha ot.length hc OX OY, zpP va ms0.length vc ms0 pa L.length pc L, zkP (wds ws) gw ws.length wsc, zlP (encO.all os) oo os.length oc] := h1.call0 G1; refine ⟨_, rfl, fun w' => zS w w' [znP (encP.all I) ia I.length ic, znP (encP.all F) fa F.length fc, zdP cb un ua ua9 ut.length uc9 UX UY, Pool (H5 ++ H2), zbP pb bk.toArray bf bt un ua ua9 ut.length uc9 UX UY rd, zqP (wds D) da D.length dc, zcP vb bk.toArray bf bt, zaP qb kd sz sl lt ag kk, zfP sb mk va ms0.length vc, zeP xb key.toArray tm v, zgP rb, zdP ob on oa ha ot.length hc OX OY, zpP va ms0.length vc ms0 pa L.length pc L, zkP (wds ws) gw ws.length wsc, zlP (encO.all os) oo os.length oc], hV _ _ _ (fun _ h => h) (Fam.st (fun _ h => h.pick [4])) ?_, HA⟩
            intro K hK
            go_simp
            refine hK _ ?_; clear hK K hV V; clear HA h1 hrw G1 w1 w2
            iterate 1 first | (apply script_pass; rfl; rfl; intro K hK; go_simp; refine hK _ ?_; clear hK K) | (apply script_step; rfl; rfl; (focus (intro I hI w1 h1'; have h1 := hI.2 _ h1'; first | (go_simp; first | rfl | exact ⟨rfl, h1'⟩))); intro K hK; go_simp; refine hK _ ?_; clear hK K)
            refine script_nil ?_; intro w5 HS; go_wp2; go_roundw
            case rel =>
             refine ⟨i + 1, I, os, true, H5 ++ H2, ia, ic, oo, oc, by omega, rfl, rfl, rfl, by go_num, zH ?_, zH ?_, zH ?_, zH ?_, zH (fun h => absurd h (by omega)), by omega, by omega, zH hres9.out.2.2, ?_⟩
             · rw [hy1h.out, hI1h.out]
             · rw [hI1h.out]; exact hy2h.out
             · intro m hm; rcases hImh.out m hm with rfl | hm
               · rw [hMoh.out]; exact hin6h.out
               · exact (hres9.out.1 m (hFmh.out m hm))
             · exact hres9.out.2.1
             · have HT := (HS.pick [0, 7, 8, 9, 10, 11, 13, 14, 3]).row_new (.slice va ms0.length vc) ms0; exact HT.pick [1, 2, 3, 4, 5, 0, 6, 7, 8]
            case measure => simp [intOf]; omega
  · obtain rfl : i = ws.length := by omega
    have hres := hlay.out; rw [List.drop_length] at hres; have hres : res = some ⟨L.map (·.p), os.map (·.o), b⟩ := hres; have hR9 := hRh.out; rw [hres] at hR9; simp only [List.length_map] at hR9; have hR9h := zH hR9; clear hres hR9 hlay hfix hgood
    cases b with
    | false =>
     have x0 := HM.cell 2 0 rfl rfl; have x1 := HM.cell 2 1 rfl rfl; have x2 := HM.cell 2 2 rfl rfl; have x3 := HM.cell 2 3 rfl rfl; go_upto_region 47 with (at_builtin; go_must (refine St.list_app (HM.skip _) 7 rfl rfl (.tmp 169) (.tmp 172) 46 rfl Tryz.underlying46 Tryz.info63 (by decide) rfl #[.bool true, .int .i64 1, .string ⟨key.toArray⟩, .int .i64 tm, .int .i64 v, .string ⟨#[]⟩, .int .i64 0, .int .i64 0, .int .i64 0, .slice none 0 0].toList rfl rfl (new_cells #[.bool true, .int .i64 1, .string ⟨key.toArray⟩, .int .i64 tm, .int .i64 v, .string ⟨#[]⟩, .int .i64 0, .int .i64 0, .int .i64 0, .slice none 0 0] _) (by simp [Value.oneCell']) (by omega) (by omega) ?_; intro g5 cap5 w6 H6 hz6))
     obtain ⟨OM, hOM⟩ : ∃ z : Om, z = ⟨lateO ⟨1, key, tm, v⟩, none, 0⟩ := ⟨_, rfl⟩; have hOMc : (otC OM).toList = #[.bool true, .int .i64 1, .string ⟨key.toArray⟩, .int .i64 tm, .int .i64 v, .string ⟨#[]⟩, .int .i64 0, .int .i64 0, .int .i64 0, .slice none 0 0].toList := by rw [hOM]; rfl
     have hOMo : OM.o = lateO ⟨1, key, tm, v⟩ := by rw [hOM]
     have hOMw : OM.own = (Value.slice none 0 0, []) := by rw [hOM]; rfl
     obtain ⟨OS, hOS⟩ := zNm (os ++ [OM]); have hOSl : OS.length = os.length + 1 := by rw [← hOS, List.length_append]; rfl
     have hOSc : encO.all OS = encO.all os ++ #[.bool true, .int .i64 1, .string ⟨key.toArray⟩, .int .i64 tm, .int .i64 v, .string ⟨#[]⟩, .int .i64 0, .int .i64 0, .int .i64 0, .slice none 0 0].toList := by rw [← hOS, encO.all_app, encO.all_one]; exact congrArg _ hOMc
     have hOSm : OS.map (·.o) = os.map (·.o) ++ [lateO ⟨1, key, tm, v⟩] := by rw [← hOS, List.map_append, List.map_singleton, hOMo]
     have hOSw : ∀ y ∈ OS, Om.own y ∈ ((Value.slice none 0 0, []) :: HH) ++ G0 := by
      intro y hy; rw [← hOS] at hy; rcases List.mem_append.1 hy with h | h
      · rcases List.mem_append.1 (hoo.out y h) with h | h
        · exact List.mem_append_left _ (List.mem_cons_of_mem _ h)
        · exact List.mem_append_right _ h
      · rw [List.mem_singleton.1 h, hOMw]
        simp
     have hOSwh := zH hOSw; have hOSlh := zH hOSl; have hR8 := hR9h.out; simp only [Bool.false_eq_true, if_false] at hR8; rw [← hOSm] at hR8; have H7 := H6.pool_zero 8 rfl; rw [show encO.all os ++ #[.bool true, .int .i64 1, .string ⟨key.toArray⟩, .int .i64 tm, .int .i64 v, .string ⟨#[]⟩, .int .i64 0, .int .i64 0, .int .i64 0, .slice none 0 0].toList = encO.all OS from hOSc.symm, show os.length + 1 = OS.length from hOSl.symm] at H7; have H8 : zS w w6 [zaP qb kd sz sl lt ag kk, zfP sb mk va ms0.length vc, zeP xb key.toArray tm v, zgP rb, zdP ob on oa ha ot.length hc OX OY, zpP va ms0.length vc ms0 pa L.length pc L, zqP (wds ws) wa ws.length wsc, Row 63 10 (.slice (some ⟨g5, 0, none⟩) OS.length cap5) OS.length (encO.all OS), Pool ((.slice none 0 0, []) :: HH)] := H7; have hR8h := zH hR8; clear hR8 hR9h hOS hOSm hOSc hOMc hOMo hOMw hOM hOSw hOSl H6 H7 HM x0 x1 x2 x3 hz6 hoo
     by_cases hfull : 256 < L.length
     · have hfull2 : (256 : Int) < (L.length : Int) := by omega
       have hR7 := hR8h.out; rw [if_pos hfull] at hR7; have hfinh := zH hR7; clear hR7 hR8h; have y0 := H8.cell 1 0 rfl rfl; have y1 := H8.cell 1 1 rfl rfl; have r0 := H8.free 3 0 rfl; have r1 := H8.free 3 1 rfl; have x0 := H8.cell 3 0 rfl rfl; have x1 := H8.cell 3 1 rfl rfl; have HZ := (H8.set 3 rfl 0 (.int .i64 mk)).set 3 rfl 1 (.slice va ms0.length vc); go_wp2
       try simp only [Exit.inBlock, Exit.then]
       refine bodyPost_ret (results_ctt rfl rfl (blk_range (cs := [.int .i64 mk, .slice va ms0.length vc]) (HZ.blk 3 rfl)) Tryz.underlying45 rfl (by kernel_rfl)) rfl ?_
       rw [hfinh.out]; exact ⟨.slice va ms0.length vc, .slice none 0 0, ms0, [], [], rfl, rfl, rfl, (fun m hm => List.mem_append_right _ (hmlh.out m hm)), (fun y hy => by cases hy), (((HZ.pick []).pool_nil).row_nil 63 10).row_same 68 (.slice va ms0.length vc) ms0⟩
     · have hfull2 : ¬ (256 : Int) < (L.length : Int) := by omega
       have hR7 := hR8h.out; rw [if_neg hfull] at hR7; have hfinh := zH hR7; clear hR7 hR8h; have y0 := H8.cell 1 0 rfl rfl; have r0 := H8.free 3 0 rfl; have r1 := H8.free 3 1 rfl; have x0 := H8.cell 3 0 rfl rfl; have x1 := H8.cell 3 1 rfl rfl; have HZ := (H8.set 3 rfl 0 (.int .i64 mk)).set 3 rfl 1 (.slice pa L.length pc); go_wp2
       try simp only [Exit.inBlock, Exit.then]
       refine bodyPost_ret (results_ctt rfl rfl (blk_range (cs := [.int .i64 mk, .slice pa L.length pc]) (HZ.blk 3 rfl)) Tryz.underlying45 rfl (by kernel_rfl)) rfl ?_
       rw [hfinh.out]; exact ⟨.slice pa L.length pc, .slice (some ⟨g5, 0, none⟩) OS.length cap5, L, OS, ((Value.slice none 0 0, []) :: HH), (by rw [hOSlh.out]; rfl), rfl, rfl, fun m hm => (by rcases List.mem_append.1 (hmo.out m hm) with h | h; exact List.mem_append_left _ (List.mem_cons_of_mem _ h); exact List.mem_append_right _ h), hOSwh.out, HZ.pick [5, 7, 8]⟩
    | true =>
     have hR8 := hR9h.out; simp only [if_true] at hR8; have hR8h := zH hR8; clear hR8 hR9h; go_upto_region 47 with (fail)
     by_cases hfull : 256 < L.length
     · have hfull2 : (256 : Int) < (L.length : Int) := by omega
       have hR7 := hR8h.out; rw [if_pos hfull] at hR7; have hfinh := zH hR7; clear hR7 hR8h; have y0 := HM.cell 1 0 rfl rfl; have y1 := HM.cell 1 1 rfl rfl; have r0 := HM.free 3 0 rfl; have r1 := HM.free 3 1 rfl; have x0 := HM.cell 3 0 rfl rfl; have x1 := HM.cell 3 1 rfl rfl; have HZ := (HM.set 3 rfl 0 (.int .i64 mk)).set 3 rfl 1 (.slice va ms0.length vc); go_wp2
       try simp only [Exit.inBlock, Exit.then]
       refine bodyPost_ret (results_ctt rfl rfl (blk_range (cs := [.int .i64 mk, .slice va ms0.length vc]) (HZ.blk 3 rfl)) Tryz.underlying45 rfl (by kernel_rfl)) rfl ?_
       rw [hfinh.out]; exact ⟨.slice va ms0.length vc, .slice none 0 0, ms0, [], [], rfl, rfl, rfl, (fun m hm => List.mem_append_right _ (hmlh.out m hm)), (fun y hy => by cases hy), (((HZ.pick []).pool_nil).row_nil 63 10).row_same 68 (.slice va ms0.length vc) ms0⟩
     · have hfull2 : ¬ (256 : Int) < (L.length : Int) := by omega
       have hR7 := hR8h.out; rw [if_neg hfull] at hR7; have hfinh := zH hR7; clear hR7 hR8h; have y0 := HM.cell 1 0 rfl rfl; have r0 := HM.free 3 0 rfl; have r1 := HM.free 3 1 rfl; have x0 := HM.cell 3 0 rfl rfl; have x1 := HM.cell 3 1 rfl rfl; have HZ := (HM.set 3 rfl 0 (.int .i64 mk)).set 3 rfl 1 (.slice pa L.length pc); go_wp2
       try simp only [Exit.inBlock, Exit.then]
       refine bodyPost_ret (results_ctt rfl rfl (blk_range (cs := [.int .i64 mk, .slice pa L.length pc]) (HZ.blk 3 rfl)) Tryz.underlying45 rfl (by kernel_rfl)) rfl ?_
       rw [hfinh.out]; exact ⟨.slice pa L.length pc, .slice oo os.length oc, L, os, HH, rfl, rfl, rfl, hmo.out, hoo.out, HZ.pick [5, 7, 8]⟩
end Go.Proofs.YtiglgfonhdfpmaaGreat
