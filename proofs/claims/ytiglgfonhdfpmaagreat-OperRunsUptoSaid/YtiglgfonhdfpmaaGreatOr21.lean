import Derived.Test.YtiglgfonhdfpmaaGreatOr20
/- The document's mark. Conditions: the state is right, the time may be. (Printed by a program of mine.) -/
set_option linter.unusedVariables false
set_option linter.unusedSimpArgs false
set_option maxHeartbeats 16000000
set_option maxRecDepth 100000
namespace Go.Proofs.YtiglgfonhdfpmaaGreat
open Go.RowKit
def MarkOk (w : World) (G0 : List (Value × List Int)) (v0 : Value) (ms0 : List Pm) (R : Stt × List Ot) (e : Ending) (w' : World) : Prop :=
 ∃ pv ov ms os H, e = .returned (.tuple #[.agg #[.int .i64 R.1.mark, pv], ov]) ∧ ms.map (·.p) = R.1.panes ∧ os.map (·.o) = R.2 ∧ (∀ m ∈ ms, Pm.own m ∈ H ++ G0) ∧ (∀ y ∈ os, Om.own y ∈ H ++ G0) ∧
  zS w w' [RowO 68 v0 ms0 pv ms, zsP (encO.all os) ov os.length, Pool H]
def MkInv (q : Qry) (at1 : Int) (l0 cur : List Pn) (O : List Ot) : Prop :=
 (sortC (l0.filter (Pn.now at1))).map (fireO q) = O ++ (sortC (cur.filter (Pn.now at1))).map (fireO q) ∧ cur.map (Pn.fire at1) = l0.map (Pn.fire at1) ∧ cur.map (·.w) = l0.map (·.w) ∧ ∀ p ∈ cur, p.g.right q = true ∧ (0 ≤ p.round ∧ p.round ≤ 1073741824) ∧ p.w.right = true
theorem inv_len {q : Qry} {at1 : Int} {l0 cur : List Pn} {O : List Ot} (h : MkInv q at1 l0 cur O) : O.length + (cur.filter (Pn.now at1)).length ≤ l0.length := by
 have h1 := congrArg List.length h.1; rw [List.length_append, List.length_map, List.length_map, sortC_len, sortC_len] at h1; have := List.length_filter_le (Pn.now at1) l0
 omega
theorem ord_ne2 {l0 cur : List Pn} (h : Ord l0) (hw : cur.map (·.w) = l0.map (·.w)) : cur.Pairwise fun a b => a.w ≠ b.w := by
 have h1 : (l0.map (·.w)).Pairwise fun a b => a ≠ b := List.pairwise_map.2 (pair_mono (fun a b hab e => by rw [e, place_self] at hab; omega) h)
 rw [← hw] at h1; exact List.pairwise_map.1 h1
theorem inv_next {q : Qry} {at1 : Int} {l0 cur : List Pn} {O : List Ot} {k : Nat} {p : Pn} (ho : Ord l0) (h : MkInv q at1 l0 cur O) (hk : cur[k]? = some p) (hp : p.now at1 = true) (hb : ∀ (j : Nat) y, j < cur.length → cur[j]? = some y → y.now at1 = true → ¬ y.w.cmp p.w < 0) : MkInv q at1 l0 (cur.set k (p.fire at1)) (O ++ [fireO q p]) := by
 obtain ⟨h1, h2, h3, h4⟩ := h; obtain ⟨b1, b2, b3⟩ := best_take (ord_ne2 ho h3) hk hp (fun j y hy hn => hb j y (List.getElem?_eq_some_iff.1 hy).1 hy hn)
 refine ⟨?_, by rw [b2, h2], by rw [b3, h3], fun y hy => ?_⟩
 · rw [h1, b1, List.map_cons, List.append_assoc]
   rfl
 · rcases List.mem_or_eq_of_mem_set hy with hy | rfl
   · exact h4 y hy
   · obtain ⟨g1, g2, g3⟩ := h4 p (List.mem_of_getElem? hk); unfold Pn.fire; rw [if_pos hp]; exact ⟨g1, ⟨(by decide : (0 : Int) ≤ 1), (by decide : (1 : Int) ≤ 1073741824)⟩, g3⟩
def lenS : Value → Nat
 | .slice _ n _ => n
 | _ => 0
theorem gone_filter {q : Qry} {at1 : Int} (cur : List Pm) : cur.filter (fun m => !((cur.filter fun m => m.p.w.gone q at1).map (·.p.w)).contains m.p.w) = cur.filter fun m => !m.p.w.gone q at1 := by
 refine List.filter_congr fun m hm => ?_
 congr 1
 rw [Bool.eq_iff_iff, List.contains_iff_mem]
 constructor
 · intro h; obtain ⟨y, hy, e⟩ := List.mem_map.1 h; have := (List.mem_filter.1 hy).2; rw [← e]; exact this
 · intro h; exact List.mem_map.2 ⟨m, List.mem_filter.2 ⟨hm, h⟩, rfl⟩
abbrev zbsP (a0) (a1) (a2) (a3) (a4) (a5) (a6) := (Blk a0 #[.bool false, .int .i64 0, .string ⟨#[]⟩, .int .i64 0, .int .i64 0, .string ⟨a1⟩, .int .i64 a2, .int .i64 a3, .int .i64 1, .slice a4 a5 a6] 63 : SP)
theorem doc_mark (q : Qry) (mk at1 : Int) {pv0 : Value} (ms0 : List Pm) (G0 : List (Value × List Int)) (w : World) (hro : encP.RO w pv0 ms0) (hG : ∀ x ∈ G0, IntsRO w x.1 x.2) (hmo : ∀ m ∈ ms0, Pm.own m ∈ G0) (hs : Stt.right q ⟨mk, ms0.map (·.p)⟩ = true) :
    Calls Tryz.prog 128 #[qyV q, .agg #[.int .i64 mk, pv0], .int .i64 at1] w fun e w' => MarkOk w G0 pv0 ms0 (markM q ⟨mk, ms0.map (·.p)⟩ at1) e w' := by
 obtain ⟨hq, hmk, hlen, -, hord, -⟩ := right_parts hs; have hgood0 : GoodA q (ms0.map (·.p)) := right_good hs; simp only [List.length_map] at hmk hlen
 have hqb : 0 ≤ q.late ∧ q.late ≤ 1073741824 := by
  have h0 := hq; unfold Qry.right at h0; simp only [Bool.and_eq_true, decide_eq_true_eq] at h0
  omega
 have hlaw := zH (fun (cur : List Pn) (O : List Ot) (k : Nat) (p : Pn) (h : MkInv q at1 (ms0.map (·.p)) cur O) (hk : cur[k]? = some p) (hp : p.now at1 = true) (hb : ∀ (j : Nat) y, j < cur.length → cur[j]? = some y → y.now at1 = true → ¬ y.w.cmp p.w < 0) => inv_next (k := k) (p := p) hord h hk hp hb)
 have hinv0 : MkInv q at1 (ms0.map (·.p)) (ms0.map (·.p)) [] := ⟨rfl, rfl, rfl, hgood0⟩; have hinv0h := zH hinv0
 have hMk : markM q ⟨mk, ms0.map (·.p)⟩ at1 = if at1 ≤ mk then (⟨mk, ms0.map (·.p)⟩, []) else (⟨at1, ((ms0.map (·.p)).map (Pn.fire at1)).filter fun p => !p.w.gone q at1⟩, (sortC ((ms0.map (·.p)).filter (Pn.now at1))).map (fireO q)) := rfl
 obtain ⟨R, hR⟩ := zNm (markM q ⟨mk, ms0.map (·.p)⟩ at1); rw [hR] at hMk ⊢; have hMkh := zH hMk; have kvl := zH (fun (g : Ag) (h : Value) w' (a : IntsRO w' h g.top) (c : g.right q = true) => doc_valp q g w' a c)
 have kgn := zH (fun (x : Wd) w' (h : x.right = true) => doc_gone q x at1 (by have := right_iff.1 h; omega) w')
 have hngo := zH (fun (x : Wd) (h : x.right = true) => gone_right (q := q) (mk := at1) hq h)
 have hmlh := zH hmo; have hroh := zH hro; have hGh := zH hG
 obtain ⟨knil, knew⟩ : (∀ ad cp, pv0 = .slice ad ms0.length cp → ad = none → ms0.length = 0) ∧ (∀ w' (hk : Kept (fun _ => False) w w') ad cp, pv0 = .slice ad ms0.length cp → ∀ a1, ad = some a1 → ∀ (j : Nat) u, (encP.all ms0)[j]? = some u → w'.cell? (a1.add j) = some u) := by
  refine ⟨fun ad cp e e2 => ?_, fun w' hk ad cp e a1 e2 j u hj => ?_⟩
  · obtain ⟨ad', cp', e', n1, -⟩ := Enc.RO.cells hro; rw [e] at e'; cases e'; rw [n1 e2]
    rfl
  · obtain ⟨ad', cp', e', -, n2⟩ := Enc.RO.cells (hro.later hk); rw [e] at e'; cases e'; exact n2 a1 e2 j u hj
 obtain ⟨va, vc, rfl, -, -⟩ := hro; have knilh := zH (fun h => knil va vc rfl h)
 have knewh := zH (fun w' hk a1 h => knew w' hk va vc rfl a1 h)
 clear knil knew hR hMk hord hs hmo hG hgood0 hinv0; obtain ⟨qq, hqq⟩ : ∃ z, z = q := ⟨_, rfl⟩; have hqqh := zH hqq; rw [← hqq] at hlaw hinv0h hMkh kvl kgn hngo hq; clear hqq hq; obtain ⟨kd, sz, sl, lt, ag, kk⟩ := q; have hqv : qyV qq = .agg #[.int .i64 kd, .int .i64 sz, .int .i64 sl, .int .i64 lt, .int .i64 ag, .int .i64 kk] := by rw [hqqh.out]
 rw [hqv] at kvl kgn; have hlt : qq.late = lt := by rw [hqqh.out]
 have hlth := zH hlt; clear hqv hlt; unfold qyV qyC; simp only at hqb ⊢; have H1 : zS w _ [_] := (St.nil _ w).allocAt rfl #[.int .i64 kd, .int .i64 sz, .int .i64 sl, .int .i64 lt, .int .i64 ag, .int .i64 kk] 23; have H2 : zS w _ [_, _] := H1.allocAt (B := w.heap.size + 1) (Array.size_push _) #[.int .i64 mk, .slice va ms0.length vc] 45; have H3 : zS w _ [_, _, _] := H2.allocAt (B := w.heap.size + 1 + 1) (by simp [Array.size_push]) #[.int .i64 0, .slice none 0 0] 45
 go_enter Tryz.func128, Tryz.ntmps128
 go_upto_region 1 with (fail)
 obtain ⟨qb, hqb1⟩ := zNm w.heap.size; obtain ⟨sb, hsb⟩ := zNm (qb + 1); obtain ⟨rb, hrb⟩ := zNm (sb + 1); simp only [hqb1, hsb, hrb] at H3 ⊢; obtain ⟨w1, hw1⟩ := zNm (((w.alloc (.cells #[.int .i64 kd, .int .i64 sz, .int .i64 sl, .int .i64 lt, .int .i64 ag, .int .i64 kk] 23)).alloc (.cells #[.int .i64 mk, .slice va ms0.length vc] 45)).alloc (.cells #[.int .i64 0, .slice none 0 0] 45)); rw [hw1] at H3; rw [hw1]; have H5 : zS w w1 [zaP qb kd sz sl lt ag kk, zfP sb mk va ms0.length vc, zgP rb] := H3.pick [2, 1, 0]; have hqbh := zH hqb1; clear hw1 hqb1 hsb hrb H1 H2 H3; have s0 := H5.cell 1 0 rfl rfl; have s1 := H5.cell 1 1 rfl rfl
 by_cases hat : at1 ≤ mk
 · have z1 : decide (at1 ≤ mk) = true := by simpa using hat
   have hfin := hMkh.out; rw [if_pos hat] at hfin; have hfinh := zH hfin; clear hfin hMkh; have r0 := H5.free 2 0 rfl; have r1 := H5.free 2 1 rfl; have x0 := H5.cell 2 0 rfl rfl; have x1 := H5.cell 2 1 rfl rfl; have HZ := (H5.set 2 rfl 0 (.int .i64 mk)).set 2 rfl 1 (.slice va ms0.length vc); go_wp2
   try simp only [Exit.inBlock, Exit.then]
   refine bodyPost_ret (results_agt rfl rfl (blk_range (cs := [.int .i64 mk, .slice va ms0.length vc]) (HZ.blk 2 rfl)) Tryz.underlying45 rfl (by kernel_rfl)) rfl ?_
   rw [hfinh.out]; exact ⟨.slice va ms0.length vc, .slice none 0 0, ms0, [], [], rfl, rfl, rfl, (fun m hm => List.mem_append_right _ (hmlh.out m hm)), (fun y hy => by cases hy), (((HZ.pick []).pool_nil).row_nil 63 10).row_same 68 (.slice va ms0.length vc) ms0⟩
 · have z1 : decide (at1 ≤ mk) = false := by simpa using hat
   have hfin := hMkh.out; rw [if_neg hat] at hfin; have hfinh := zH hfin; clear hfin hMkh hat; go_upto_region 3 with (fail)
   obtain ⟨eb, heb⟩ := zNm w1.heap.size; have HE : zS w _ [Row 68 8 (.slice (some ⟨eb, 0, none⟩) 0 0) 0 [], zaP qb kd sz sl lt ag kk, zfP sb mk va ms0.length vc, zgP rb] := (H5.allocAt heb #[] 68).blk_row 0 (e := 68) (size := 8) (cap := 0) (n := 0) (cs := []) (xs := []) rfl (Nat.le_refl _) (by decide) rfl rfl
   have s1b := HE.cell 2 1 rfl rfl; go_upto_region 4 with (at_builtin; go_must (refine St.list_add HE 0 rfl rfl (.tmp 21) (.tmp 23) 43 rfl Tryz.underlying43 Tryz.info68 (by decide) rfl (encP.all ms0) rfl (encP.all_len ms0) (fun e => knilh.out e) (fun ad e j u hj => knewh.out _ HE.kept ad e j u hj) (encP.all_one1 ms0) (by omega) ?_; intro v3 w3 HF0 hz3))
   simp only [Nat.zero_add, List.nil_append] at HF0; obtain ⟨la, lc, rfl, -, hla⟩ := slice_form' (HF0.row 0 rfl); have hlah := zH hla; clear s1b s0 s1 hz3 HE heb H5 hla; have HF : zS w w3 [zaP qb kd sz sl lt ag kk, zfP sb mk va ms0.length vc, zgP rb, znP (encP.all ms0) la ms0.length lc, Row 63 10 (.slice none 0 0) 0 (encO.all []), Pool []] := ((HF0.row_nil 63 10).pool_nil).pick [3, 4, 5, 2, 1, 0]; clear HF0
   go_upto_block 1 with (fail)
   go_loopw [9, 10, 11, 12] (fun u9 _ _ _ wr => ∃ (cur : List Pm) (os : List Om) (HH : List (Value × List Int)) (oo : Option Addr) (oc : Nat), u9 = .slice oo os.length oc ∧ Hid (MkInv qq at1 (ms0.map (·.p)) (cur.map (·.p)) (os.map (·.o))) ∧ Hid (cur.length = ms0.length) ∧ Hid (∀ m ∈ cur, Pm.own m ∈ HH ++ G0) ∧ Hid (∀ y ∈ os, Om.own y ∈ HH ++ G0) ∧ os.length ≤ ms0.length ∧ zS w wr [zaP qb kd sz sl lt ag kk, zfP sb mk va ms0.length vc, zgP rb, znP (encP.all cur) la ms0.length lc, zlP (encO.all os) oo os.length oc, Pool HH]) (fun u9 _ _ _ _ => ms0.length - lenS u9)
   case atStart => exact ⟨ms0, [], [], none, 0, rfl, hinv0h, zH rfl, zH (fun m hm => hmlh.out m hm), zH (fun y hy => by cases hy), by simp, HF⟩
   case round =>
    clear HF hinv0h; obtain ⟨cur, os, HH, oo, oc, rfl, hinv, hcl, hco, hoo, hol, HM⟩ := hrel
    go_upto_block 3 with (fail)
    go_loopw [10, 11, 12, 27] (fun u10 _ _ u27 wr => ∃ (j : Nat) (bb : Int), j ≤ ms0.length ∧ u10 = .int .i64 bb ∧ u27 = .int .i64 j ∧ Hid (BestAt at1 (cur.map (·.p)) j bb) ∧ zS w wr [zaP qb kd sz sl lt ag kk, zfP sb mk va ms0.length vc, zgP rb, znP (encP.all cur) la ms0.length lc, zlP (encO.all os) oo os.length oc, Pool HH]) (fun _ _ _ u27 _ => ms0.length - (intOf u27).toNat)
    case atStart => exact ⟨0, -1, by omega, rfl, rfl, zH (best_zero _ _), HM⟩
    case round =>
     clear HM; obtain ⟨j, bb, hj, rfl, rfl, hbest, HM⟩ := hrel
     by_cases hlt : j < ms0.length
     · obtain ⟨lg, rfl⟩ := hlah.out (by omega)
       obtain ⟨m, hm⟩ : ∃ m, cur[j]? = some m := ⟨_, List.getElem?_eq_getElem (by rw [hcl.out]; exact hlt)⟩
       obtain ⟨q0, q1, q2, q3, q4, q5, q6, q7⟩ := pn_row (HM.row 3 rfl) hm; have hmp : (cur.map (·.p))[j]? = some m.p := by rw [List.getElem?_map, hm]; rfl
       have hmg := hinv.out.2.2.2 m.p (List.mem_of_getElem? hmp)
       have hnow : Pn.now at1 m.p = ((m.p.round == 0) && decide (m.p.w.to ≤ at1)) := by
        unfold Pn.now; rw [ripe_right hmg.2.2]
        congr 1
       have hj2 : (j : Int) < (ms0.length : Int) := by omega
       obtain ⟨M, hM⟩ : ∃ z, z = m := ⟨_, rfl⟩; have hMh := zH hM; rw [← hM] at hmp; have hmph := zH hmp; clear hM hm hmg hmp; obtain ⟨⟨⟨xk, xf, xt⟩, ⟨zn, za, zt, zx, zy⟩, xr⟩, xa, xc⟩ := m; have hMw : M.p.w = ⟨xk, xf, xt⟩ := by rw [hMh.out]
       have hMwh := zH hMw; rw [← hMh.out] at hnow; have hnow2 : Pn.now at1 M.p = ((xr == 0) && decide (xt ≤ at1)) := by rw [hnow, hMh.out]
       have hnowh := zH hnow2; unfold textV at q0; unfold Pm.hd at q5; simp only at q0 q1 q2 q3 q4 q5 q6 q7; clear hMw hnow hnow2; obtain ⟨ZX, hZX⟩ := zNm (ib zx); obtain ⟨ZY, hZY⟩ := zNm (ib zy); simp only [hZX, hZY] at q6; clear hZX hZY; have HA : zS w _ (_ :: _) := HM.allocAt rfl #[.string ⟨xk.toArray⟩, .int .i64 xf, .int .i64 xt, .int .i64 zn, .int .i64 za, .slice xa zt.length xc, .complex .f64 ZX ZY, .int .i64 xr] 68; go_upto_region 9 with (fail)
       obtain ⟨wb5, hwb⟩ := zNm (wr.alloc (.cells #[.string ⟨xk.toArray⟩, .int .i64 xf, .int .i64 xt, .int .i64 zn, .int .i64 za, .slice xa zt.length xc, .complex .f64 ZX ZY, .int .i64 xr] 68)); obtain ⟨eb, heb⟩ := zNm wr.heap.size; rw [hwb, heb] at HA; (try rw [hwb]); (try simp only [heb]); have HB : zS w wb5 [zbP eb xk.toArray xf xt zn za xa zt.length xc ZX ZY xr, zaP qb kd sz sl lt ag kk, zfP sb mk va ms0.length vc, zgP rb, zzP (encP.all cur) lg ms0.length lc, zlP (encO.all os) oo os.length oc, Pool HH] := HA; clear hwb heb q0 q1 q2 q3 q4 q5 q6 q7 HM HA
       go_cut [56] from 32 to 55 (fun b wx => ∃ B : Bool, b = .bool B ∧ Hid (BestAt at1 (cur.map (·.p)) (j + 1) (if B = true then (j : Int) else bb)) ∧ zS w wx [zbP eb xk.toArray xf xt zn za xa zt.length xc ZX ZY xr, zaP qb kd sz sl lt ag kk, zfP sb mk va ms0.length vc, zgP rb, zzP (encP.all cur) lg ms0.length lc, zlP (encO.all os) oo os.length oc, Pool HH])
       case first =>
        by_cases hz : xr = 0
        · have n1 : (xr == 0) = true := by simpa using hz
          by_cases ht : xt ≤ at1
          · have n2 : decide (xt ≤ at1) = true := by simpa using ht
            have hnow : Pn.now at1 M.p = true := by rw [hnowh.out, n1, n2]; rfl
            rcases hbest.out with ⟨rfl, hb1⟩ | ⟨k, bp, rfl, hk1, hk2, hk3, hk4⟩
            · have hlaw := best_first (m := at1) (cur := cur.map (·.p)) (n := j) (.inl ⟨rfl, hb1⟩) hmph.out hnow; have hlawh := zH hlaw; clear hlaw hz ht hnow hb1; refine wp_calm (fun w' => zS w w' [zbP eb xk.toArray xf xt zn za xa zt.length xc ZX ZY xr, zaP qb kd sz sl lt ag kk, zfP sb mk va ms0.length vc, zgP rb, zzP (encP.all cur) lg ms0.length lc, zlP (encO.all os) oo os.length oc, Pool HH]) (by kernel_rfl) (by kernel_rfl) (HB.drew) ?_
              iterate 25 first | (apply calm_pass; rfl; intro K hK; go_simp; refine hK _ ?_; clear hK K) | (apply calm_step; rfl; (focus (intro w1 h1; have z0 := h1.cell 0 0 rfl rfl; have z1 := h1.cell 0 1 rfl rfl; have z2 := h1.cell 0 2 rfl rfl; have z7 := h1.cell 0 7 rfl rfl; first | (go_simp; first | rfl | exact ⟨rfl, h1⟩))); intro K hK; go_simp; refine hK _ ?_; clear hK K)
              refine calm_nil ?_; intro w6 H6; go_wp2; go_meet; exact ⟨true, rfl, zH hlawh.out, H6⟩
            · obtain ⟨mb, hmb, rfl⟩ : ∃ m, cur[k]? = some m ∧ m.p = bp := by
               rw [List.getElem?_map] at hk2; exact Option.map_eq_some_iff.1 hk2
              have hkeep := fun (h : ¬ M.p.w.cmp mb.p.w < 0) => best_keep (m := at1) (cur := cur.map (·.p)) (n := j) (k := k) (.inr ⟨k, mb.p, rfl, hk1, hk2, hk3, hk4⟩) hmph.out hk2 h
              have hless := fun (h : M.p.w.cmp mb.p.w < 0) => best_less (m := at1) (cur := cur.map (·.p)) (n := j) (k := k) (.inr ⟨k, mb.p, rfl, hk1, hk2, hk3, hk4⟩) hmph.out hnow hk2 h
              rw [hMwh.out] at hkeep hless; have kc := fun w' => ref_cmp ⟨xk, xf, xt⟩ mb.p.w w'
              obtain ⟨cc, hcc⟩ := zNm ((⟨xk, xf, xt⟩ : Wd).cmp mb.p.w); rw [hcc] at hkeep hless; simp only [hcc] at kc; have hkeeph := zH hkeep; have hlessh := zH hless; have hbm := zH hmb; have nk : ¬ ((k : Nat) : Int) < 0 := by omega
              have nk2 : ((k : Nat) : Int) < (ms0.length : Int) := by omega
              clear hkeep hless hcc hmb hk2 hk3 hk4 hz ht hnow; obtain ⟨⟨⟨vk, vf, vt⟩, vg, vr⟩, ba, bc⟩ := mb; unfold wdV wdC textV at kc; simp only at kc
              by_cases hc0 : cc < 0
              · have n3 : decide (cc < 0) = true := by simpa using hc0
                have hlawh := zH (hlessh.out hc0); clear hc0; refine wp_calm (fun w' => zS w w' [zbP eb xk.toArray xf xt zn za xa zt.length xc ZX ZY xr, zaP qb kd sz sl lt ag kk, zfP sb mk va ms0.length vc, zgP rb, zzP (encP.all cur) lg ms0.length lc, zlP (encO.all os) oo os.length oc, Pool HH]) (by kernel_rfl) (by kernel_rfl) (HB.drew) ?_
                iterate 25 first | (apply calm_pass; rfl; intro K hK; go_simp; refine hK _ ?_; clear hK K) | (apply calm_step; rfl; (focus (intro w1 h1; have z0 := h1.cell 0 0 rfl rfl; have z1 := h1.cell 0 1 rfl rfl; have z2 := h1.cell 0 2 rfl rfl; have z7 := h1.cell 0 7 rfl rfl; obtain ⟨y0, y1, y2, -, -, -, -, -⟩ := pn_row (h1.row 4 rfl) hbm.out; unfold textV at y0; simp only at y0 y1 y2; first | (go_simp; first | rfl | exact ⟨rfl, h1⟩ | (go_at_call 158; with_reducible exact St.callPast (kc w1) h1)))); intro K hK; go_simp; refine hK _ ?_; clear hK K)
                refine calm_nil ?_; intro w6 H6; go_wp2; go_meet; exact ⟨true, rfl, zH hlawh.out, H6⟩
              · have n3 : decide (cc < 0) = false := by simpa using hc0
                have hlawh := zH (hkeeph.out hc0); clear hc0; refine wp_calm (fun w' => zS w w' [zbP eb xk.toArray xf xt zn za xa zt.length xc ZX ZY xr, zaP qb kd sz sl lt ag kk, zfP sb mk va ms0.length vc, zgP rb, zzP (encP.all cur) lg ms0.length lc, zlP (encO.all os) oo os.length oc, Pool HH]) (by kernel_rfl) (by kernel_rfl) (HB.drew) ?_
                iterate 25 first | (apply calm_pass; rfl; intro K hK; go_simp; refine hK _ ?_; clear hK K) | (apply calm_step; rfl; (focus (intro w1 h1; have z0 := h1.cell 0 0 rfl rfl; have z1 := h1.cell 0 1 rfl rfl; have z2 := h1.cell 0 2 rfl rfl; have z7 := h1.cell 0 7 rfl rfl; obtain ⟨y0, y1, y2, -, -, -, -, -⟩ := pn_row (h1.row 4 rfl) hbm.out; unfold textV at y0; simp only at y0 y1 y2; first | (go_simp; first | rfl | exact ⟨rfl, h1⟩ | (go_at_call 158; with_reducible exact St.callPast (kc w1) h1)))); intro K hK; go_simp; refine hK _ ?_; clear hK K)
                refine calm_nil ?_; intro w6 H6; go_wp2; go_meet; exact ⟨false, rfl, zH hlawh.out, H6⟩
          · have n2 : decide (xt ≤ at1) = false := by simpa using ht
            have hlawh := zH (best_no hbest.out hmph.out (by rw [hnowh.out, n1, n2]; rfl))
            clear hz ht; refine wp_calm (fun w' => zS w w' [zbP eb xk.toArray xf xt zn za xa zt.length xc ZX ZY xr, zaP qb kd sz sl lt ag kk, zfP sb mk va ms0.length vc, zgP rb, zzP (encP.all cur) lg ms0.length lc, zlP (encO.all os) oo os.length oc, Pool HH]) (by kernel_rfl) (by kernel_rfl) (HB.drew) ?_
            iterate 25 first | (apply calm_pass; rfl; intro K hK; go_simp; refine hK _ ?_; clear hK K) | (apply calm_step; rfl; (focus (intro w1 h1; have z0 := h1.cell 0 0 rfl rfl; have z1 := h1.cell 0 1 rfl rfl; have z2 := h1.cell 0 2 rfl rfl; have z7 := h1.cell 0 7 rfl rfl; first | (go_simp; first | rfl | exact ⟨rfl, h1⟩))); intro K hK; go_simp; refine hK _ ?_; clear hK K)
            refine calm_nil ?_; intro w6 H6; go_wp2; go_meet; exact ⟨false, rfl, zH hlawh.out, H6⟩
        · have n1 : (xr == 0) = false := by simpa using hz
          have hlawh := zH (best_no hbest.out hmph.out (by rw [hnowh.out, n1]; rfl))
          clear hz; refine wp_calm (fun w' => zS w w' [zbP eb xk.toArray xf xt zn za xa zt.length xc ZX ZY xr, zaP qb kd sz sl lt ag kk, zfP sb mk va ms0.length vc, zgP rb, zzP (encP.all cur) lg ms0.length lc, zlP (encO.all os) oo os.length oc, Pool HH]) (by kernel_rfl) (by kernel_rfl) (HB.drew) ?_
          iterate 25 first | (apply calm_pass; rfl; intro K hK; go_simp; refine hK _ ?_; clear hK K) | (apply calm_step; rfl; (focus (intro w1 h1; have z0 := h1.cell 0 0 rfl rfl; have z1 := h1.cell 0 1 rfl rfl; have z2 := h1.cell 0 2 rfl rfl; have z7 := h1.cell 0 7 rfl rfl; first | (go_simp; first | rfl | exact ⟨rfl, h1⟩))); intro K hK; go_simp; refine hK _ ?_; clear hK K)
          refine calm_nil ?_; intro w6 H6; go_wp2; go_meet; exact ⟨false, rfl, zH hlawh.out, H6⟩
       case rest =>
        obtain ⟨B, rfl, hb2, HC⟩ := hcut; clear HB hbest
        cases B with
        | true =>
         have hb3 := hb2.out; simp only [if_true] at hb3; have hb3h := zH hb3; clear hb2 hb3; go_wp2; go_roundw
         case rel => exact ⟨j + 1, j, by omega, rfl, by go_num, hb3h, HC.pick [1, 2, 3, 4, 5, 6]⟩
         case measure => simp [intOf]; omega
        | false =>
         have hb3 := hb2.out; simp only [Bool.false_eq_true, if_false] at hb3; have hb3h := zH hb3; clear hb2 hb3; go_wp2; go_roundw
         case rel => exact ⟨j + 1, bb, by omega, rfl, by go_num, hb3h, HC.pick [1, 2, 3, 4, 5, 6]⟩
         case measure => simp [intOf]; omega
     · obtain rfl : j = ms0.length := by omega
       have hb2 := hbest.out; have hcl2 : (cur.map (·.p)).length = ms0.length := by rw [List.length_map, hcl.out]
       rw [← hcl2] at hb2; have hmeas := inv_len hinv.out; simp only [List.length_map] at hmeas; have hb4 := hb2; rcases hb2 with ⟨rfl, hb3⟩ | ⟨k, p, rfl, hk1, hk2, hk3, hk4⟩
       · obtain ⟨e1, e2⟩ := best_none hb4; have hall : (sortC ((ms0.map (·.p)).filter (Pn.now at1))).map (fireO qq) = os.map (·.o) := by rw [hinv.out.1, e1]; simp [sortC]
         have hpan : (ms0.map (·.p)).map (Pn.fire at1) = cur.map (·.p) := by rw [← hinv.out.2.1, e2]
         have hallh := zH hall; have hpanh := zH hpan; have hcg := zH (fun (m : Pm) (hm : m ∈ cur) => (hinv.out.2.2.2 m.p (List.mem_map_of_mem hm)).2.2)
         clear e1 e2 hall hpan hb3 hb4 hcl2 hmeas hbest; have HG := HM.row_nil 61 3
         go_upto_block 3 with (fail)
         go_loopw [13, 15, 83] (fun u13 _ u83 wr => ∃ (n : Nat) (D : List Wd) (da : Option Addr) (dc : Nat), n ≤ ms0.length ∧ u13 = .slice da D.length dc ∧ u83 = .int .i64 n ∧ Hid (D = ((cur.take n).filter fun m => m.p.w.gone qq at1).map (·.p.w)) ∧ D.length ≤ n ∧ zS w wr [zqP (wds D) da D.length dc, zaP qb kd sz sl lt ag kk, zfP sb mk va ms0.length vc, zgP rb, znP (encP.all cur) la ms0.length lc, zlP (encO.all os) oo os.length oc, Pool HH]) (fun _ _ u83 _ => ms0.length - (intOf u83).toNat)
         case atStart => exact ⟨0, [], none, 0, by omega, rfl, rfl, zH (by simp), by simp, HG⟩
         case round =>
          clear HG HM; obtain ⟨n, D, da, dc, hn, rfl, rfl, hD, hDl, HM⟩ := hrel
          by_cases hlt3 : n < ms0.length
          · obtain ⟨lg, rfl⟩ := hlah.out (by omega)
            obtain ⟨m, hm⟩ : ∃ m, cur[n]? = some m := ⟨_, List.getElem?_eq_getElem (by rw [hcl.out]; exact hlt3)⟩
            obtain ⟨q0, q1, q2, q3, q4, q5, q6, q7⟩ := pn_row (HM.row 4 rfl) hm; have hmr := hcg.out m (List.mem_of_getElem? hm); have kg := fun w' => kgn.out m.p.w w' hmr
            have hgd := hngo.out m.p.w hmr; rw [hlth.out] at hgd; simp only [hlth.out, ← hgd] at kg
            have hDn : ((cur.take (n + 1)).filter fun m => m.p.w.gone qq at1).map (·.p.w) = D ++ (if m.p.w.gone qq at1 = true then [m.p.w] else []) := by
             rw [take_snoc' hm, List.filter_append, List.map_append, ← hD.out]
             by_cases hg : m.p.w.gone qq at1 = true
             · simp [hg]
             · simp [hg]
            obtain ⟨gn, hgn⟩ := zNm (m.p.w.gone qq at1); simp only [hgn] at kg hDn; have hDnh := zH hDn; have hj2 : (n : Int) < (ms0.length : Int) := by omega
            clear hm hmr hgd hDn hgn; obtain ⟨⟨⟨xk, xf, xt⟩, ⟨zn, za, zt, zx, zy⟩, xr⟩, xa, xc⟩ := m; unfold wdV wdC textV at kg; unfold textV at q0; unfold Pm.hd at q5; simp only at q0 q1 q2 q3 q4 q5 q6 q7 kg hDnh; obtain ⟨ZX, hZX⟩ := zNm (ib zx); obtain ⟨ZY, hZY⟩ := zNm (ib zy); simp only [hZX, hZY] at q6; clear hZX hZY; have HA : zS w _ (_ :: _) := HM.allocAt rfl #[.string ⟨xk.toArray⟩, .int .i64 xf, .int .i64 xt, .int .i64 zn, .int .i64 za, .slice xa zt.length xc, .complex .f64 ZX ZY, .int .i64 xr] 68; go_upto_region 19 with (fail)
            obtain ⟨wb5, hwb⟩ := zNm (wr.alloc (.cells #[.string ⟨xk.toArray⟩, .int .i64 xf, .int .i64 xt, .int .i64 zn, .int .i64 za, .slice xa zt.length xc, .complex .f64 ZX ZY, .int .i64 xr] 68)); obtain ⟨eb, heb⟩ := zNm wr.heap.size; rw [hwb, heb] at HA; (try rw [hwb]); (try simp only [heb]); have HB : zS w wb5 [zbP eb xk.toArray xf xt zn za xa zt.length xc ZX ZY xr, zqP (wds D) da D.length dc, zaP qb kd sz sl lt ag kk, zfP sb mk va ms0.length vc, zgP rb, zzP (encP.all cur) lg ms0.length lc, zlP (encO.all os) oo os.length oc, Pool HH] := HA; clear hwb heb q0 q1 q2 q3 q4 q5 q6 q7 HM HA; have z0 := HB.cell 0 0 rfl rfl; have z1 := HB.cell 0 1 rfl rfl; have z2 := HB.cell 0 2 rfl rfl; have d0 := HB.cell 2 0 rfl rfl; have d1 := HB.cell 2 1 rfl rfl; have d2 := HB.cell 2 2 rfl rfl; have d3 := HB.cell 2 3 rfl rfl; have d4 := HB.cell 2 4 rfl rfl; have d5 := HB.cell 2 5 rfl rfl
            cases gn with
            | false =>
             go_wp2_with (go_at_call 178; go_must (refine (St.callPast (kg _) HB).mono ?_; rintro e w6 ⟨rfl, H6⟩))
             go_roundw
             case rel => exact ⟨n + 1, D, da, dc, by omega, rfl, by go_num, zH (by rw [hDnh.out]; simp), by omega, H6.pick [1, 2, 3, 4, 5, 6, 7]⟩
             case measure => simp [intOf]; omega
            | true =>
             go_upto_region 20 with (go_at_call 178; go_must (refine (St.callPast (kg _) HB).mono ?_; rintro e w6 ⟨rfl, H6⟩))
             clear HB z0 z1 z2 d0 d1 d2 d3 d4 d5; have z0 := H6.cell 0 0 rfl rfl; have z1 := H6.cell 0 1 rfl rfl; have z2 := H6.cell 0 2 rfl rfl
             go_wp2_with (at_builtin; go_must (refine St.list_app (H6.skip _) 1 rfl rfl (.tmp 92) (.tmp 95) 145 rfl Tryz.underlying145 Tryz.info61 (by decide) rfl [.string ⟨xk.toArray⟩, .int .i64 xf, .int .i64 xt] rfl rfl (new_cells #[.string ⟨xk.toArray⟩, .int .i64 xf, .int .i64 xt] _) (by simp [Value.oneCell']) (by omega) (by omega) ?_; intro g5 cap5 w7 H7 hz7))
             go_roundw
             case rel =>
              refine ⟨n + 1, D ++ [⟨xk, xf, xt⟩], some ⟨g5, 0, none⟩, cap5, by omega, by rw [List.length_append]; rfl, by go_num, zH (by rw [hDnh.out]; rfl), by rw [List.length_append]; simp; omega, ?_⟩
              rw [wds_app, wds_one, List.length_append]; exact St.pick (l := [_, _, _, _, _, _, _, _]) H7 [1, 2, 3, 4, 5, 6, 7]
             case measure => simp [intOf]; omega
          · obtain rfl : n = ms0.length := by omega
            have hD2 := hD.out; rw [← hcl.out, List.take_length] at hD2; have hwo := gone_filter (q := qq) (at1 := at1) cur; rw [← hD2] at hwo
            have hDfit : ∀ x ∈ D, x.fits := fun x hx => by
             rw [hD2] at hx; obtain ⟨m, hm, rfl⟩ := List.mem_map.1 hx; exact fits_right (hcg.out m (List.mem_filter.1 hm).1)
            have hcur : cur.length ≤ 256 := by rw [hcl.out]; exact hlen
            have kwo := ref_without (w := wr) (Enc.own encP (HM.row 4 rfl) hcl.out.symm) (wds_own (HM.row 0 rfl) hDfit) (by omega) (by omega)
            rw [hwo] at kwo; obtain ⟨F, hF⟩ := zNm ((cur.filter fun m => !m.p.w.gone qq at1))
            have hFm : ∀ m ∈ F, Pm.own m ∈ HH ++ G0 := by rw [← hF]; exact fun m hm => hco.out m (List.mem_filter.1 hm).1
            have hFp : F.map (·.p) = ((ms0.map (·.p)).map (Pn.fire at1)).filter fun p => !p.w.gone qq at1 := by rw [hpanh.out, ← hF, List.filter_map]; rfl
            rw [hF] at kwo; have hFph := zH hFp; have hFmh := zH hFm; clear hD2 hwo hDfit hF hFp hFm hD hcur; have x0 := HM.cell 3 0 rfl rfl; have x1 := HM.cell 3 1 rfl rfl; have r0 := HM.free 3 0 rfl; have r1 := HM.free 3 1 rfl
            go_wp2_with (go_at_call 190; go_must (refine kwo.mono ?_; rintro e w6 ⟨v5, rfl, G1⟩; obtain ⟨fa, fc, rfl, -, -⟩ := slice_form' (G1.row 0 rfl); have H6 : zS w w6 [znP (encP.all F) fa F.length fc, zqP (wds D) da D.length dc, zaP qb kd sz sl lt ag kk, zfP sb mk va ms0.length vc, zgP rb, znP (encP.all cur) la ms0.length lc, zlP (encO.all os) oo os.length oc, Pool HH] := HM.call0 G1; clear x0 x1 r0 r1; have x0 := H6.cell 4 0 rfl rfl; have x1 := H6.cell 4 1 rfl rfl; have r0 := H6.free 4 0 rfl; have r1 := H6.free 4 1 rfl))
            have HZ := (H6.set 4 rfl 0 (.int .i64 at1)).set 4 rfl 1 (.slice fa F.length fc)
            try simp only [Exit.inBlock, Exit.then]
            refine bodyPost_ret (results_agt rfl rfl (blk_range (cs := [.int .i64 at1, .slice fa F.length fc]) (HZ.blk 4 rfl)) Tryz.underlying45 rfl (by kernel_rfl)) rfl ?_
            rw [hfinh.out]; exact ⟨.slice fa F.length fc, .slice oo os.length oc, F, os, HH, rfl, hFph.out, hallh.out.symm, hFmh.out, hoo.out, (HZ.pick [0, 6, 7]).row_new (.slice va ms0.length vc) ms0⟩
       · obtain ⟨mb, hmb, rfl⟩ : ∃ m, cur[k]? = some m ∧ m.p = p := by
          rw [List.getElem?_map] at hk2; exact Option.map_eq_some_iff.1 hk2
         rw [hcl2] at hk1; have hpos : 0 < ((cur.map (·.p)).filter (Pn.now at1)).length := List.length_pos_of_mem (List.mem_filter.2 ⟨List.mem_of_getElem? hk2, hk3⟩); have hol2 : os.length < ms0.length := by omega
         have hnext := hlaw.out (cur.map (·.p)) (os.map (·.o)) k mb.p hinv.out hk2 hk3 (fun j y g1 g2 g3 => by have := hk4 j y g1 g2 g3; omega)
         have hgr := (hinv.out.2.2.2 mb.p (List.mem_of_getElem? hk2)).1; have hin := hco.out mb (List.mem_of_getElem? hmb); have hfire : (⟨mb.p.w, mb.p.g, 1⟩ : Pn) = mb.p.fire at1 := by unfold Pn.fire; rw [if_pos hk3]
         obtain ⟨lg, rfl⟩ := hlah.out (by omega)
         obtain ⟨g9, cap9, R9, e9, n1, n2, n3, n4, HW⟩ := HM.row_blk 3 rfl (by omega)
         cases e9; obtain ⟨m2, hm2⟩ : ∃ z : Pm, z = ⟨⟨mb.p.w, mb.p.g, 1⟩, mb.ad, mb.cap⟩ := ⟨_, rfl⟩; have hset := encP.set1 (R := R9) (x' := m2) (v := .int .i64 1) hmb (show 7 < encP.k by decide) (by rw [hm2]; rfl)
         have hset : (encP.all cur ++ R9).toArray.setIfInBounds (k * 8 + 7) (.int .i64 1) = (encP.all (cur.set k m2) ++ R9).toArray := hset; obtain ⟨q0, q1, q2, q3, q4, q5, q6, q7⟩ := pn_blk (HW.blk 3 rfl) hmb; have f7 := HW.free 3 (k * 8 + 7) rfl; have HW2 := HW.set 3 rfl (k * 8 + 7) (.int .i64 1); rw [hset] at HW2; obtain ⟨cu2, hcu⟩ := zNm (cur.set k m2); have hcul : cu2.length = ms0.length := by rw [← hcu, List.length_set]; exact hcl.out
         have hcuk : cu2[k]? = some m2 := by rw [← hcu, List.getElem?_set_self (List.getElem?_eq_some_iff.1 hmb).1]
         have hcum : cu2.map (·.p) = (cur.map (·.p)).set k (mb.p.fire at1) := by rw [← hcu, List.map_set, hm2, ← hfire]
         have hcuw : ∀ m ∈ cu2, Pm.own m ∈ HH ++ G0 := by
          rw [← hcu]; intro m hm; rcases List.mem_or_eq_of_mem_set hm with hm | rfl
          · exact hco.out m hm
          · rw [hm2]; exact hin
         rw [hcu] at HW2; have hal : (encP.all cu2).length = ms0.length * 8 := by rw [encP.all_len, hcul]; rfl
         have hal0 : (encP.all cur).length = ms0.length * 8 := by rw [encP.all_len, hcl.out]; rfl
         have HX0 := HW2.blk_row 3 (n := ms0.length) (cap := lc) (size := 8) (cs := encP.all cu2 ++ R9) (xs := encP.all cu2) rfl n1 n2 (by rw [List.length_append, hal, ← hal0, ← List.length_append]; exact n4) (List.take_left' hal)
         rw [← hcum] at hnext; have kv := fun w' h => kvl.out mb.p.g mb.hd w' h hgr
         have hfo : fireO qq mb.p = ⟨false, itm00, mb.p.w, 1, valueM qq mb.p.g⟩ := rfl; obtain ⟨VL, hVL⟩ := zNm (valueM qq mb.p.g); simp only [hVL] at kv; rw [hVL] at hfo; obtain ⟨M, hM⟩ : ∃ z, z = mb := ⟨_, rfl⟩; rw [← hM] at hfo hnext; have hfo : fireO qq M.p = ⟨false, itm00, mb.p.w, 1, VL⟩ := by rw [hfo, hM]
         have hnexth := zH hnext; have hculh := zH hcul; have hcuwh := zH hcuw; have hk5 : ((k : Nat) : Int) < (ms0.length : Int) := by omega
         have nk : ¬ ((k : Nat) : Int) < 0 := by omega
         clear hnext hcul hcuw hcum hcu hfire hVL hM HW hset hal hal0 n3 n4 hpos hb4 hcl2 hk2 hk3 hk4 hmb hgr hlaw HM q0 q1 q2 q3 q4 q5 q6 hmeas hbest; obtain ⟨⟨⟨xk, xf, xt⟩, ⟨zn, za, zt, zx, zy⟩, xr⟩, xa, xc⟩ := mb; unfold Pm.own Pm.hd at hin; unfold agV agC Pm.hd at kv; simp only at hin kv hm2 hfo q7; obtain ⟨ZX, hZX⟩ := zNm (ib zx); obtain ⟨ZY, hZY⟩ := zNm (ib zy); simp only [hZX, hZY] at kv; have hZXh := zH hZX; have hZYh := zH hZY; rw [hm2] at hcuk; have hm2h := zH hcuk; have hinh := zH hin; have hfoh := zH hfo; have kvh := zH kv; clear hm2 hcuk hin hfo kv hZX hZY; go_upto_region 14 with (fail)
         obtain ⟨wx, hwx⟩ := zNm (wr.setCell ⟨lg, k * 8 + 7, none⟩ (.int .i64 1)); rw [hwx] at HX0; (try rw [hwx]); have HX : zS w wx [zaP qb kd sz sl lt ag kk, zfP sb mk va ms0.length vc, zgP rb, zzP (encP.all cu2) lg ms0.length lc, zlP (encO.all os) oo os.length oc, Pool HH] := HX0; clear hwx HX0 HW2 f7 q7; refine wp_script [(0, false), (1, false), (2, false), (3, false), (4, false), (5, false), (6, false), (7, false), (8, false), (9, false), (10, false), (11, false), (12, true), (13, false), (14, true), (15, true), (16, false)] (Fam fun w' => zS w w' [zzP (encP.all cu2) lg ms0.length lc, zaP qb kd sz sl lt ag kk]) (fun w' => zS w w' [zaP qb kd sz sl lt ag kk, zfP sb mk va ms0.length vc, zgP rb, zzP (encP.all cu2) lg ms0.length lc, zlP (encO.all os) oo os.length oc, Pool HH]) (by kernel_rfl) (by rfl) (by kernel_rfl) (by kernel_rfl) HX.drew (Fam.st (fun _ h => h.pick [3, 0])) ?_
         iterate 12 first | (apply script_pass; rfl; rfl; intro K hK; go_simp; refine hK _ ?_; clear hK K) | (apply script_step; rfl; rfl; (focus (intro I hI w1 h1'; have h1 := hI.2 _ h1'; obtain ⟨y0, y1, y2, y3, y4, y5, y6, -⟩ := pn_row (h1.row 0 rfl) hm2h.out; unfold textV at y0; unfold Pm.hd at y5; simp only [hZXh.out, hZYh.out] at y0 y1 y2 y3 y4 y5 y6; have d0 := h1.cell 1 0 rfl rfl; have d1 := h1.cell 1 1 rfl rfl; have d2 := h1.cell 1 2 rfl rfl; have d3 := h1.cell 1 3 rfl rfl; have d4 := h1.cell 1 4 rfl rfl; have d5 := h1.cell 1 5 rfl rfl; first | (go_simp; first | rfl | exact ⟨rfl, h1'⟩))); intro K hK; go_simp; refine hK _ ?_; clear hK K)
         refine script_alone rfl rfl ?_; intro V hV w1 h1
         go_simp
         refine (kvh.out w1 (h1.pool_or 5 rfl hGh.out hinh.out)).mono ?_; rintro e w2 ⟨vv, H6, rfl, hvin, G1⟩; have HA0 : zS w w2 [Pool H6, zaP qb kd sz sl lt ag kk, zfP sb mk va ms0.length vc, zgP rb, zzP (encP.all cu2) lg ms0.length lc, zlP (encO.all os) oo os.length oc, Pool HH] := h1.call0 G1; obtain ⟨va6, vc6, e6, -, -, -⟩ : IntsRO w2 vv VL := (by rcases List.mem_append.1 hvin with h | h; exact HA0.pool_get 0 rfl h; (cases List.mem_singleton.1 h; exact HA0.pool_or 6 rfl hGh.out hinh.out))
         cases e6; have hvinh := zH hvin; clear hvin; have HA : zS w w2 [Pool (H6 ++ HH), zaP qb kd sz sl lt ag kk, zfP sb mk va ms0.length vc, zgP rb, zzP (encP.all cu2) lg ms0.length lc, zlP (encO.all os) oo os.length oc] := St.pool_join (HA0.pick [0, 6, 1, 2, 3, 4, 5]); refine ⟨_, rfl, fun w' => zS w w' [Pool (H6 ++ HH), zaP qb kd sz sl lt ag kk, zfP sb mk va ms0.length vc, zgP rb, zzP (encP.all cu2) lg ms0.length lc, zlP (encO.all os) oo os.length oc], hV _ _ _ (fun _ h => h) (Fam.st (fun _ h => h.pick [4, 1])) ?_, HA⟩
         intro K hK
         go_simp
         refine hK _ ?_; clear hK K hV V; clear HA HA0 h1 G1 w1 w2
         iterate 1 first | (apply script_pass; rfl; rfl; intro K hK; go_simp; refine hK _ ?_; clear hK K) | (apply script_step; rfl; rfl; (focus (intro I hI w1 h1'; have h1 := hI.2 _ h1'; first | (go_simp; first | rfl | exact ⟨rfl, h1'⟩))); intro K hK; go_simp; refine hK _ ?_; clear hK K)
         refine script_alone rfl rfl ?_; intro V hV w1 h1
         go_simp
         obtain ⟨nw, hnw⟩ := zNm w1.heap.size; have HA : zS w _ [zbsP nw xk.toArray xf xt va6 VL.length vc6, Pool (H6 ++ HH), zaP qb kd sz sl lt ag kk, zfP sb mk va ms0.length vc, zgP rb, zzP (encP.all cu2) lg ms0.length lc, zlP (encO.all os) oo os.length oc] := h1.allocAt hnw #[.bool false, .int .i64 0, .string ⟨#[]⟩, .int .i64 0, .int .i64 0, .string ⟨xk.toArray⟩, .int .i64 xf, .int .i64 xt, .int .i64 1, .slice va6 VL.length vc6] 63; simp only [hnw]; refine ⟨fun w' => zS w w' [zbsP nw xk.toArray xf xt va6 VL.length vc6, Pool (H6 ++ HH), zaP qb kd sz sl lt ag kk, zfP sb mk va ms0.length vc, zgP rb, zzP (encP.all cu2) lg ms0.length lc, zlP (encO.all os) oo os.length oc], hV _ _ _ (fun _ h => h) (Fam.st (fun _ h => h.pick [5, 2])) ?_, HA⟩
         intro K hK
         go_simp
         refine hK _ ?_; clear hK K hV V; clear HA h1 hnw w1; refine script_alone rfl rfl ?_; intro V hV w1 h1; have HA : zS w w1 [zlP (encO.all os) oo os.length oc, zbsP nw xk.toArray xf xt va6 VL.length vc6, Pool (H6 ++ HH), zaP qb kd sz sl lt ag kk, zfP sb mk va ms0.length vc, zgP rb, zzP (encP.all cu2) lg ms0.length lc] := h1.pick [6, 0, 1, 2, 3, 4, 5]; have hnw := World.news_of_block (h1.blk 0 rfl); refine St.came_row HA (.tmp 65) (.tmp 79) 46 rfl Tryz.underlying46 Tryz.info63 (by decide) rfl #[.bool false, .int .i64 0, .string ⟨#[]⟩, .int .i64 0, .int .i64 0, .string ⟨xk.toArray⟩, .int .i64 xf, .int .i64 xt, .int .i64 1, .slice va6 VL.length vc6].toList rfl rfl (by intro h; cases h) (fun ad e => by cases e; exact hnw) (by simp [Value.oneCell']) (by omega) ?_
         intro v2 w2 HB; obtain ⟨a2, p2, rfl, -, -⟩ := slice_form' (HB.row 0 rfl); refine ⟨fun w' => zS w w' [zbuP (os.length + 1) (encO.all os ++ #[.bool false, .int .i64 0, .string ⟨#[]⟩, .int .i64 0, .int .i64 0, .string ⟨xk.toArray⟩, .int .i64 xf, .int .i64 xt, .int .i64 1, .slice va6 VL.length vc6].toList) a2 p2, zbsP nw xk.toArray xf xt va6 VL.length vc6, Pool (H6 ++ HH), zaP qb kd sz sl lt ag kk, zfP sb mk va ms0.length vc, zgP rb, zzP (encP.all cu2) lg ms0.length lc], hV _ _ _ (fun _ h => h) (Fam.st (fun _ h => h.pick [6, 3])) ?_, HB⟩
         intro K hK
         go_simp
         refine hK _ ?_; clear hK K hV V; clear HB HA hnw h1 w1 w2
         iterate 1 first | (apply script_pass; rfl; rfl; intro K hK; go_simp; refine hK _ ?_; clear hK K) | (apply script_step; rfl; rfl; (focus (intro I hI w1 h1'; have h1 := hI.2 _ h1'; first | (go_simp; first | rfl | exact ⟨rfl, h1'⟩))); intro K hK; go_simp; refine hK _ ?_; clear hK K)
         refine script_nil ?_; intro w10 H10; have hvinh := (by assumption : Hid ((Value.slice va6 VL.length vc6, VL) ∈ H6 ++ [(Value.slice xa zt.length xc, zt)]))
         obtain ⟨OM, hOM⟩ : ∃ z : Om, z = ⟨⟨false, itm00, ⟨xk, xf, xt⟩, 1, VL⟩, va6, vc6⟩ := ⟨_, rfl⟩; have hOMc : (otC OM).toList = #[.bool false, .int .i64 0, .string ⟨#[]⟩, .int .i64 0, .int .i64 0, .string ⟨xk.toArray⟩, .int .i64 xf, .int .i64 xt, .int .i64 1, .slice va6 VL.length vc6].toList := by rw [hOM]; rfl
         have hOMo : OM.o = fireO qq M.p := by rw [hOM, hfoh.out]
         have hOMw : OM.own = (Value.slice va6 VL.length vc6, VL) := by rw [hOM]; rfl
         obtain ⟨OS, hOS⟩ := zNm (os ++ [OM]); have hOSl : OS.length = os.length + 1 := by rw [← hOS, List.length_append]; rfl
         have hOSc : encO.all OS = encO.all os ++ #[.bool false, .int .i64 0, .string ⟨#[]⟩, .int .i64 0, .int .i64 0, .string ⟨xk.toArray⟩, .int .i64 xf, .int .i64 xt, .int .i64 1, .slice va6 VL.length vc6].toList := by rw [← hOS, encO.all_app, encO.all_one]; exact congrArg _ hOMc
         have hOSm : OS.map (·.o) = os.map (·.o) ++ [fireO qq M.p] := by rw [← hOS, List.map_append, List.map_singleton, hOMo]
         have hOSw : ∀ y ∈ OS, Om.own y ∈ (H6 ++ HH) ++ G0 := by
          intro y hy; rw [← hOS] at hy; rcases List.mem_append.1 hy with h | h
          · rcases List.mem_append.1 (hoo.out y h) with h | h
            · exact List.mem_append_left _ (List.mem_append_right _ h)
            · exact List.mem_append_right _ h
          · rw [List.mem_singleton.1 h, hOMw]; rcases List.mem_append.1 hvinh.out with h | h
            · exact List.mem_append_left _ (List.mem_append_left _ h)
            · rw [List.mem_singleton.1 h]; rcases List.mem_append.1 hinh.out with h | h
              · exact List.mem_append_left _ (List.mem_append_right _ h)
              · exact List.mem_append_right _ h
         have hOSwh := zH hOSw; have hOSmh := zH hOSm; rw [← hOSc, ← hOSl] at H10; have hOSl2 : OS.length ≤ ms0.length := by omega
         have hOSl3 := hOSl; have hOSlh := zH hOSl; clear hOS hOSm hOSc hOMc hOMo hOMw hOM hOSw hOSl; go_wp2; go_roundw
         case rel => exact ⟨cu2, OS, H6 ++ HH, a2, p2, by rw [hOSlh.out], zH (by rw [hOSmh.out]; exact hnexth.out), hculh, zH (fun m hm => (by rcases List.mem_append.1 (hcuwh.out m hm) with h | h; exact List.mem_append_left _ (List.mem_append_right _ h); exact List.mem_append_right _ h)), hOSwh, hOSl2, H10.pick [3, 4, 5, 6, 0, 2]⟩
         case measure =>
          have := hOSl3
          simp [lenS]; omega
end Go.Proofs.YtiglgfonhdfpmaaGreat
namespace Go.Proofs.YtiglgfonhdfpmaaGreat
open Go.RowKit
theorem doc_agr_right (q : Qry) (g : Ag) {hv : Value} (w : World) (hr : IntsRO w hv g.top) (hg : g.right q = true) (hn : 0 < g.n) :
    Calls Tryz.prog 179 #[qyV q, agV g hv] w fun e w' => e = .returned (.bool true) ∧ Below w.heap.size w w' := by
 obtain ⟨h1, -, h3, -, h5, h6, -, -, -⟩ := Ag.right_iff.1 hg; obtain ⟨-, -, ha, hl, -, -, hx, hy⟩ := right_nums hg; have := doc_agr q g w hr h1 ⟨hn, by omega⟩ (by omega) (by omega) (by omega) h6 h5 (by omega)
 rw [hg] at this; exact this
theorem doc_sright_no (q : Qry) (mk : Int) (v : Value) (w : World) (hq : q.right = false) :
    Calls Tryz.prog 126 #[qyV q, .agg #[.int .i64 mk, v]] w fun e w' => e = .returned (.bool false) ∧ Below w.heap.size w w' := by
 have kq := fun w' => doc_qright q w'
 rw [hq] at kq; clear hq; obtain ⟨kd, sz, sl, lt, ag, kk⟩ := q; unfold qyV qyC at kq; simp only at kq; unfold qyV qyC; simp only; have H0 : zS w _ [_] := (St.nil _ w).allocAt rfl #[.int .i64 kd, .int .i64 sz, .int .i64 sl, .int .i64 lt, .int .i64 ag, .int .i64 kk] 23; have H : zS w _ [_, _] := H0.allocAt (B := w.heap.size + 1) (Array.size_push _) #[.int .i64 mk, v] 45; obtain ⟨b, hb⟩ := zNm w.heap.size; obtain ⟨b2, hb2⟩ := zNm (b + 1); obtain ⟨w1, hw1⟩ := zNm ((w.alloc (.cells #[.int .i64 kd, .int .i64 sz, .int .i64 sl, .int .i64 lt, .int .i64 ag, .int .i64 kk] 23)).alloc (.cells #[.int .i64 mk, v] 45))
 go_enter Tryz.func126, Tryz.ntmps126
 go_upto_region 1 with (fail)
 rw [hw1, hb, hb2] at H; (try rw [hw1]); (try simp only [hb, hb2]); have hbh := zH hb; clear hw1 hb hb2 H0; have d0 := H.cell 1 0 rfl rfl; have d1 := H.cell 1 1 rfl rfl; have d2 := H.cell 1 2 rfl rfl; have d3 := H.cell 1 3 rfl rfl; have d4 := H.cell 1 4 rfl rfl; have d5 := H.cell 1 5 rfl rfl
 go_wp2_with (go_at_call 16; go_must (refine (St.callPast (kq _) H).mono ?_; rintro e w2 ⟨rfl, H2⟩; clear d0 d1 d2 d3 d4 d5))
 go_ret; exact ⟨rfl, H2.below (Nat.le_refl _) (fun _ h => h.elim)⟩
theorem doc_sright (q : Qry) (mk : Int) {v : Value} (ms : List Pm) (w : World) (hv : encP.RO w v ms) (hro : ∀ m ∈ ms, IntsRO w m.hd m.p.g.top) (hs : Stt.right q ⟨mk, ms.map (·.p)⟩ = true) :
    Calls Tryz.prog 126 #[qyV q, .agg #[.int .i64 mk, v]] w fun e w' => e = .returned (.bool true) ∧ Below w.heap.size w w' := by
 obtain ⟨hq, hmk, hlen, hall, hord, hset⟩ := right_parts hs; simp only [List.length_map] at hmk hlen hall hord hset; have kq := fun w' => doc_qright q w'
 rw [hq] at kq
 have hqb : (q.kind = 1 ∨ q.kind = 2 ∨ q.kind = 3) ∧ (1 ≤ q.size ∧ q.size ≤ 1073741824) ∧ (0 ≤ q.late ∧ q.late ≤ 1073741824) := by
  have h0 := hq; unfold Qry.right at h0; simp only [Bool.and_eq_true, decide_eq_true_eq] at h0
  omega
 have hws := zH (fun w' v' (h : WdsRO w' v' (ms.map (·.p.w))) => ref_settled w' h (by rw [List.length_map]; omega))
 have hstl : q.kind = 3 → stl (ms.map (·.p.w)) = true := fun h => by
  have h2 := hset h; rw [settledW_stl]; rw [List.map_map] at h2; exact h2
 have hstlh := zH hstl
 have hwf : ∀ x ∈ ms.map (·.p.w), x.fits := fun x hx => by
  obtain ⟨m, hm, rfl⟩ := List.mem_map.1 hx; exact fits_right (ok_parts (hall _ (List.mem_map_of_mem hm))).2.1
 have hwfh := zH hwf; have hallh := zH (fun (m : Pm) (h : m ∈ ms) => ok_parts (hall m.p (List.mem_map_of_mem h)))
 have hordh := zH (fun (i : Nat) (a b : Pm) (ha : ms[i]? = some a) (hb : ms[i + 1]? = some b) => sortedP_iff.1 (ord_iff.2 hord) i a.p b.p (by rw [List.getElem?_map, ha]; rfl) (by rw [List.getElem?_map, hb]; rfl))
 have kof := zH (fun (x : Wd) w' (h : x.right = true) => ref_of q x.key x.frm w' (by have := (right_iff.1 h).1; unfold nameB at this; simp only [Bool.and_eq_true, decide_eq_true_eq] at this; omega) hq (right_iff.1 h).1 ⟨(right_iff.1 h).2.1, (right_iff.1 h).2.2.1⟩)
 have kwn := zH (fun w' (hv : encP.RO w' v ms) => ref_windows hv (by omega))
 have kagr := zH (fun (m : Pm) w' (h1 : IntsRO w' m.hd m.p.g.top) h2 h3 => doc_agr_right q m.p.g w' h1 h2 h3)
 have kgn := zH (fun (x : Wd) w' (h : x.right = true) => doc_gone q x mk (by have := right_iff.1 h; omega) w')
 have hwl := zH (fun (x : Wd) => wins_len q x.key x.frm)
 have hwr := zH (fun (x : Wd) (y : Wd) (h : y ∈ winsOf q x.key x.frm) => fits_right (wins_right y h).1)
 have hngo := zH (fun (x : Wd) (h : x.right = true) => gone_right (q := q) (mk := mk) hq h)
 have hvh := zH hv; obtain ⟨ao, cap, rfl, hcap, hic⟩ := hv; have hich := zH hic; have hroh := zH hro; have hqh := zH hq; clear hic hro hq hs hall hord hset hstl hwf; have hfit : q.kind ≠ 3 → ∀ x : Wd, fitsM q x = (winsOf q x.key x.frm).contains x := fun h x => by unfold fitsM; rw [if_neg h]
 have hfit3 : q.kind = 3 → ∀ x : Wd, fitsM q x = (x.right && decide (q.size ≤ x.to - x.frm)) := fun h x => by unfold fitsM; rw [if_pos h]
 have hfith := zH hfit; have hfit3h := zH hfit3; clear hfit hfit3; obtain ⟨Q, hQ⟩ : ∃ Q, Q = q := ⟨_, rfl⟩; have hQh := zH hQ; rw [← hQ] at kof hallh kagr hwl hwr hngo hfith hfit3h hqh; clear hQ; obtain ⟨kd, sz, sl, lt, ag, kk⟩ := q; unfold qyV qyC at kq kgn; simp only at kq hqb kgn hstlh; unfold qyV qyC; simp only; have hQv : qyV Q = .agg #[.int .i64 kd, .int .i64 sz, .int .i64 sl, .int .i64 lt, .int .i64 ag, .int .i64 kk] := by rw [hQh.out]
 rw [hQv] at kof kagr; have hkh : Hid (Q.kind = kd ∧ Q.size = sz ∧ Q.late = lt) := zH (by rw [hQh.out]; exact ⟨rfl, rfl, rfl⟩)
 clear hQv; have H0 : zS w _ [_] := (St.nil _ w).allocAt rfl #[.int .i64 kd, .int .i64 sz, .int .i64 sl, .int .i64 lt, .int .i64 ag, .int .i64 kk] 23; have H : zS w _ [_, _] := H0.allocAt (B := w.heap.size + 1) (Array.size_push _) #[.int .i64 mk, .slice ao ms.length cap] 45; obtain ⟨qb, hb⟩ := zNm w.heap.size; obtain ⟨sb, hb2⟩ := zNm (qb + 1); obtain ⟨w1, hw1⟩ := zNm ((w.alloc (.cells #[.int .i64 kd, .int .i64 sz, .int .i64 sl, .int .i64 lt, .int .i64 ag, .int .i64 kk] 23)).alloc (.cells #[.int .i64 mk, .slice ao ms.length cap] 45))
 go_enter Tryz.func126, Tryz.ntmps126
 go_upto_region 1 with (fail)
 rw [hw1, hb, hb2] at H; (try rw [hw1]); (try simp only [hb, hb2]); have hbh := zH hb; clear hw1 hb hb2 H0; have c0 := H.cell 0 0 rfl rfl; have c1 := H.cell 0 1 rfl rfl; have d0 := H.cell 1 0 rfl rfl; have d1 := H.cell 1 1 rfl rfl; have d2 := H.cell 1 2 rfl rfl; have d3 := H.cell 1 3 rfl rfl; have d4 := H.cell 1 4 rfl rfl; have d5 := H.cell 1 5 rfl rfl; have z1 : ¬ mk < -1 := by omega
 have z2 : ¬ 1099511627776 < mk := by omega
 have z3 : ¬ (256 : Int) < (ms.length : Int) := by omega
 go_upto_block 1 with (go_at_call 16; go_must (refine (St.callPast (kq _) H).mono ?_; rintro e w2 ⟨rfl, H2⟩; clear c0 c1 d0 d1 d2 d3 d4 d5; have c0 := H2.cell 0 0 rfl rfl; have c1 := H2.cell 0 1 rfl rfl))
 clear H c0 c1 kq
 go_loopw [5, 6, 7, 30] (fun _ _ _ j wr => ∃ (i : Nat), i ≤ ms.length ∧ j = .int .i64 i ∧ zS w wr [zfP sb mk ao ms.length cap, zaP qb kd sz sl lt ag kk]) (fun _ _ _ j _ => ms.length - (intOf j).toNat)
 case atStart => exact ⟨0, by omega, rfl, H2⟩
 case round =>
  clear H2; obtain ⟨i, hi, rfl, HM⟩ := hrel
  by_cases hlt : i < ms.length
  · obtain ⟨bp, o, rfl, hb, hc⟩ := hich.out (by intro e; rw [e] at hlt; simp at hlt)
    obtain ⟨m, hm⟩ : ∃ m, ms[i]? = some m := ⟨_, List.getElem?_eq_getElem hlt⟩; have hmm := List.mem_of_getElem? hm; obtain ⟨q0, q1, q2, q3, q4, q5, q6, q7⟩ := pn_cells (hc i m hm) (HM.kept.block bp hb id); have hch := zH hc; have hmh := zH hm; obtain ⟨o1, o2, o3, o4, o5, o6, o7⟩ := hallh.out m hmm; have hxr := right_iff.1 o2; have kr := fun w' => ref_wright m.p.w (fits_right o2) w'
    rw [o2] at kr; have kg := fun w' => kgn.out m.p.w w' o2
    have hgd := hngo.out m.p.w o2; rw [o3] at hgd; rw [hkh.out.2.2] at hgd; have ka := fun w' (hk : Kept (fun _ => False) w w') => kagr.out m w' ((hroh.out m hmm).later hk) o5 o6
    have hrip : (m.p.round == 0) = !decide (m.p.w.to ≤ mk) := by
     rw [ripe_right o2] at o7
     by_cases hz : m.p.w.to ≤ mk
     · have := o7.2 (by simpa using hz)
       simp only [hz, decide_true, Bool.not_true, beq_eq_false_iff_ne]
       omega
     · have : ¬ 0 < m.p.round := fun h => hz (by simpa using o7.1 h)
       simp only [hz, decide_false, Bool.not_false, beq_iff_eq]
       omega
    have hriph := zH hrip; have hpl : ∀ k, i = k + 1 → ∀ a, ms[k]? = some a → a.p.w.place m.p.w < 0 := fun k hk a ha => hordh.out k a m ha (by rw [← hk]; exact hm)
    have hplh := zH hpl; have o2h := zH o2; have o1h := zH o1; have hi2 : (i : Int) < (ms.length : Int) := by omega
    have z4 : ¬ m.p.round < 0 := by omega
    have z5 : ¬ 1073741824 < m.p.round := by omega
    have z6 : ¬ m.p.g.n < 1 := by omega
    have hxb : (0 ≤ m.p.w.frm ∧ m.p.w.frm ≤ 1099511627776) ∧ m.p.w.frm < m.p.w.to ∧ m.p.w.to ≤ 4398046511104 := ⟨⟨hxr.2.1, hxr.2.2.1⟩, hxr.2.2.2⟩; clear hm hc o1 o2 o3 o4 o5 o6 o7 hrip hpl hxr; obtain ⟨M, hM⟩ : ∃ z, z = m := ⟨_, rfl⟩; have hMh := zH hM; rw [← hM] at hmm hmh hriph hplh o2h o1h; clear hM; have hmmh := zH hmm; clear hmm; obtain ⟨⟨⟨xk, xf, xt⟩, ⟨gn, ga, gt, gx, gy⟩, xr⟩, xa, xc⟩ := m; have hMw : M.p.w = ⟨xk, xf, xt⟩ := by rw [hMh.out]
    have hMwh := zH hMw; unfold wdV wdC textV at kr kg; unfold textV at q0; unfold Pm.hd at q5 ka; unfold agV agC at ka; simp only at q0 q1 q2 q3 q4 q5 q6 q7 kr kg ka z4 z5 z6 hgd hxb; rw [hgd.symm] at kg; clear hMw; obtain ⟨GX, hGX⟩ := zNm (ib gx); obtain ⟨GY, hGY⟩ := zNm (ib gy); simp only [hGX, hGY] at q6 ka; clear hGX hGY hgd; have HA : zS w _ [_, _, _] := HM.allocAt rfl #[.string ⟨xk.toArray⟩, .int .i64 xf, .int .i64 xt, .int .i64 gn, .int .i64 ga, .slice xa gt.length xc, .complex .f64 GX GY, .int .i64 xr] 68; go_upto_region 6 with (fail)
    obtain ⟨wb, hwb⟩ := zNm (wr.alloc (.cells #[.string ⟨xk.toArray⟩, .int .i64 xf, .int .i64 xt, .int .i64 gn, .int .i64 ga, .slice xa gt.length xc, .complex .f64 GX GY, .int .i64 xr] 68)); obtain ⟨pb, hpb⟩ := zNm wr.heap.size; rw [hwb, hpb] at HA; (try rw [hwb]); (try simp only [hpb]); have HB : zS w wb [zbP pb xk.toArray xf xt gn ga xa gt.length xc GX GY xr, zrP sb mk bp o ms.length cap, zaP qb kd sz sl lt ag kk] := HA; clear hwb hpb q0 q1 q2 q3 q4 q5 q6 q7 HM HA; have e0 := HB.cell 0 0 rfl rfl; have e1 := HB.cell 0 1 rfl rfl; have e2 := HB.cell 0 2 rfl rfl; have HC : zS w _ [_, _, _, _] := HB.allocAt rfl #[.string ⟨xk.toArray⟩, .int .i64 xf, .int .i64 xt] 61; go_upto_region 7 with (fail)
    obtain ⟨wd, hwd⟩ := zNm (wb.alloc (.cells #[.string ⟨xk.toArray⟩, .int .i64 xf, .int .i64 xt] 61)); obtain ⟨vb, hvb⟩ := zNm wb.heap.size; rw [hwd, hvb] at HC; (try rw [hwd]); (try simp only [hvb]); have HD : zS w wd [zcP vb xk.toArray xf xt, zbP pb xk.toArray xf xt gn ga xa gt.length xc GX GY xr, zrP sb mk bp o ms.length cap, zaP qb kd sz sl lt ag kk] := HC; clear hwd hvb e0 e1 e2 HB HC; refine wp_plain (fun w' => zS w w' [zcP vb xk.toArray xf xt, zbP pb xk.toArray xf xt gn ga xa gt.length xc GX GY xr, zrP sb mk bp o ms.length cap, zaP qb kd sz sl lt ag kk]) (HD) ?_
    iterate 33 first | (apply calm_pass; rfl; intro K hK; go_simp; refine hK _ ?_; clear hK K) | (apply calm_step; rfl; (focus (intro w1 h1; have v0 := h1.cell 0 0 rfl rfl; have v1 := h1.cell 0 1 rfl rfl; have v2 := h1.cell 0 2 rfl rfl; have p3 := h1.cell 1 3 rfl rfl; have p4 := h1.cell 1 4 rfl rfl; have p5 := h1.cell 1 5 rfl rfl; have p6 := h1.cell 1 6 rfl rfl; have p7 := h1.cell 1 7 rfl rfl; have s0 := h1.cell 2 0 rfl rfl; have d0 := h1.cell 3 0 rfl rfl; have d1 := h1.cell 3 1 rfl rfl; have d2 := h1.cell 3 2 rfl rfl; have d3 := h1.cell 3 3 rfl rfl; have d4 := h1.cell 3 4 rfl rfl; have d5 := h1.cell 3 5 rfl rfl; first | (go_simp; first | rfl | exact ⟨rfl, h1⟩ | (go_at_call 177; with_reducible exact St.callPast (kr w1) h1) | (go_at_call 178; with_reducible exact St.callPast (kg w1) h1) | (go_at_call 179; with_reducible exact St.callPast (ka w1 h1.kept) h1)))); intro K hK; go_simp; refine hK _ ?_; clear hK K)
    refine calm_nil ?_; intro w5 H5; clear HD kr kg ka; go_upto_region 9 with (fail)
    go_cut [94] from 70 to 94 (fun b wx => b = .bool false ∧ zS w wx [zcP vb xk.toArray xf xt, zbP pb xk.toArray xf xt gn ga xa gt.length xc GX GY xr, zrP sb mk bp o ms.length cap, zaP qb kd sz sl lt ag kk])
    case first =>
     have hr2 : (xr == 0) = !decide (xt ≤ mk) := by have := hriph.out; rw [hMh.out] at this; exact this
     obtain ⟨rz, hrz⟩ := zNm (decide (xt ≤ mk)); rw [hrz] at hr2
     have hbb : (rz = true ∧ (xr == 0) = false) ∨ (rz = false ∧ (xr == 0) = true) := by cases rz <;> simp_all
     clear hr2
     by_cases hi0 : i = 0
     · subst hi0; simp only [Int.natCast_zero]; rcases hbb with ⟨rfl, hx0⟩ | ⟨rfl, hx0⟩
       all_goals
        refine wp_calm (fun w' => zS w w' [zcP vb xk.toArray xf xt, zbP pb xk.toArray xf xt gn ga xa gt.length xc GX GY xr, zrP sb mk bp o ms.length cap, zaP qb kd sz sl lt ag kk]) (by kernel_rfl) (by kernel_rfl) (H5.drew) ?_
        iterate 25 first | (apply calm_pass; rfl; intro K hK; go_simp; refine hK _ ?_; clear hK K) | (apply calm_step; rfl; (focus (intro w1 h1; have v2 := h1.cell 0 2 rfl rfl; have p7 := h1.cell 1 7 rfl rfl; have s0 := h1.cell 2 0 rfl rfl; first | (go_simp; first | rfl | exact ⟨rfl, h1⟩))); intro K hK; go_simp; refine hK _ ?_; clear hK K)
        refine calm_nil ?_; intro w6 H6; go_wp2; go_meet; exact ⟨rfl, H6⟩
     · obtain ⟨k, hk⟩ : ∃ k, i = k + 1 := ⟨i - 1, by omega⟩
       obtain ⟨mp, hmp⟩ : ∃ m, ms[k]? = some m := ⟨_, List.getElem?_eq_getElem (by omega)⟩
       have hplc := hplh.out k hk mp hmp; rw [hMwh.out] at hplc; have kpl := fun w' => ref_place mp.p.w ⟨xk, xf, xt⟩ w'
       obtain ⟨pl, hpl⟩ := zNm (mp.p.w.place ⟨xk, xf, xt⟩); rw [hpl] at hplc; simp only [hpl] at kpl; clear hpl; have hq := hch.out k mp hmp; have z7 : (0 : Int) < (i : Int) := by omega
       have z8 : 0 < i := by omega
       have n1 : IntKind.i64.wrap ((i : Int) - 1) = (k : Int) := by rw [IntKind.wrap_i64]; omega
       have n1' : (i : Int) - 1 = (k : Int) := by omega
       have n2 : IntKind.i64.wrap (k : Int) = (k : Int) := by rw [IntKind.wrap_i64]; omega
       have n3 : (k : Int) < (ms.length : Int) := by omega
       have n4 : ¬ 0 ≤ pl := by omega
       clear hk hi0; have hqh := zH (fun w' (hk : Kept (fun _ => False) w w') => pn_cells hq (hk.block bp hb id))
       clear hq hmp hplc; obtain ⟨⟨⟨yk, yf, yt⟩, yg, yr⟩, ya, yc⟩ := mp; unfold wdV wdC textV at kpl; unfold textV at hqh; simp only at kpl hqh; rcases hbb with ⟨rfl, hx0⟩ | ⟨rfl, hx0⟩
       all_goals
        refine wp_calm (fun w' => zS w w' [zcP vb xk.toArray xf xt, zbP pb xk.toArray xf xt gn ga xa gt.length xc GX GY xr, zrP sb mk bp o ms.length cap, zaP qb kd sz sl lt ag kk]) (by kernel_rfl) (by kernel_rfl) (H5.drew) ?_
        iterate 25 first | (apply calm_pass; rfl; intro K hK; go_simp; refine hK _ ?_; clear hK K) | (apply calm_step; rfl; (focus (intro w1 h1; have v0 := h1.cell 0 0 rfl rfl; have v1 := h1.cell 0 1 rfl rfl; have v2 := h1.cell 0 2 rfl rfl; have p7 := h1.cell 1 7 rfl rfl; have s0 := h1.cell 2 0 rfl rfl; have s1 := h1.cell 2 1 rfl rfl; obtain ⟨y0, y1, y2, -⟩ := hqh.out w1 h1.kept; first | (go_simp; first | rfl | exact ⟨rfl, h1⟩ | (go_at_call 180; with_reducible exact St.callPast (kpl w1) h1)))); intro K hK; go_simp; refine hK _ ?_; clear hK K)
        refine calm_nil ?_; intro w6 H6; go_wp2; go_meet; exact ⟨rfl, H6⟩
    case rest =>
     obtain ⟨rfl, H7⟩ := hcut; clear H5; go_upto_region 11 with (fail)
     go_cut [123] from 95 to 123 (fun b wx => b = .bool false ∧ zS w wx [zcP vb xk.toArray xf xt, zbP pb xk.toArray xf xt gn ga xa gt.length xc GX GY xr, zrP sb mk bp o ms.length cap, zaP qb kd sz sl lt ag kk])
     case first =>
      by_cases hk3 : kd = 3
      · have hk3' : (kd == 3) = true := by simpa using hk3
        have hk3n : (kd != 3) = false := by simpa using hk3
        have hsz : ¬ xt - xf < sz := by
         have := o1h.out; rw [hfit3h.out (by rw [hkh.out.1]; exact hk3), hMwh.out, hkh.out.2.1] at this
         simp only [Bool.and_eq_true, decide_eq_true_eq] at this
         omega
        obtain ⟨F, hF⟩ := zNm (xt - xf); rw [hF] at hsz; have n5 : IntKind.i64.wrap (xt - xf) = F := by rw [IntKind.wrap_i64]; omega
        have n6 : IntKind.i64.wrap F = F := by rw [IntKind.wrap_i64]; omega
        have n7 : decide (F < sz) = false := by simpa using hsz
        clear hk3; refine wp_calm (fun w' => zS w w' [zcP vb xk.toArray xf xt, zbP pb xk.toArray xf xt gn ga xa gt.length xc GX GY xr, zrP sb mk bp o ms.length cap, zaP qb kd sz sl lt ag kk]) (by kernel_rfl) (by kernel_rfl) (H7.drew) ?_
        iterate 29 first | (apply calm_pass; rfl; intro K hK; go_simp; refine hK _ ?_; clear hK K) | (apply calm_step; rfl; (focus (intro w1 h1; have v1 := h1.cell 0 1 rfl rfl; have v2 := h1.cell 0 2 rfl rfl; have d0 := h1.cell 3 0 rfl rfl; have d1 := h1.cell 3 1 rfl rfl; first | (go_simp; first | rfl | exact ⟨rfl, h1⟩))); intro K hK; go_simp; refine hK _ ?_; clear hK K)
        refine calm_nil ?_; intro w6 H6; go_wp2; go_meet; exact ⟨rfl, H6⟩
      · have hk3' : (kd == 3) = false := by simpa using hk3
        have hk3n : (kd != 3) = true := by simpa using hk3
        have ko := fun w' => kof.out M.p.w w' o2h.out
        have hcn : (winsOf Q M.p.w.key M.p.w.frm).contains ⟨xk, xf, xt⟩ = true := by
         have := o1h.out; rw [hfith.out (by rw [hkh.out.1]; exact hk3)] at this
         rw [← hMwh.out]; exact this
        have hwl2 := hwl.out M.p.w; have hwr2 := hwr.out M.p.w; obtain ⟨WS, hWS⟩ := zNm (winsOf Q M.p.w.key M.p.w.frm); simp only [hWS] at ko hcn hwl2 hwr2; rw [hMwh.out] at ko; have kh := fun w' v' (h : WdsRO w' v' WS) => ref_has ⟨xk, xf, xt⟩ h (by omega)
        simp only [hcn] at kh; unfold wdV wdC textV at kh; unfold textV at ko; simp only at kh ko; have hwr2h := zH hwr2; clear hWS hcn hwr2; refine wp_script [(0, false), (1, false), (2, false), (3, false), (4, false), (5, false), (6, false), (7, false), (8, false), (9, false), (10, false), (11, false), (12, false), (13, false), (14, false), (15, false), (16, false), (17, false), (18, false), (19, false), (20, false), (21, false), (22, false), (24, false), (23, true), (25, true), (26, false), (27, false), (28, false)] (Fam fun w' => zS w w' [zcP vb xk.toArray xf xt, zbP pb xk.toArray xf xt gn ga xa gt.length xc GX GY xr, zrP sb mk bp o ms.length cap, zaP qb kd sz sl lt ag kk]) (fun w' => zS w w' [zcP vb xk.toArray xf xt, zbP pb xk.toArray xf xt gn ga xa gt.length xc GX GY xr, zrP sb mk bp o ms.length cap, zaP qb kd sz sl lt ag kk]) (by kernel_rfl) (by rfl) (by kernel_rfl) (by kernel_rfl) H7.drew (Fam.st (fun _ h => h)) ?_
        iterate 24 first | (apply script_pass; rfl; rfl; intro K hK; go_simp; refine hK _ ?_; clear hK K) | (apply script_step; rfl; rfl; (focus (intro I hI w1 h1'; have h1 := hI.2 _ h1'; have v0 := h1.cell 0 0 rfl rfl; have v1 := h1.cell 0 1 rfl rfl; have v2 := h1.cell 0 2 rfl rfl; have d0 := h1.cell 3 0 rfl rfl; have d1 := h1.cell 3 1 rfl rfl; have d2 := h1.cell 3 2 rfl rfl; have d3 := h1.cell 3 3 rfl rfl; have d4 := h1.cell 3 4 rfl rfl; have d5 := h1.cell 3 5 rfl rfl; first | (go_simp; first | rfl | exact ⟨rfl, h1'⟩))); intro K hK; go_simp; refine hK _ ?_; clear hK K)
        refine script_alone rfl rfl ?_; intro V hV w1 h1
        go_simp
        refine (ko w1).mono ?_; rintro e w2 ⟨v5, rfl, G1⟩; obtain ⟨wa, wc, rfl, -, -⟩ := slice_form' (G1.row 0 rfl); have HA : zS w w2 [zqP (wds WS) wa WS.length wc, zcP vb xk.toArray xf xt, zbP pb xk.toArray xf xt gn ga xa gt.length xc GX GY xr, zrP sb mk bp o ms.length cap, zaP qb kd sz sl lt ag kk] := h1.call0 G1; refine ⟨_, rfl, fun w' => zS w w' [zqP (wds WS) wa WS.length wc, zcP vb xk.toArray xf xt, zbP pb xk.toArray xf xt gn ga xa gt.length xc GX GY xr, zrP sb mk bp o ms.length cap, zaP qb kd sz sl lt ag kk], hV _ _ _ (fun _ h => h) (Fam.st (fun _ h => h.pick [1, 2, 3, 4])) ?_, HA⟩
        intro K hK
        go_simp
        refine hK _ ?_; clear hK K hV V; clear HA h1 G1 w1 w2; refine script_alone rfl rfl ?_; intro V hV w1 h1
        go_simp
        have hrw := wds_own (h1.row 0 rfl) hwr2h.out; refine (St.callPast (kh w1 _ hrw) h1).mono ?_; rintro e w2 ⟨rfl, HA⟩; refine ⟨_, rfl, fun w' => zS w w' [zqP (wds WS) wa WS.length wc, zcP vb xk.toArray xf xt, zbP pb xk.toArray xf xt gn ga xa gt.length xc GX GY xr, zrP sb mk bp o ms.length cap, zaP qb kd sz sl lt ag kk], hV _ _ _ (fun _ h => h) (Fam.st (fun _ h => h.pick [1, 2, 3, 4])) ?_, HA⟩
        intro K hK
        go_simp
        refine hK _ ?_; clear hK K hV V; clear HA h1 hrw w1 w2
        iterate 3 first | (apply script_pass; rfl; rfl; intro K hK; go_simp; refine hK _ ?_; clear hK K) | (apply script_step; rfl; rfl; (focus (intro I hI w1 h1'; have h1 := hI.2 _ h1'; first | (go_simp; first | rfl | exact ⟨rfl, h1'⟩))); intro K hK; go_simp; refine hK _ ?_; clear hK K)
        refine script_nil ?_; intro w8 H8; go_wp2; go_meet; exact ⟨rfl, H8.pick [1, 2, 3, 4]⟩
     case rest =>
      obtain ⟨rfl, H8⟩ := hcut; clear H7; go_wp2; go_roundw
      case rel => exact ⟨i + 1, by omega, by go_num, H8.pick [2, 3]⟩
      case measure => simp [intOf]; omega
  · obtain rfl : i = ms.length := by omega
    have d0 := HM.cell 1 0 rfl rfl; have s1 := HM.cell 0 1 rfl rfl
    by_cases hk3 : kd = 3
    · have hk3' : (kd == 3) = true := by simpa using hk3
      have hk3n : (kd != 3) = false := by simpa using hk3
      have kn := fun w' (hk : Kept (fun _ => False) w w') => kwn.out w' (hvh.out.later hk)
      have hs3 := hstlh.out hk3; have hws2 := fun w' v' h => hws.out w' v' h
      simp only [hs3] at hws2; have hmc : ms.length ≤ 256 := hlen; clear hk3
      go_wp2_with (first
       | (go_at_call 184; go_must (refine (kn _ HM.kept).mono ?_; rintro e w5 ⟨v5, rfl, G1⟩; have H5 : zS w w5 [Row 61 3 v5 ms.length (wds (ms.map (·.p.w))), zfP sb mk ao ms.length cap, zaP qb kd sz sl lt ag kk] := HM.call0 G1; have hrw : WdsRO w5 v5 (ms.map (·.p.w)) := wds_own (H5.row 0 rfl) hwfh.out))
       | (go_at_call 183; go_must (refine (St.callPast (hws2 _ _ hrw) H5).mono ?_; rintro e w6 ⟨rfl, H6⟩)))
      go_ret; exact ⟨rfl, (H6.pick []).below (Nat.le_refl _) (fun _ h => h.elim)⟩
    · have hk3' : (kd == 3) = false := by simpa using hk3
      have hk3n : (kd != 3) = true := by simpa using hk3
      clear hk3; go_wp2; go_ret; exact ⟨rfl, (HM.pick []).below (Nat.le_refl _) (fun _ h => h.elim)⟩
end Go.Proofs.YtiglgfonhdfpmaaGreat
