import Derived.Test.YtiglgfonhdfpmaaGreatOr4
import Derived.Laws.FloatArith
import Derived.ArgAppend
import Derived.Lib.ItoaNum
import Derived.Lib.AtoiAll
import Derived.Lib.Split
import Derived.Lib.SplitLaws
import Derived.Lib.IndexLaws
import Derived.Lib.CountLaws
/- The document's Take. Condition: so many windows. -/
set_option linter.unusedVariables false
set_option linter.unusedSimpArgs false
set_option maxHeartbeats 16000000
set_option maxRecDepth 100000
namespace Go.Proofs.YtiglgfonhdfpmaaGreat
open Go.RowKit
section
variable {P : Program} {S : Nat → Prop} {w0 w : World} {l : List SP}
theorem St.came_append (H : St S w0 w l) (i : Nat) {e : TypeId} {size : Nat} {v : Value} {n : Nat} {xs : List Value} (hi : l[i]? = some (Row e size v n xs))
    {o : Oper} {a : Act} (s x : Operand) (t : TypeId) (ho : o.op = .call { callee := .builtin .append, args := #[s, x], argTypes := #[t, t] }) {z : Value} {bytes : Nat} (ht : P.underlying t = some (.slice e))
    (hinfo : (P.info? e).map (fun i => (i.zero, i.size, i.bytes)) = some (some z, size, bytes)) (hzs : z.cells.size = size ∧ 0 < size ∧ 0 < bytes)
    (hs : a.eval s = v) {A : Option Addr} {c m : Nat} (news : List Value) (hx : a.eval x = .slice A m c) (hl : news.length = m * size) (hA : A = none → m = 0) (hnews : ∀ ad, A = some ad → ∀ j u, news[j]? = some u → w.cell? (ad.add j) = some u) (h1 : ∀ u ∈ news, u.oneCell' = true)
    (hbytes : (n + m) * bytes ≤ 140737488355328) {V : Value → (World → Prop) → Prop}
    (h : ∀ v' w', St S w0 w' (l.set i (Row e size v' (n + m) (xs ++ news))) → ∃ I', V v' I' ∧ I' w') : CameV P V ((execOp a.eval o).run P w) := by
 obtain ⟨v', w', hr, h2, h3⟩ := H.run_append i hi (ty := o.type) (c := c) ht hinfo hzs news hl hA hnews h1 hbytes; unfold execOp; simp only [ho, resolve, invoke, builtin, Sem.run_bind, Sem.run_pure, Result.andThen_ok, List.map_toArray, List.map_cons, List.map_nil, hs, hx, hr]; exact h v' w' h2
end
theorem takeWhile_snoc_no {α : Type} {p : α → Bool} {y : α} (h : p y = false) : ∀ l : List α, (l ++ [y]).takeWhile p = l.takeWhile p
 | [] => by simp [h]
 | x :: l => by
  by_cases hx : p x = true
  · simp [hx, takeWhile_snoc_no h l]
  · simp [hx]
theorem ins_pos : ∀ (O : List Wd) (b : Wd), O.Pairwise aheadW → (∀ y ∈ O, b ≠ y) → (insP O.reverse b).reverse = insW O b := by
 intro O b; refine snoc_ind (p := fun O => O.Pairwise aheadW → (∀ y ∈ O, b ≠ y) → (insP O.reverse b).reverse = insW O b) (fun _ _ => rfl) (fun O y ih hp hb => ?_) O
 have hp2 := List.pairwise_append.1 hp; have ih2 := ih hp2.1 (fun z hz => hb z (by simp [hz]))
 have hsw := place_swap b y; have hne : b.place y ≠ 0 := fun e => hb y (by simp) (place_zero.1 e)
 rw [List.reverse_append, List.reverse_singleton, List.singleton_append, insP]
 by_cases h : b.place y < 0
 · rw [if_pos h, List.reverse_cons, ih2]
   have hpos : posW (O ++ [y]) b = posW O b := by
    unfold posW; rw [takeWhile_snoc_no (by simp; omega)]
   have hle := posW_le O b; unfold insW; rw [hpos, List.take_append_of_le_length hle, List.drop_append_of_le_length hle]
   simp
 · rw [if_neg h]
   have hall : ∀ z ∈ O ++ [y], z.place b < 0 := by
    intro z hz; have hy : y.place b < 0 := by omega
    rcases List.mem_append.1 hz with hz | hz
    · exact place_trans (hp2.2.2 z hz y (by simp)).1 hy
    · obtain rfl := List.mem_singleton.1 hz; exact hy
   have hpos : posW (O ++ [y]) b = (O ++ [y]).length := by
    unfold posW
    have : (O ++ [y]).takeWhile (fun y => decide (y.place b < 0)) = O ++ [y] := by
     have e := List.takeWhile_append_dropWhile (p := fun y => decide (y.place b < 0)) (l := O ++ [y])
     have e2 : (O ++ [y]).dropWhile (fun y => decide (y.place b < 0)) = [] := by
      have key : ∀ (l : List Wd), (∀ z ∈ l, z.place b < 0) → l.dropWhile (fun y => decide (y.place b < 0)) = [] := by
       intro l
       induction l with
       | nil => exact fun _ => rfl
       | cons z l ih =>
        intro h; rw [List.dropWhile_cons, if_pos (by simpa using h z (by simp))]
        exact ih (fun y hy => h y (by simp [hy]))
      exact key _ hall
     rw [e2, List.append_nil] at e; exact e
    rw [this]
   unfold insW; rw [hpos, List.take_length, List.drop_length]
   simp
theorem srt_id {O : List Wd} (hp : O.Pairwise aheadW) : srtP O = O.reverse := by
 revert hp
 refine snoc_ind (p := fun O => O.Pairwise aheadW → srtP O = O.reverse) (fun _ => rfl) (fun O y ih hp => ?_) O
 have hp2 := List.pairwise_append.1 hp; rw [srtP_snoc, ih hp2.1, List.reverse_append, List.reverse_singleton, List.singleton_append]
 cases hr : O.reverse with
 | nil => rfl
 | cons z r =>
  have hz : z ∈ O := by rw [← List.mem_reverse, hr]; simp
  have h1 := (hp2.2.2 z hz y (by simp)).1
  have h2 := place_swap z y; rw [insP, if_neg (by omega)]
theorem srt_took {l : List Wd} {x : Wd} (hl : Stl l) (hx : x.right = true) : (srtP (outOf l x ++ [becOf l x])).reverse = tookW l x := by
 have hp := out_pair (stl_pair.1 hl).2 x; rw [srtP_snoc, srt_id hp, ins_pos _ _ hp (bec_apart hx)]
 rfl
theorem took_fits {l : List Wd} {x : Wd} (h : ∀ y ∈ l, y.fits) (hx : x.fits) : (becOf l x).fits ∧ ∀ y ∈ tookW l x, y.fits := by
 have hb : (becOf l x).fits := by
  have key : ∀ (m : List Wd), (∀ o ∈ m, o.fits) → ∀ b : Wd, b.fits → (m.foldl grow b).fits := by
   intro m
   induction m with
   | nil => exact fun _ b h => h
   | cons o m ih =>
    intro hm b hb; refine ih (fun o ho => hm o (by simp [ho])) (grow b o) ?_
    have ho := hm o (by simp)
    unfold Wd.fits grow at *; exact ⟨hb.1, by simp only; omega, by simp only; omega⟩
  exact key _ (fun o ho => h o (List.mem_filter.1 ho).1) x hx
 refine ⟨hb, fun y hy => ?_⟩
 unfold tookW insW at hy; rcases List.mem_append.1 hy with hy | hy
 · exact outOf_fits h y (List.mem_of_mem_take hy)
 · rcases List.mem_cons.1 hy with rfl | hy
   · exact hb
   · exact outOf_fits h y (List.mem_of_mem_drop hy)
theorem ref_take {v : Value} {l : List Wd} {x : Wd} (w : World) (hv : WdsRO w v l) (hl : l.length + 1 ≤ 4398046511104) (hx : x.fits) (hset : Stl l) (hxr : x.right = true) :
    Calls Tryz.prog 186 #[v, wdV x] w fun e w' => ∃ v' vg, e = .returned (.tuple #[v', wdV (becOf l x), vg]) ∧ zS w w' [Row 61 3 v' (tookW l x).length (wds (tookW l x)), Row 3 1 vg (takeF l x).gave.length (intCells (takeF l x).gave)] := by
 obtain ⟨ao, cap, rfl, hcap, hfit, hic⟩ := hv; have hich := zH hic; have hfith := zH hfit; have hxfh := zH hx; have hrs := srt_took hset hxr; have hrl : (tookW l x).length = (outOf l x).length + 1 := by unfold tookW; rw [insW_len]
 have hbf := (took_fits hfit hx).1; clear hset hxr hic hfit hx; obtain ⟨xk, xf, xt⟩ := x; have H1 : zS w _ [_] := (St.nil (fun _ => False) w).allocAt rfl #[.string ⟨xk.toArray⟩, .int .i64 xf, .int .i64 xt] 61
 have H2 : zS w _ [_, _] := H1.allocAt (B := w.heap.size + 1) (Array.size_push _) #[.string ⟨#[]⟩, .int .i64 0, .int .i64 0] 61; have H2b : zS w _ [_, _, _] := H2.allocAt (B := w.heap.size + 1 + 1) (by simp) #[.string ⟨xk.toArray⟩, .int .i64 xf, .int .i64 xt] 61
 unfold wdV wdC textV; simp only; obtain ⟨bec, hbec⟩ := zNm (becOf l ⟨xk, xf, xt⟩); obtain ⟨res, hres⟩ := zNm (tookW l ⟨xk, xf, xt⟩); obtain ⟨gv, hgv⟩ := zNm ((takeF l ⟨xk, xf, xt⟩).gave); rw [hbec, hres] at hrs; rw [hbec] at hbf; rw [hres] at hrl; rw [hbec, hres, hgv]; have hbech := zH hbec; have hgvh := zH hgv; have hrsh := zH hrs; have hrlh := zH hrl; clear hbec hres hgv hrs hrl
 go_enter Tryz.func186, Tryz.ntmps186
 go_upto_region 4 with (fail)
 obtain ⟨bx, hbx⟩ := zNm w.heap.size; obtain ⟨br, hbr⟩ := zNm (bx + 1); obtain ⟨bb, hbb⟩ := zNm (br + 1); obtain ⟨w2, hw2⟩ := zNm (((w.alloc (.cells #[.string ⟨xk.toArray⟩, .int .i64 xf, .int .i64 xt] 61)).alloc (.cells #[.string ⟨#[]⟩, .int .i64 0, .int .i64 0] 61)).alloc (.cells #[.string ⟨xk.toArray⟩, .int .i64 xf, .int .i64 xt] 61)); rw [hw2, hbx, hbr, hbb] at H2b; rw [hw2]; simp only [hbx, hbr, hbb]; have H7 : zS w w2 [zcfP (wds []), zceP (intCells []), Blk bb (wdC ⟨xk, xf, xt⟩) 61, ztP br, zcP bx xk.toArray xf xt] := (H2b.row_nil 3 1).row_nil 61 3; clear hbx hbr hbb hw2 H1 H2 H2b
 go_upto_block 1 with (fail)
 go_loopw [7, 8, 10, 15] (fun u g _ j wr => ∃ (i : Nat) (s : TakeS), i ≤ l.length ∧ j = .int .i64 i ∧ Hid (s = takeF (l.take i) ⟨xk, xf, xt⟩) ∧ zS w wr [zblP (wds s.out) u s.out.length, Row 3 1 g s.gave.length (intCells s.gave), Blk bb (wdC s.became) 61, ztP br, zcP bx xk.toArray xf xt]) (fun _ _ _ j _ => l.length - (intOf j).toNat)
 case atStart => exact ⟨0, ⟨[], [], ⟨xk, xf, xt⟩, 0⟩, by omega, rfl, zH rfl, H7⟩
 case round =>
  clear H7; obtain ⟨i, s, hi, rfl, hs, HM⟩ := hrel; have hln := takeF_mono l ⟨xk, xf, xt⟩ i; rw [← hs.out] at hln
  by_cases hlt : i < l.length
  · obtain ⟨b, o, rfl, hb, hc⟩ := hich.out (by intro e; rw [e] at hlt; simp at hlt)
    obtain ⟨y, hy⟩ : ∃ y, l[i]? = some y := ⟨_, List.getElem?_eq_getElem hlt⟩; have hyf := hfith.out y (List.mem_of_getElem? hy); obtain ⟨q0, q1, q2⟩ := wd_cells (hc i y hy) (HM.kept.block b hb id); have kj := fun w' => ref_joins y ⟨xk, xf, xt⟩ hyf hxfh.out w'
    have hsn : takeF (l.take (i + 1)) ⟨xk, xf, xt⟩ = takeStep ⟨xk, xf, xt⟩ s y := by rw [take_snoc' hy, takeF_snoc, hs.out]
    have hsi : s.n = i := by rw [hs.out, takeF_n, List.length_take]; omega
    obtain ⟨J, hJ⟩ := zNm (y.joins ⟨xk, xf, xt⟩); rw [hJ] at kj; unfold takeStep at hsn; rw [hJ, hsi] at hsn; have hsnh := zH hsn; clear hJ hsn hsi hy hc hyf hs; obtain ⟨so, sg, ⟨sk, sf, st⟩, sn⟩ := s; obtain ⟨yk, yf, yt⟩ := y; unfold wdV wdC textV at kj; unfold wdC textV at HM; simp only at q0 q1 q2 kj hsnh hln HM; unfold textV at q0; have HA : zS w _ [_, _, _, _, _, _] := HM.allocAt rfl #[.string ⟨yk.toArray⟩, .int .i64 yf, .int .i64 yt] 61; go_upto_region 7 with (fail)
    obtain ⟨wb, hwb⟩ := zNm (wr.alloc (.cells #[.string ⟨yk.toArray⟩, .int .i64 yf, .int .i64 yt] 61)); obtain ⟨yb, hyb⟩ := zNm wr.heap.size; rw [hwb, hyb] at HA; (try rw [hwb]); (try simp only [hyb]); have HA2 : zS w wb [zcP yb yk.toArray yf yt, zblP (wds so) u7 so.length, Row 3 1 u8 sg.length (intCells sg), zcP bb sk.toArray sf st, ztP br, zcP bx xk.toArray xf xt] := HA; clear hwb hyb q0 q1 q2 HM HA; have d0 := HA2.cell 0 0 rfl rfl; have d1 := HA2.cell 0 1 rfl rfl; have d2 := HA2.cell 0 2 rfl rfl; have e0 := HA2.cell 5 0 rfl rfl; have e1 := HA2.cell 5 1 rfl rfl; have e2 := HA2.cell 5 2 rfl rfl
    cases J with
    | false =>
     go_wp2_with (first
      | (go_at_call 232; go_must (refine (St.callPast (kj _) HA2).mono ?_; rintro e w3 ⟨rfl, H3⟩; have d0 := H3.cell 0 0 rfl rfl; have d1 := H3.cell 0 1 rfl rfl; have d2 := H3.cell 0 2 rfl rfl))
      | (at_builtin; go_must (refine St.list_app (H3.skip _) 1 rfl rfl (.tmp 39) (.tmp 41) 145 rfl Tryz.underlying145 Tryz.info61 (by decide) rfl [.string ⟨yk.toArray⟩, .int .i64 yf, .int .i64 yt] rfl rfl (new_cells #[.string ⟨yk.toArray⟩, .int .i64 yf, .int .i64 yt] _) (by simp [Value.oneCell']) (by omega) (by omega) ?_; intro g5 cap5 w6 H6 hz6)))
     go_roundw
     case rel =>
      refine ⟨i + 1, _, by omega, by go_num, zH hsnh.out.symm, ?_⟩
      try rw [if_neg (by simp)]
      have H7 : zS w w6 [_, _, _, _, _, _] := H6; simp only [wds_app, wds_one, List.length_append, List.length_singleton]; exact H7.pick [1, 2, 3, 4, 5]
     case measure => simp [intOf]; omega
    | true =>
     go_upto_region 9 with (first
      | (go_at_call 232; go_must (refine (St.callPast (kj _) HA2).mono ?_; rintro e w3 ⟨rfl, H3⟩; have d0 := H3.cell 0 0 rfl rfl; have d1 := H3.cell 0 1 rfl rfl; have d2 := H3.cell 0 2 rfl rfl))
      | (at_builtin; go_must (refine St.list_app (H3.skip _) 2 rfl rfl (.tmp 23) (.tmp 25) 33 rfl Tryz.underlying33 Tryz.info3 (by decide) rfl [.int .i64 i] rfl rfl (new_cells #[.int .i64 i] _) (by simp [Value.oneCell']) (by omega) (by omega) ?_; intro g5 cap5 w6 H6 hz6)))
     have H7 : zS w w6 [zcP yb yk.toArray yf yt, zblP (wds so) u7 so.length, Row 3 1 (.slice (some ⟨g5, 0, none⟩) (sg.length + 1) cap5) (sg.length + 1) (intCells sg ++ [.int .i64 i]), zcP bb sk.toArray sf st, ztP br, zcP bx xk.toArray xf xt] := H6; clear d0 d1 d2 e0 e1 e2 H6 H3 HA2; have d1 := H7.cell 0 1 rfl rfl; have d2 := H7.cell 0 2 rfl rfl; have e1 := H7.cell 3 1 rfl rfl; have e2 := H7.cell 3 2 rfl rfl; have p1 := H7.free 3 1 rfl; have p2 := H7.free 3 2 rfl; have hne : ¬ yb = bb := blk_apart' (H7.pick [0, 3]); have hne2 : ¬ bb = yb := fun e => hne e.symm
     obtain ⟨m1, hm1⟩ := zNm (min sf yf); obtain ⟨m2, hm2⟩ := zNm (max st yt); have hm1h := zH hm1; have hm2h := zH hm2; have H8 := ((H7.set 3 rfl 1 (.int .i64 m1)).set 3 rfl 2 (.int .i64 m2)); go_wp2; go_roundw
     case rel =>
      refine ⟨i + 1, _, by omega, by go_num, zH hsnh.out.symm, ?_⟩
      (try rw [if_pos rfl]); (try simp only [if_true]); simp only [grow, List.length_append, List.length_singleton]; have ei : intCells (sg ++ [(i : Int)]) = intCells sg ++ [.int .i64 i] := by simp [intCells]
      rw [ei, hm1h.out, hm2h.out]; exact H8.pick [1, 2, 3, 4, 5]
     case measure => simp [intOf]; omega
  · obtain rfl : i = l.length := by omega
    rw [List.take_length] at hs; have hso : s.out = outOf l ⟨xk, xf, xt⟩ := by rw [hs.out, takeF_out]
    have hsb : s.became = bec := by rw [hs.out, takeF_bec, hbech.out]
    have hsg : s.gave = gv := by rw [hs.out, hgvh.out]
    obtain ⟨O, sg, B0, sn⟩ := s; simp only at hso hsb hsg HM hln; subst hsb hsg; have hrs := hrsh.out; have hrl := hrlh.out; rw [← hso] at hrs hrl
    have hOf : ∀ y ∈ O ++ [B0], y.fits := by
     rw [hso]; intro y hy; rcases List.mem_append.1 hy with hy | hy
     · exact outOf_fits hfith.out y hy
     · obtain rfl := List.mem_singleton.1 hy; exact hbf
    have ks := fun w' v' hv' => ref_wsorted (v := v') (l := O ++ [B0]) w' hv' (by simp; omega)
    rw [hrs] at ks; obtain ⟨ua, uc, rfl, huc, _⟩ := slice_form' (HM.row 0 rfl); obtain ⟨ga, gc, rfl, hgc, _⟩ := slice_form' (HM.row 1 rfl); have hOfh := zH hOf; have hone := wdC_one1 B0; have hOl : (O ++ [B0]).length = res.length := by rw [hrl]; simp
    have hrlh2 := zH hrl; clear hso hbf hrl hrlh hrs hrsh hich hbech hgvh hs hOf; obtain ⟨bk, bf, bt⟩ := B0; unfold wdC textV at HM hone; simp only at HM hone; go_upto_region 13 with (fail)
    have H6 : zS w wr [zqP (wds O) ua O.length uc, zxP (intCells sg) ga sg.length gc, zcP bb bk.toArray bf bt, ztP br] := HM.pick [0, 1, 2, 3]; clear HM; have hOl2 := zH hOl; clear hOl; refine wp_script [(0, false), (1, false), (5, false), (6, false), (2, true), (3, true), (4, true), (7, false), (8, true), (9, false)] (Fam fun w' => zS w w' [zcP bb bk.toArray bf bt]) (fun w' => zS w w' [zqP (wds O) ua O.length uc, zxP (intCells sg) ga sg.length gc, zcP bb bk.toArray bf bt, ztP br]) (by kernel_rfl) (by rfl) (by kernel_rfl) (by kernel_rfl) H6.drew (Fam.st (fun _ h => h.pick [2])) ?_
    iterate 4 first | (apply script_pass; rfl; rfl; intro K hK; go_simp; refine hK _ ?_; clear hK K) | (apply script_step; rfl; rfl; (focus (intro I hI w1 h1'; have h1 := hI.2 _ h1'; have d0 := h1.cell 0 0 rfl rfl; have d1 := h1.cell 0 1 rfl rfl; have d2 := h1.cell 0 2 rfl rfl; first | (go_simp; first | rfl | exact ⟨rfl, h1'⟩))); intro K hK; go_simp; refine hK _ ?_; clear hK K)
    obtain ⟨V1, hV1⟩ := hide_rel (fun u I' => ∃ g2, u = .slice (some ⟨g2, 0, none⟩) 1 1 ∧ I' = fun w' => zS w w' [zqP (wds O) ua O.length uc, zxP (intCells sg) ga sg.length gc, zcP bb bk.toArray bf bt, ztP br, zcP g2 bk.toArray bf bt])
    obtain ⟨V2, hV2⟩ := hide_rel (fun u I' => ∃ ad cap, u = .slice ad (O.length + 1) cap ∧ I' = fun w' => zS w w' [Row 61 3 (.slice ad (O.length + 1) cap) (O.length + 1) (wds (O ++ [⟨bk, bf, bt⟩])), zxP (intCells sg) ga sg.length gc, zcP bb bk.toArray bf bt, ztP br])
    obtain ⟨V3, hV3⟩ := hide_rel (fun u I' => ∃ v', u = v' ∧ I' = fun w' => zS w w' [zblP (wds res) v' res.length, zxP (intCells sg) ga sg.length gc, zcP bb bk.toArray bf bt, ztP br])
    refine script_big V1 rfl rfl ?_ ?_
    · intro w1 h1
      go_simp
      exact ⟨_, (hV1.out _ _).2 ⟨_, rfl, rfl⟩, (h1.alloc _ _).pick [1, 2, 3, 4, 0]⟩
    intro u I' hvI; obtain ⟨g2, rfl, rfl⟩ := (hV1.out _ _).1 hvI; clear hvI hV1; refine ⟨_, fun _ h => h, Fam.st (fun _ h => h.pick [2]), ?_⟩
    intro K hK
    go_simp
    refine hK _ ?_; clear hK K; refine script_big V2 rfl rfl ?_ ?_
    · intro w1 h1; refine h1.came_append 0 rfl (.tmp 44) (.tmp 46) 145 rfl Tryz.underlying145 Tryz.info61 (by decide) rfl [.string ⟨bk.toArray⟩, .int .i64 bf, .int .i64 bt] rfl rfl (by intro h; cases h) (blk_add (h1.blk 4 rfl)) hone (by omega) ?_
      intro v' w' H7; obtain ⟨va, vc, rfl, _, _⟩ := slice_form' (H7.row 0 rfl); refine ⟨_, (hV2.out _ _).2 ⟨va, vc, rfl, rfl⟩, ?_⟩; rw [wds_app, wds_one]; exact St.pick (l := [_, _, _, _, _]) H7 [0, 1, 2, 3]
    intro u I' hvI; obtain ⟨va, vc, rfl, rfl⟩ := (hV2.out _ _).1 hvI; clear hvI hV2; refine ⟨_, fun _ h => h, Fam.st (fun _ h => h.pick [2]), ?_⟩
    intro K hK
    go_simp
    refine hK _ ?_; clear hK K; refine script_big V3 rfl rfl ?_ ?_
    · intro w1 h1; have hro := wds_own (h1.row 0 rfl) hOfh.out; have ks2 := ks w1 _ hro; rw [hOl2.out] at ks2
      go_simp
      refine ks2.mono ?_; rintro e w7 ⟨v', rfl, H7⟩; have H8 : zS w w7 [_, _, _, _, _] := h1.call0 H7; exact ⟨_, rfl, _, (hV3.out _ _).2 ⟨v', rfl, rfl⟩, H8.pick [0, 2, 3, 4]⟩
    intro u I' hvI; obtain ⟨v', rfl, rfl⟩ := (hV3.out _ _).1 hvI; clear hvI hV3; refine ⟨_, fun _ h => h, Fam.st (fun _ h => h.pick [2]), ?_⟩
    intro K hK
    go_simp
    refine hK _ ?_; clear hK K
    iterate 1 first | (apply script_pass; rfl; rfl; intro K hK; go_simp; refine hK _ ?_; clear hK K) | (apply script_step; rfl; rfl; (focus (intro I hI w1 h1'; have h1 := hI.2 _ h1'; first | (go_simp; first | rfl | exact ⟨rfl, h1'⟩))); intro K hK; go_simp; refine hK _ ?_; clear hK K)
    obtain ⟨V4, hV4⟩ := hide_rel (fun uu I' => uu = undef ∧ I' = fun w' => zS w w' [zblP (wds res) u res.length, zxP (intCells sg) ga sg.length gc, zcP bb bk.toArray bf bt, zcP br bk.toArray bf bt])
    refine script_big V4 rfl rfl ?_ ?_
    · intro w1 h1; have p0 := h1.cell 3 0 rfl rfl; have p1 := h1.cell 3 1 rfl rfl; have p2 := h1.cell 3 2 rfl rfl; have f0 := h1.free 3 0 rfl; have f1 := h1.free 3 1 rfl; have f2 := h1.free 3 2 rfl
      go_simp
      exact ⟨_, (hV4.out _ _).2 ⟨rfl, rfl⟩, ((h1.set 3 rfl 0 _).set 3 rfl 1 _).set 3 rfl 2 _⟩
    intro u2 I' hvI; obtain ⟨rfl, rfl⟩ := (hV4.out _ _).1 hvI; clear hvI hV4; refine ⟨_, fun _ h => h, Fam.st (fun _ h => h.pick [2]), ?_⟩
    intro K hK
    go_simp
    refine hK _ ?_; clear hK K
    iterate 1 first | (apply script_pass; rfl; rfl; intro K hK; go_simp; refine hK _ ?_; clear hK K) | (apply script_step; rfl; rfl; (focus (intro I hI w1 h1'; have h1 := hI.2 _ h1'; first | (go_simp; first | rfl | exact ⟨rfl, h1'⟩))); intro K hK; go_simp; refine hK _ ?_; clear hK K)
    refine script_nil ?_; intro w9 H9; go_wp2
    try simp only [Exit.inBlock, Exit.then]
    refine bodyPost_ret (results_tct rfl rfl (blk_range (cs := [.string ⟨bk.toArray⟩, .int .i64 bf, .int .i64 bt]) (H9.blk 3 rfl)) Tryz.underlying61 rfl (by kernel_rfl)) rfl ?_
    exact ⟨u, .slice ga sg.length gc, rfl, H9.pick [0, 1]⟩
end Go.Proofs.YtiglgfonhdfpmaaGreat
namespace Go.Proofs.YtiglgfonhdfpmaaGreat
open Go.RowKit
def pairAt (l : List Wd) (k j : Nat) : Prop := ∀ a b, l[k]? = some a → l[j]? = some b → j ≠ k → a.joins b = false ∧ (j < k ↔ b.place a < 0)
def allAt (l : List Wd) (k : Nat) : Prop := (∀ a, l[k]? = some a → a.right = true) ∧ ∀ j, pairAt l k j
theorem stl_all {l : List Wd} : Stl l ↔ ∀ k, allAt l k := by
 constructor
 · intro h k; obtain ⟨h1, h2⟩ := stl_iff.1 h; refine ⟨fun a ha => h1 a (List.mem_of_getElem? ha), fun j a b ha hb hjk => ?_⟩
   rcases Nat.lt_or_gt_of_ne hjk with hlt | hgt
   · obtain ⟨g1, g2⟩ := h2 j k b a hlt hb ha; exact ⟨by rw [joins_swap]; exact g2, fun _ => g1, fun _ => hlt⟩
   · obtain ⟨g1, g2⟩ := h2 k j a b hgt ha hb; refine ⟨g2, fun h => by omega, fun h => ?_⟩
     have := place_swap a b
     omega
 · intro h k x hx; refine ⟨(h k).1 x hx, fun j y hj hy => ?_⟩
   obtain ⟨g1, g2⟩ := (h k).2 j x y hx hy (by omega)
   exact ⟨g2.1 (by omega), by rw [joins_swap]; exact g1⟩
theorem ref_settled {v : Value} {l : List Wd} (w : World) (hv : WdsRO w v l) (hl : l.length ≤ 9223372036854775807) :
    Calls Tryz.prog 183 #[v] w fun e w' => e = .returned (.bool (stl l)) ∧ Below w.heap.size w w' := by
 obtain ⟨ao, cap, rfl, hcap, hfit, hic⟩ := hv; have H0 : zS w w [] := St.nil _ w; have hich := zH hic; have hfith := zH hfit; clear hic hfit
 go_enter Tryz.func183, Tryz.ntmps183
 go_upto_block 1 with (fail)
 go_loopw [3, 9] (fun _ j wr => ∃ (i : Nat), i ≤ l.length ∧ j = .int .i64 i ∧ Hid (∀ k, k < i → allAt l k) ∧ zS w wr []) (fun _ j _ => l.length - (intOf j).toNat)
 case atStart => exact ⟨0, by omega, rfl, zH (fun k hk => absurd hk (by omega)), H0⟩
 case round =>
  clear H0; obtain ⟨i, hi, rfl, hg, HM⟩ := hrel
  by_cases hlt : i < l.length
  · obtain ⟨b, o, rfl, hb, hc⟩ := hich.out (by intro e; rw [e] at hlt; simp at hlt)
    obtain ⟨x, hx⟩ : ∃ x, l[i]? = some x := ⟨_, List.getElem?_eq_getElem hlt⟩; have hxf := hfith.out x (List.mem_of_getElem? hx); obtain ⟨q0, q1, q2⟩ := wd_cells (hc i x hx) (HM.kept.block b hb id); have hch := zH hc; have kr := fun w' => ref_wright x hxf w'
    have hxh := zH hx; have hxfh := zH hxf; obtain ⟨r, hr⟩ := zNm x.right; rw [hr] at kr; have hrh := zH hr; clear hr hx hc hxf; obtain ⟨xk, xf, xt⟩ := x; unfold wdV wdC textV at kr; simp only at q0 q1 q2 kr; unfold textV at q0; have HA : zS w _ [_] := HM.allocAt rfl #[.string ⟨xk.toArray⟩, .int .i64 xf, .int .i64 xt] 61; go_upto_region 4 with (fail)
    obtain ⟨wb, hwb⟩ := zNm (wr.alloc (.cells #[.string ⟨xk.toArray⟩, .int .i64 xf, .int .i64 xt] 61)); obtain ⟨xb, hxb⟩ := zNm wr.heap.size; rw [hwb, hxb] at HA; (try rw [hwb]); (try simp only [hxb]); have HA2 : zS w wb [zcP xb xk.toArray xf xt] := HA; clear hwb hxb q0 q1 q2 HM HA; have d0 := HA2.cell 0 0 rfl rfl; have d1 := HA2.cell 0 1 rfl rfl; have d2 := HA2.cell 0 2 rfl rfl
    cases r with
    | false =>
     go_wp2_with (go_at_call 177; go_must (refine (St.callPast (kr _) HA2).mono ?_; rintro e w3 ⟨rfl, H3⟩))
     go_ret; have hno : stl l = false := stl_false.2 (fun h => by have := (stl_all.1 h i).1 _ hxh.out; rw [hrh.out] at this; cases this)
     rw [hno]; exact ⟨rfl, H3.below (Nat.le_refl _) (fun _ h => h.elim)⟩
    | true =>
     go_upto_block 3 with (go_at_call 177; go_must (refine (St.callPast (kr _) HA2).mono ?_; rintro e w3 ⟨rfl, H3⟩))
     clear d0 d1 d2 HA2 kr
     go_loopw [5, 19] (fun _ j wr => ∃ (m : Nat), m ≤ l.length ∧ j = .int .i64 m ∧ Hid (∀ j, j < m → pairAt l i j) ∧ zS w wr [zcP xb xk.toArray xf xt]) (fun _ j _ => l.length - (intOf j).toNat)
     case atStart => exact ⟨0, by omega, rfl, zH (fun k hk => absurd hk (by omega)), H3⟩
     case round =>
      clear H3; obtain ⟨m, hm, rfl, hp, HM⟩ := hrel
      by_cases hml : m < l.length
      · obtain ⟨y, hy⟩ : ∃ y, l[m]? = some y := ⟨_, List.getElem?_eq_getElem hml⟩; have hyf := hfith.out y (List.mem_of_getElem? hy); obtain ⟨q0, q1, q2⟩ := wd_cells (hch.out m y hy) (HM.kept.block b hb id); have kj := fun w' => ref_joins ⟨xk, xf, xt⟩ y hxfh.out hyf w'
        have kp := fun w' => ref_place y ⟨xk, xf, xt⟩ w'
        have hone : Hid (∀ a b, l[i]? = some a → l[m]? = some b → a = ⟨xk, xf, xt⟩ ∧ b = y) := zH (fun a b ha hb => by
         rw [hxh.out] at ha; rw [hy] at hb
         exact ⟨(Option.some.inj ha).symm, (Option.some.inj hb).symm⟩)
        have hyh := zH hy; obtain ⟨J, hJ⟩ := zNm (Wd.joins ⟨xk, xf, xt⟩ y); obtain ⟨P, hP⟩ := zNm (y.place ⟨xk, xf, xt⟩); rw [hJ] at kj; rw [hP] at kp; have hJh := zH hJ; have hPh := zH hP; clear hJ hP hy hyf; obtain ⟨yk, yf, yt⟩ := y; unfold wdV wdC textV at kj kp; simp only at q0 q1 q2 kj kp; unfold textV at q0; have HA : zS w _ [_, _] := HM.allocAt rfl #[.string ⟨yk.toArray⟩, .int .i64 yf, .int .i64 yt] 61; go_upto_region 9 with (fail)
        obtain ⟨wb, hwb⟩ := zNm (wr.alloc (.cells #[.string ⟨yk.toArray⟩, .int .i64 yf, .int .i64 yt] 61)); obtain ⟨yb, hyb⟩ := zNm wr.heap.size; rw [hwb, hyb] at HA; (try rw [hwb]); (try simp only [hyb]); have HA2 : zS w wb [zcP yb yk.toArray yf yt, zcP xb xk.toArray xf xt] := HA; clear hwb hyb q0 q1 q2 HM HA; have d0 := HA2.cell 0 0 rfl rfl; have d1 := HA2.cell 0 1 rfl rfl; have d2 := HA2.cell 0 2 rfl rfl; have e0 := HA2.cell 1 0 rfl rfl; have e1 := HA2.cell 1 1 rfl rfl; have e2 := HA2.cell 1 2 rfl rfl
        by_cases hmi : m = i
        · have z1 : ((m : Int) != (i : Int)) = false := by simp [hmi]
          have z1' : (m != i) = false := by simp [hmi]
          have z2 : ((m : Int) == (i : Int)) = true := by simp [hmi]
          have z2' : (m == i) = true := by simp [hmi]
          have hmih := zH hmi; clear hmi; go_wp2; go_roundw
          case rel =>
           refine ⟨m + 1, by omega, by go_num, zH (fun j hj => ?_), HA2.pick [1]⟩
           by_cases e : j = m
           · intro a b _ _ hne; exact absurd (e.trans hmih.out) hne
           · exact hp.out j (by omega)
          case measure => simp [intOf]; omega
        · have z1 : ((m : Int) != (i : Int)) = true := by simp; omega
          have z1' : (m != i) = true := by simp [hmi]
          have z2 : ((m : Int) == (i : Int)) = false := by simp; omega
          have z2' : (m == i) = false := by simp [hmi]
          have hmih := zH hmi; obtain ⟨lt, hlt1⟩ := zNm (decide (m < i)); have hlt2 : decide ((m : Int) < (i : Int)) = lt := by rw [← hlt1]; simp
          obtain ⟨pb, hpb⟩ := zNm (decide (P < 0))
          have hpair : Hid (pairAt l i m ↔ (J = false ∧ lt = pb)) := zH (by
           rw [← hJh.out, ← hlt1, ← hpb, ← hPh.out]
           constructor
           · intro h; obtain ⟨g1, g2⟩ := h _ _ hxh.out hyh.out hmi; exact ⟨g1, by rw [decide_eq_decide]; exact g2⟩
           · rintro ⟨g1, g2⟩ a b ha hb _; obtain ⟨rfl, rfl⟩ := hone.out a b ha hb
             exact ⟨g1, decide_eq_decide.1 g2⟩)
          clear hmi hJh hPh; have hend : Hid (¬ (J = false ∧ lt = pb) → stl l = false) := zH (fun hn => stl_false.2 (fun h => hn (hpair.out.1 ((stl_all.1 h i).2 m))))
          have hcs : J = true ∨ (J = false ∧ lt = !pb) ∨ (J = false ∧ lt = pb) := by cases J <;> cases lt <;> cases pb <;> simp
          rcases hcs with rfl | ⟨rfl, hlp⟩ | ⟨rfl, hlp⟩
          · go_wp2_with (go_at_call 232; go_must (refine (St.callPast (kj _) HA2).mono ?_; rintro e w4 ⟨rfl, H4⟩))
            go_ret; rw [hend.out (by simp)]
            exact ⟨rfl, H4.below (Nat.le_refl _) (fun _ h => h.elim)⟩
          · have hn := zH (hend.out (by rintro ⟨_, h⟩; rw [hlp] at h; cases pb <;> simp at h))
            clear hend hpair; subst hlp; cases pb
            all_goals
             go_wp2_with (first
              | (go_at_call 232; go_must (refine (St.callPast (kj _) HA2).mono ?_; rintro e w4 ⟨rfl, H4⟩; have d0 := H4.cell 0 0 rfl rfl; have d1 := H4.cell 0 1 rfl rfl; have d2 := H4.cell 0 2 rfl rfl; have e0 := H4.cell 1 0 rfl rfl; have e1 := H4.cell 1 1 rfl rfl; have e2 := H4.cell 1 2 rfl rfl))
              | (go_at_call 180; go_must (refine (St.callPast (kp _) H4).mono ?_; rintro e w5 ⟨rfl, H5⟩)))
             go_ret; rw [hn.out]; exact ⟨rfl, H5.below (Nat.le_refl _) (fun _ h => h.elim)⟩
          · have hn := zH (hpair.out.2 ⟨rfl, hlp⟩); clear hend hpair; subst hlp; cases lt
            all_goals
             go_wp2_with (first
              | (go_at_call 232; go_must (refine (St.callPast (kj _) HA2).mono ?_; rintro e w4 ⟨rfl, H4⟩; have d0 := H4.cell 0 0 rfl rfl; have d1 := H4.cell 0 1 rfl rfl; have d2 := H4.cell 0 2 rfl rfl; have e0 := H4.cell 1 0 rfl rfl; have e1 := H4.cell 1 1 rfl rfl; have e2 := H4.cell 1 2 rfl rfl))
              | (go_at_call 180; go_must (refine (St.callPast (kp _) H4).mono ?_; rintro e w5 ⟨rfl, H5⟩)))
             go_roundw
             case rel =>
              refine ⟨m + 1, by omega, by go_num, zH (fun j hj => ?_), H5.pick [1]⟩
              by_cases e : j = m
              · subst e; exact hn.out
              · exact hp.out j (by omega)
             case measure => simp [intOf]; omega
      · obtain rfl : m = l.length := by omega
        go_wp2; go_roundw
        case rel =>
         refine ⟨i + 1, by omega, by go_num, zH (fun k hk => ?_), HM.pick []⟩
         by_cases e : k = i
         · subst e; refine ⟨fun a ha => ?_, fun j => ?_⟩
           · rw [hxh.out] at ha; obtain rfl := Option.some.inj ha; exact hrh.out
           · by_cases hj : j < l.length
             · exact hp.out j hj
             · intro a b _ hb; rw [List.getElem?_eq_none (by omega)] at hb
               cases hb
         · exact hg.out k (by omega)
        case measure => simp [intOf]; omega
  · obtain rfl : i = l.length := by omega
    have hyes : stl l = true := stl_true.2 (stl_all.2 (fun k => by
     by_cases hk : k < l.length
     · exact hg.out k hk
     · refine ⟨fun a ha => ?_, fun j a b ha => ?_⟩ <;> (rw [List.getElem?_eq_none (by omega)] at ha; cases ha)))
    have hyh := zH hyes; clear hyes; go_wp2; go_ret; rw [hyh.out]; exact ⟨rfl, HM.below (Nat.le_refl _) (fun _ h => h.elim)⟩
end Go.Proofs.YtiglgfonhdfpmaaGreat
namespace Go.Proofs.YtiglgfonhdfpmaaGreat
open Go.RowKit
theorem itms_blk {w : World} {b : Nat} {t : TypeId} {l : List Itm} (hb : w.heap[b]? = some (.cells (l.map fun x => (itmC x).toList).flatten.toArray t (0, 0))) (hf : ∀ x ∈ l, x.fits) : ItmsRO w (.slice (some ⟨b, 0, none⟩) l.length l.length) l := by
 refine ⟨_, _, rfl, Nat.le_refl _, hf, fun _ => ⟨b, 0, rfl, blk_lt hb, fun i x hi j z hj => ?_⟩⟩
 show w.cell? ⟨b, 0 + i * 4 + j, none⟩ = some z
 rw [Nat.zero_add]; refine cell_blk' hb ?_; rw [List.getElem?_toArray]; exact itms_get hi hj
end Go.Proofs.YtiglgfonhdfpmaaGreat
namespace Go.Proofs.YtiglgfonhdfpmaaGreat
open Go
def ib (n : Int) : Nat := FloatKind.f64.encode (.number (decide (n < 0)) n.natAbs 0)
theorem log2_up {m : Nat} (h : m ≠ 0) (e : Nat) : (m * 2 ^ e).log2 = m.log2 + e := by
 have hm : m * 2 ^ e ≠ 0 := Nat.mul_ne_zero h (Nat.pos_iff_ne_zero.1 (Nat.two_pow_pos e)); have h1 : 2 ^ m.log2 ≤ m := Nat.log2_self_le h; have h2 : m < 2 ^ (m.log2 + 1) := Nat.lt_log2_self; have a : m.log2 + e ≤ (m * 2 ^ e).log2 := (Nat.le_log2 hm).2 (by rw [Nat.pow_add]; exact Nat.mul_le_mul_right _ h1)
 have b : (m * 2 ^ e).log2 < m.log2 + e + 1 := (Nat.log2_lt hm).2 (by
  rw [show m.log2 + e + 1 = (m.log2 + 1) + e by omega, Nat.pow_add]
  exact Nat.mul_lt_mul_of_pos_right h2 (Nat.two_pow_pos e))
 omega
theorem cut_none (way : Ieee.Toward) (neg : Bool) (n : Nat) : way.cut neg n 0 = n := by
 unfold Ieee.Toward.cut; have h0 : min 0 (n.log2 + 2) = 0 := Nat.zero_min _; simp only [h0, Nat.shiftLeft_zero, Nat.div_one, Nat.mod_one]
 cases way <;> simp
theorem cut_even {neg : Bool} {m D : Nat} (h : m ≠ 0) : Ieee.Toward.even.cut neg (m * 2 ^ D) D = m := by
 unfold Ieee.Toward.cut; have h0 : min D ((m * 2 ^ D).log2 + 2) = D := Nat.min_eq_left (by rw [log2_up h]; omega)
 have hp := Nat.two_pow_pos D; simp only [h0, Nat.shiftLeft_eq, Nat.one_mul, Nat.mul_div_cancel _ hp, Nat.mul_mod_left]; have h1 : ¬ (2 ^ D < 2 * 0) := by omega
 have h2 : (2 ^ D == 2 * 0) = false := by simp
 simp [h2]
theorem cut_zero {neg : Bool} (m D : Nat) : Ieee.Toward.zero.cut neg (m * 2 ^ D) D = m := by
 unfold Ieee.Toward.cut
 by_cases h : m = 0
 · subst h
   simp
 · have h0 : min D ((m * 2 ^ D).log2 + 2) = D := Nat.min_eq_left (by rw [log2_up h]; omega)
   have hp := Nat.two_pow_pos D; simp only [h0, Nat.shiftLeft_eq, Nat.one_mul, Nat.mul_div_cancel _ hp]
   simp
def rungOf (m : Nat) : Nat := (m.log2 + 1022) * 2 ^ 52 + m * 2 ^ (52 - m.log2)
theorem rung_part {m : Nat} (h : m ≠ 0) (hm : m < 2 ^ 53) : m.log2 ≤ 52 ∧ 2 ^ 52 ≤ m * 2 ^ (52 - m.log2) ∧ m * 2 ^ (52 - m.log2) < 2 ^ 53 := by
 have h1 : 2 ^ m.log2 ≤ m := Nat.log2_self_le h; have h2 : m < 2 ^ (m.log2 + 1) := Nat.lt_log2_self
 have hl : m.log2 ≤ 52 := by
  have := (Nat.log2_lt h).2 hm
  omega
 refine ⟨hl, ?_, ?_⟩
 · calc 2 ^ 52 = 2 ^ m.log2 * 2 ^ (52 - m.log2) := by rw [← Nat.pow_add]; congr 1; omega
    _ ≤ m * 2 ^ (52 - m.log2) := Nat.mul_le_mul_right _ h1
 · calc m * 2 ^ (52 - m.log2) < 2 ^ (m.log2 + 1) * 2 ^ (52 - m.log2) := Nat.mul_lt_mul_of_pos_right h2 (Nat.two_pow_pos _)
    _ = 2 ^ 53 := by rw [← Nat.pow_add]; congr 1; omega
theorem rung_lt {m : Nat} (h : m ≠ 0) (hm : m < 2 ^ 53) : rungOf m < 2047 * 2 ^ 52 ∧ 1023 * 2 ^ 52 ≤ rungOf m := by
 obtain ⟨h1, h2, h3⟩ := rung_part h hm; unfold rungOf
 omega
theorem write_int {neg : Bool} {m e : Nat} (hm : m < 2 ^ 53) : Ieee.double.nearest neg (m * 2 ^ e) (-(e : Int)) = if m = 0 then Ieee.double.word neg 0 else Ieee.double.word neg (rungOf m) := by
 unfold Ieee.Format.nearest
 by_cases h : m = 0
 · subst h
   simp
 · have hm0 : m * 2 ^ e ≠ 0 := Nat.mul_ne_zero h (Nat.pos_iff_ne_zero.1 (Nat.two_pow_pos e)); obtain ⟨h1, h2, h3⟩ := rung_part h hm; have hl : Ieee.double.leastPlace = -1074 := by decide
   have hf : Ieee.double.fractionBits = 52 := rfl; have hb : Ieee.double.binade = 2 ^ 52 := rfl; have hi : Ieee.double.infRung = 2047 * 2 ^ 52 := by decide
   rw [if_neg hm0, if_neg h, log2_up h, hl, hf, hb, hi]; have elast : max (-(e : Int) + ((m.log2 + e : Nat) : Int) - (52 : Nat)) (-1074) = (m.log2 : Int) - 52 := by omega
   simp only [elast]
   have ekept : Ieee.Toward.even.cut neg ((m * 2 ^ e) <<< (-(e : Int) - ((m.log2 : Int) - 52)).toNat) (((m.log2 : Int) - 52) - -(e : Int)).toNat = m * 2 ^ (52 - m.log2) := by
    rw [Nat.shiftLeft_eq]; rcases Nat.le_total e (52 - m.log2) with hle | hle
    · have e1 : (-(e : Int) - ((m.log2 : Int) - 52)).toNat = 52 - m.log2 - e := by omega
      have e2 : (((m.log2 : Int) - 52) - -(e : Int)).toNat = 0 := by omega
      rw [e1, e2, cut_none, Nat.mul_assoc, ← Nat.pow_add]
      congr 2
      omega
    · have e1 : (-(e : Int) - ((m.log2 : Int) - 52)).toNat = 0 := by omega
      have e2 : (((m.log2 : Int) - 52) - -(e : Int)).toNat = e - (52 - m.log2) := by omega
      rw [e1, e2, Nat.pow_zero, Nat.mul_one]
      have e3 : m * 2 ^ e = m * 2 ^ (52 - m.log2) * 2 ^ (e - (52 - m.log2)) := by
       rw [Nat.mul_assoc, ← Nat.pow_add]
       congr 2
       omega
      rw [e3]; exact cut_even (by omega)
   rw [ekept]
   congr 1
   have e4 : ((m.log2 : Int) - 52 - -1074).toNat = m.log2 + 1022 := by omega
   rw [e4, Nat.min_eq_left]
   · rfl
   · have := rung_lt h hm; unfold rungOf at this
     omega
def Rep (d : Ieee.Datum) (n : Int) : Prop := ∃ e : Nat, d = .number (decide (n < 0)) (n.natAbs * 2 ^ e) (-(e : Int))
theorem rep_write {d : Ieee.Datum} {n : Int} (h : Rep d n) (hn : n.natAbs < 2 ^ 53) : Ieee.double.write d = ib n := by
 obtain ⟨e, rfl⟩ := h
 show Ieee.double.nearest _ _ _ = Ieee.double.nearest _ _ _
 have h1 := write_int (neg := decide (n < 0)) (m := n.natAbs) (e := e) hn; have h2 := write_int (neg := decide (n < 0)) (m := n.natAbs) (e := 0) hn; rw [h1]; simp only [Nat.pow_zero, Nat.mul_one] at h2; exact h2.symm
theorem ib_zero : ib 0 = 0 := by decide
theorem ib_is {n : Int} (hn : n.natAbs < 2 ^ 53) (h0 : n ≠ 0) : ib n = Ieee.double.word (decide (n < 0)) (rungOf n.natAbs) := by
 have h2 := write_int (neg := decide (n < 0)) (m := n.natAbs) (e := 0) hn; simp only [Nat.pow_zero, Nat.mul_one] at h2; rw [if_neg (by omega)] at h2
 exact h2
theorem read_word (neg : Bool) {r : Nat} (h1 : 2 ^ 52 ≤ r) (h2 : r < 2047 * 2 ^ 52) : Ieee.double.read (Ieee.double.word neg r) = .number neg (2 ^ 52 + r % 2 ^ 52) (-1074 + ((r / 2 ^ 52 - 1 : Nat) : Int)) := by
 have hl : Ieee.double.leastPlace = -1074 := by decide
 have hb : Ieee.double.binade = 2 ^ 52 := rfl; have hi : Ieee.double.infRung = 2047 * 2 ^ 52 := by decide
 have hs : Ieee.double.signWeight = 2 ^ 63 := rfl; unfold Ieee.Format.read Ieee.Format.word; rw [hl, hb, hi, hs]; cases neg
 · simp only [Bool.false_eq_true, if_false]; have e1 : r / 2 ^ 63 % 2 = 0 := by omega
   have e2 : r % 2 ^ 63 = r := by omega
   rw [e1, e2, if_neg (by omega), if_pos h2]
   rfl
 · simp only [if_true]; have e1 : (2 ^ 63 + r) / 2 ^ 63 % 2 = 1 := by omega
   have e2 : (2 ^ 63 + r) % 2 ^ 63 = r := by omega
   rw [e1, e2, if_neg (by omega), if_pos h2]
   rfl
theorem rep_read {n : Int} (hn : n.natAbs < 2 ^ 53) : Rep (Ieee.double.read (ib n)) n := by
 by_cases h0 : n = 0
 · subst h0; have h : Ieee.double.read 0 = .number false 0 (-1074) := by decide +kernel
   obtain ⟨e, he⟩ : ∃ e : Nat, e = 1074 := ⟨_, rfl⟩; refine ⟨e, ?_⟩; rw [ib_zero, h, show (0 : Int).natAbs = 0 from rfl, Nat.zero_mul, he]
   rfl
 · have h : n.natAbs ≠ 0 := by omega
   obtain ⟨h1, h2, h3⟩ := rung_part h hn; obtain ⟨h4, h5⟩ := rung_lt h hn; rw [ib_is hn h0, read_word _ (by omega) h4]
   refine ⟨52 - n.natAbs.log2, ?_⟩
   have e1 : rungOf n.natAbs % 2 ^ 52 = n.natAbs * 2 ^ (52 - n.natAbs.log2) - 2 ^ 52 := by
    unfold rungOf
    omega
   have e2 : rungOf n.natAbs / 2 ^ 52 = n.natAbs.log2 + 1023 := by
    unfold rungOf
    omega
   have e3 : 2 ^ 52 + (n.natAbs * 2 ^ (52 - n.natAbs.log2) - 2 ^ 52) = n.natAbs * 2 ^ (52 - n.natAbs.log2) := by omega
   have e4 : -1074 + ((n.natAbs.log2 + 1023 - 1 : Nat) : Int) = -((52 - n.natAbs.log2 : Nat) : Int) := by omega
   rw [e1, e2, e3, e4]
theorem signed_rep (n : Int) {e E : Nat} (h : e ≤ E) : Ieee.signed (decide (n < 0)) (n.natAbs * 2 ^ e) (E - e) = n * ((2 ^ E : Nat) : Int) := by
 unfold Ieee.signed; rw [Nat.shiftLeft_eq, Nat.mul_assoc, ← Nat.pow_add, show e + (E - e) = E by omega]
 by_cases hn : n < 0
 · rw [if_pos (by simpa using hn), Int.natCast_mul, show ((n.natAbs : Nat) : Int) = -n by omega]
   rw [Int.neg_mul, Int.neg_neg]
 · rw [if_neg (by simpa using hn), Int.natCast_mul, show ((n.natAbs : Nat) : Int) = n by omega]
theorem base_min (i j : Nat) : min (-(i : Int)) (-(j : Int)) = -((max i j : Nat) : Int) := by omega
theorem rep_sum {x y : Ieee.Datum} {a b : Int} (hx : Rep x a) (hy : Rep y b) : ∃ z, x.sum y = some z ∧ Rep z (a + b) := by
 obtain ⟨i, rfl⟩ := hx; obtain ⟨j, rfl⟩ := hy; refine ⟨.number (decide (a + b < 0)) ((a + b).natAbs * 2 ^ (max i j)) (-((max i j : Nat) : Int)), ?_, max i j, rfl⟩; unfold Ieee.Datum.sum; simp only [base_min]; rw [show (-(i : Int) - -((max i j : Nat) : Int)).toNat = max i j - i by omega, show (-(j : Int) - -((max i j : Nat) : Int)).toNat = max i j - j by omega]
 rw [signed_rep a (Nat.le_max_left i j), signed_rep b (Nat.le_max_right i j), ← Int.add_mul]; have hp : (0 : Int) < ((2 ^ (max i j) : Nat) : Int) := by have := Nat.two_pow_pos (max i j); omega
 congr 2
 · by_cases h : a + b = 0
   · rw [h]
     simp
     omega
   · have hne : (a + b) * ((2 ^ (max i j) : Nat) : Int) ≠ 0 := Int.mul_ne_zero h (by omega)
     rw [if_neg hne]
     by_cases hn : a + b < 0
     · have := Int.mul_neg_of_neg_of_pos hn hp; rw [decide_eq_true hn, decide_eq_true this]
     · have := Int.mul_nonneg (show 0 ≤ a + b by omega) (show 0 ≤ ((2 ^ (max i j) : Nat) : Int) by omega)
       rw [decide_eq_false hn, decide_eq_false (by omega)]
 · rw [Int.natAbs_mul]
   rfl
theorem add_ib {a b : Int} (ha : a.natAbs < 2 ^ 52) (hb : b.natAbs < 2 ^ 52) : floatBits .add .f64 (ib a) (ib b) = some (ib (a + b)) := by
 show Ieee.double.add (ib a) (ib b) = _
 unfold Ieee.Format.add; obtain ⟨z, h1, h2⟩ := rep_sum (rep_read (n := a) (by omega)) (rep_read (n := b) (by omega))
 rw [h1]
 show some _ = _
 rw [rep_write h2 (by omega)]
theorem order_ib {a b : Int} (ha : a.natAbs < 2 ^ 53) (hb : b.natAbs < 2 ^ 53) : Ieee.double.order (ib a) (ib b) = some (compare a b) := by
 obtain ⟨i, h1⟩ := rep_read ha; obtain ⟨j, h2⟩ := rep_read hb; unfold Ieee.Format.order; rw [h1, h2]; unfold Ieee.Datum.order; simp only [base_min]; rw [show (-(i : Int) - -((max i j : Nat) : Int)).toNat = max i j - i by omega, show (-(j : Int) - -((max i j : Nat) : Int)).toNat = max i j - j by omega]
 rw [signed_rep a (Nat.le_max_left i j), signed_rep b (Nat.le_max_right i j)]; have hp : (0 : Int) < ((2 ^ (max i j) : Nat) : Int) := by have := Nat.two_pow_pos (max i j); omega
 obtain ⟨K, hK⟩ : ∃ K : Int, ((2 ^ (max i j) : Nat) : Int) = K := ⟨_, rfl⟩; rw [hK] at hp ⊢
 congr 1
 show (if a * K < b * K then Ordering.lt else if a * K = b * K then Ordering.eq else Ordering.gt) = (if a < b then Ordering.lt else if a = b then Ordering.eq else Ordering.gt)
 have e1 : a * K < b * K ↔ a < b := Int.mul_lt_mul_right hp; have e2 : a * K = b * K ↔ a = b := ⟨fun h => Int.eq_of_mul_eq_mul_right (by omega) h, fun h => by rw [h]⟩
 simp only [e1, e2]
theorem toInt_ib {a : Int} (ha : a.natAbs < 2 ^ 53) : (Ieee.double.read (ib a)).toInt .zero = some a := by
 obtain ⟨e, h1⟩ := rep_read ha; rw [h1]; unfold Ieee.Datum.toInt Ieee.Datum.integral; simp only; rw [show (-(e : Int)).toNat = 0 by omega, Nat.shiftLeft_zero, show (- -(e : Int)).toNat = e by omega, cut_zero]
 have := signed_rep a (e := 0) (E := 0) (Nat.le_refl _); simp only [Nat.pow_zero, Nat.mul_one, Nat.sub_zero] at this; rw [this]
 simp
end Go.Proofs.YtiglgfonhdfpmaaGreat
namespace Go.Proofs.YtiglgfonhdfpmaaGreat
open Go.RowKit
structure Enc (α : Type) where
 cells : α → List Value
 k : Nat
 len : ∀ x, (cells x).length = k
 pos : 0 < k
 one : ∀ x, ∀ v ∈ cells x, v.oneCell' = true
section
variable {α : Type} (E : Enc α)
def Enc.all (l : List α) : List Value := (l.map E.cells).flatten
theorem Enc.all_app (l m : List α) : E.all (l ++ m) = E.all l ++ E.all m := by simp [Enc.all]
theorem Enc.all_one (x : α) : E.all [x] = E.cells x := by simp [Enc.all]
theorem Enc.all_cons (x : α) (l : List α) : E.all (x :: l) = E.cells x ++ E.all l := by simp [Enc.all]
theorem Enc.full (l : List α) : ∀ y ∈ l.map E.cells, y.length = E.k := by
 intro y hy; obtain ⟨x, _, rfl⟩ := List.mem_map.1 hy; exact E.len x
theorem Enc.all_len (l : List α) : (E.all l).length = l.length * E.k := by
 have := flat_len (E.full l)
 simpa [Enc.all] using this
theorem Enc.get {l : List α} {i j : Nat} {x : α} {v : Value} (hi : l[i]? = some x) (hj : (E.cells x)[j]? = some v) : (E.all l)[i * E.k + j]? = some v := by
 have hi2 : (l.map E.cells)[i]? = some (E.cells x) := by rw [List.getElem?_map, hi]; rfl
 have hj4 : j < E.k := by rw [← E.len x]; exact (List.getElem?_eq_some_iff.1 hj).1
 exact (flat_get (E.full l) hi2 hj4).trans hj
theorem Enc.all_one1 (l : List α) : ∀ u ∈ E.all l, u.oneCell' = true := by
 intro u hu; obtain ⟨y, hy, hu⟩ := List.mem_flatten.1 hu; obtain ⟨x, _, rfl⟩ := List.mem_map.1 hy; exact E.one x u hu
theorem Enc.set {l : List α} (R : List Value) {i : Nat} (x : α) (hi : i < l.length) : splice (E.all l ++ R) (i * E.k) (E.cells x) = E.all (l.set i x) ++ R := by
 have h1 := E.all_len l; have hp := E.pos; have hx := E.len x; have hik : i * E.k + E.k ≤ l.length * E.k := by rw [← Nat.succ_mul]; exact Nat.mul_le_mul_right _ hi
 have h2 := flat_splice (E.full l) (i := i) (x := E.cells l[i]) (by rw [List.getElem?_map, List.getElem?_eq_getElem hi]; rfl) (E.cells x) (by rw [hx]; exact Nat.le_refl _)
 have e : (l.set i x).map E.cells = (l.map E.cells).set i (E.cells x ++ (E.cells l[i]).drop (E.cells x).length) := by
  rw [List.map_set, List.drop_of_length_le (by rw [E.len, E.len]; exact Nat.le_refl _), List.append_nil]
 unfold Enc.all at h1 ⊢; rw [e, ← h2]; unfold splice; rw [List.append_assoc, List.append_assoc, List.take_append_of_le_length (by omega), List.drop_append_of_le_length (by omega)]
def Enc.RO (w : World) (v : Value) (l : List α) : Prop :=
 ∃ ad cap, v = .slice ad l.length cap ∧ l.length ≤ cap ∧ (l ≠ [] → ∃ b o, ad = some ⟨b, o, none⟩ ∧ b < w.heap.size ∧ ∀ i x, l[i]? = some x → w.rangeAt b (o + i * E.k) (E.cells x))
theorem Enc.RO.later {E : Enc α} {w w' : World} {v : Value} {l : List α} (hv : E.RO w v l) (hk : Kept (fun _ => False) w w') : E.RO w' v l := by
 obtain ⟨ad, cap, e1, e2, e4⟩ := hv; refine ⟨ad, cap, e1, e2, fun hl => ?_⟩
 obtain ⟨b, o, g1, g2, g4⟩ := e4 hl; exact ⟨b, o, g1, Nat.lt_of_lt_of_le g2 hk.size, fun i x hi j v hj => (World.cell?_of_block (w := w) (hk.block b g2 id)).trans (g4 i x hi j v hj)⟩
theorem Enc.own {w : World} {t : TypeId} {v : Value} {n : Nat} {l : List α} (h : w.ownsRow 0 t E.k v n (E.all l)) (hn : n = l.length) : E.RO w v l := by
 subst hn; rcases own_shape h with ⟨rfl, h0⟩ | ⟨g, cap, rfl, hc, hg⟩
 · obtain rfl : l = [] := List.eq_nil_of_length_eq_zero h0; exact ⟨none, 0, rfl, Nat.le_refl _, fun h => absurd rfl h⟩
 · refine ⟨_, cap, rfl, hc, fun _ => ⟨g, 0, rfl, hg, fun i x hi j z hj => ?_⟩⟩
   show w.cell? ⟨g, 0 + i * E.k + j, none⟩ = some z
   rw [Nat.zero_add]; exact own_cell h (E.get hi hj)
theorem Enc.RO.nil {E : Enc α} (w : World) : E.RO w (.slice none 0 0) [] := ⟨none, 0, rfl, Nat.le_refl _, fun h => absurd rfl h⟩
theorem Enc.RO.cells {E : Enc α} {w : World} {v : Value} {l : List α} (hv : E.RO w v l) : ∃ ad cap, v = .slice ad l.length cap ∧ (ad = none → l = []) ∧ ∀ p, ad = some p → ∀ j u, (E.all l)[j]? = some u → w.cell? (p.add j) = some u := by
 obtain ⟨ad, cap, rfl, _, h⟩ := hv; refine ⟨ad, cap, rfl, fun e => ?_, fun p hp j u hj => ?_⟩
 · refine Classical.byContradiction fun hl => ?_
   obtain ⟨b, o, e2, _⟩ := h hl; rw [e] at e2; cases e2
 · by_cases hl : l = []
   · subst hl; simp [Enc.all] at hj
   · obtain ⟨b, o, e2, _, h4⟩ := h hl; rw [hp] at e2; obtain rfl := Option.some.inj e2; have hlt := (List.getElem?_eq_some_iff.1 hj).1; rw [E.all_len] at hlt; have hp := E.pos; have hi : j / E.k < l.length := (Nat.div_lt_iff_lt_mul hp).2 hlt; obtain ⟨x, hx⟩ : ∃ x, l[j / E.k]? = some x := ⟨_, List.getElem?_eq_getElem hi⟩; have hm : j % E.k < (E.cells x).length := by rw [E.len]; exact Nat.mod_lt _ hp
     have hj2 := E.get hx (List.getElem?_eq_getElem hm); have hdm : j / E.k * E.k + j % E.k = j := Nat.div_add_mod' j E.k; rw [hdm, hj] at hj2; rw [Addr.add_lit]; have := h4 (j / E.k) x hx (j % E.k) u ((List.getElem?_eq_getElem hm).trans hj2.symm); rw [Nat.add_assoc, hdm] at this; exact this
theorem Enc.at {E : Enc α} {w w' : World} {b o i j : Nat} {x : α} {v : Value} (h : w.rangeAt b (o + i * E.k) (E.cells x)) (hb : w'.heap[b]? = w.heap[b]?) (hj : (E.cells x)[j]? = some v) : w'.cell? ⟨b, o + i * E.k + j, none⟩ = some v := (World.cell?_of_block hb).trans (h j v hj)
end
end Go.Proofs.YtiglgfonhdfpmaaGreat
namespace Go.Proofs.YtiglgfonhdfpmaaGreat
open Go.RowKit
inductive Plan where
 | nil
 | small (i : Nat) (rest : Plan)
 | alone (i : Nat) (rest : Plan)
 | fork (i j : Nat) (pi pj : Plan)
def Plan.count : Plan → Nat
 | .nil => 0
 | .small _ r => r.count + 1
 | .alone _ r => r.count + 1
 | .fork _ _ a _ => a.count + 1
section
variable {P : Program} {ops : Array Oper} {md : Region.Mode}
def PlanS (P : Program) (ops : Array Oper) (Q : Act → World → Prop) : Plan → ((World → Prop) → Prop) → Act → (World → Prop) → Prop
 | .nil, _, a, I => ∀ w, I w → Q a w
 | .small i rest, C, a, I => ∃ o v, ops[i]? = some o ∧ SmallOp P ops C o v a ∧ PlanS P ops Q rest C (a.put o.dst v) I
 | .alone i rest, C, a, I => ∃ o V, ops[i]? = some o ∧ StepTo P ops I o V a ∧ ∀ v I', V v I' → ∃ C', (∀ I, C' I → C I) ∧ C' I' ∧ PlanS P ops Q rest C' (a.put o.dst v) I'
 | .fork i j pi pj, C, a, I => (∃ o V, ops[i]? = some o ∧ StepTo P ops I o V a ∧ ∀ v I', V v I' → ∃ C', (∀ I, C' I → C I) ∧ C' I' ∧ PlanS P ops Q pi C' (a.put o.dst v) I') ∧
     ∃ o V, ops[j]? = some o ∧ StepTo P ops I o V a ∧ ∀ v I', V v I' → ∃ C', (∀ I, C' I → C I) ∧ C' I' ∧ PlanS P ops Q pj C' (a.put o.dst v) I'
def planB (md : Region.Mode) (ops : Array Oper) : Plan → Array Bool → Bool
 | .nil, listed => (Region.ready md ops listed).isEmpty
 | .small i rest, listed => (Region.ready md ops listed).contains i && Region.free md ops listed i && planB md ops rest (listed.setIfInBounds i true)
 | .alone i rest, listed => decide (Region.ready md ops listed = [i]) && planB md ops rest (listed.setIfInBounds i true)
 | .fork i j pi pj, listed => decide (Region.ready md ops listed = [i, j]) && decide (pi.count = pj.count) && planB md ops pi (listed.setIfInBounds i true) && planB md ops pj (listed.setIfInBounds j true)
theorem PlanS.any {Q : Act → World → Prop} (hs : Region.noSelect ops = true) : ∀ (p : Plan) (C : (World → Prop) → Prop) (listed : Array Bool) (a : Act) (I : World → Prop), C I → planB md ops p listed = true → PlanS P ops Q p C a I → AnyI P md ops Q C p.count listed a I
 | .nil, _, _, _, _, _, hB, h => ⟨by simpa [planB] using hB, h⟩
 | .small i l, C, listed, a, I, hC, hB, ⟨o, v, h0, hy, h⟩ => by
  simp only [planB, Bool.and_eq_true] at hB; obtain ⟨⟨hr, hf⟩, hB'⟩ := hB; exact AnyI.first h0 (Region.noSelect_spec hs) l.count listed a I hC (Region.free_spec h0 hf) (by simpa using hr) hy (PlanS.any hs l C _ _ I hC hB' h)
 | .alone i l, C, listed, a, I, hC, hB, ⟨o, V, h0, hy, h⟩ => by
  simp only [planB, Bool.and_eq_true, decide_eq_true_eq] at hB; obtain ⟨hr, hB'⟩ := hB; refine ⟨fun h => (by rw [hr] at h; cases h), fun j hj => ?_⟩
  rw [hr] at hj; obtain rfl : j = i := by simpa using hj
  refine ⟨o, V, h0, hy, fun v I' hv => ?_⟩
  obtain ⟨C', h1, h2, h3⟩ := h v I' hv; exact ⟨h1 _ h2, AnyI.mono h1 (PlanS.any hs l C' _ _ I' h2 hB' h3)⟩
 | .fork i j pi pj, C, listed, a, I, hC, hB, ⟨hi, hj⟩ => by
  simp only [planB, Bool.and_eq_true, decide_eq_true_eq] at hB; obtain ⟨⟨⟨hr, hcnt⟩, hBi⟩, hBj⟩ := hB; refine ⟨fun h => (by rw [hr] at h; cases h), fun k hk => ?_⟩
  rw [hr] at hk; rcases (show k = i ∨ k = j by simpa using hk) with rfl | rfl
  · obtain ⟨o, V, h0, hy, h⟩ := hi; refine ⟨o, V, h0, hy, fun v I' hv => ?_⟩
    obtain ⟨C', h1, h2, h3⟩ := h v I' hv; exact ⟨h1 _ h2, AnyI.mono h1 (PlanS.any hs pi C' _ _ I' h2 hBi h3)⟩
  · obtain ⟨o, V, h0, hy, h⟩ := hj; refine ⟨o, V, h0, hy, fun v I' hv => ?_⟩
    obtain ⟨C', h1, h2, h3⟩ := h v I' hv; refine ⟨h1 _ h2, AnyI.mono h1 ?_⟩; rw [hcnt]; exact PlanS.any hs pj C' _ _ I' h2 hBj h3
theorem wp_plan {id : Nat} {Q : Exit → Act → World → Prop} {a : Act} {w : World} {l : List Oper} (s : Plan) (C : (World → Prop) → Prop) (I : World → Prop) (hm : P.follows .mixedOrders = true) (hl : s.count = l.length) (hs : Region.noSelect l.toArray = true)
    (hB : planB .any l.toArray s (Array.replicate l.toArray.size false) = true) (h0 : I w.drew) (hC : C I) (h : PlanS P l.toArray (fun a w => Q .normal a w) s C a I) : (Code.region id l.toArray true).wp P Q a w := by
 refine wp_region_any hm ?_; have := AnyI.any (Q' := Q) (fun _ _ h => h) _ _ _ _ _ h0 (PlanS.any hs s C _ a I hC hB h)
 rwa [hl] at this
variable {Q : Act → World → Prop} {rest pj : Plan} {C : (World → Prop) → Prop} {a : Act} {I : World → Prop} {i j : Nat} {o o' : Oper}
theorem plan_nil (h : ∀ w, I w → Q a w) : PlanS P ops Q .nil C a I := h
theorem plan_step (ho : ops[i]? = some o) (hw : Region.wanted o (yielded ops a.tmps) = true) {v : Value} (h1 : ∀ I, C I → ∀ w, I w → CameTo P I v ((execOp a.eval o).run P w))
    (h : ∀ K : Act → Prop, (∀ a, PlanS P ops Q rest C a I → K a) → K (a.put o.dst v)) : PlanS P ops Q (.small i rest) C a I := ⟨o, v, ho, .inl ⟨hw, h1⟩, h _ (fun _ h => h)⟩
theorem plan_pass (ho : ops[i]? = some o) (hw : Region.wanted o (yielded ops a.tmps) = false)
    (h : ∀ K : Act → Prop, (∀ a, PlanS P ops Q rest C a I → K a) → K (a.put o.dst undef)) : PlanS P ops Q (.small i rest) C a I := ⟨o, undef, ho, .inr ⟨hw, rfl⟩, h _ (fun _ h => h)⟩
end
end Go.Proofs.YtiglgfonhdfpmaaGreat
namespace Go.Proofs.YtiglgfonhdfpmaaGreat
open Go.RowKit
def Off (e : TypeId) (size : Nat) (v : Value) (n : Nat) (xs : List Value) : SP where
 on w S := xs.length = n * size ∧ ((v = .slice none 0 0 ∧ n = 0 ∧ ∀ k, ¬ S k) ∨ ∃ (g o cap : Nat) (cs : List Value), v = .slice (some ⟨g, o, none⟩) n cap ∧ n ≤ cap ∧ w.heap[g]? = some (.cells cs.toArray e (0, 0)) ∧ o + cap * size = cs.length ∧
     (∀ j u, xs[j]? = some u → cs[o + j]? = some u) ∧ cap ≤ maxLen ∧ ∀ k, S k ↔ k = g)
 loc w w' S h hs := by
  refine ⟨h.1, ?_⟩; rcases h.2 with h | ⟨g, o, cap, cs, h1, h2, h3, h4, h5, h6, h7⟩
  · exact .inl h
  · exact .inr ⟨g, o, cap, cs, h1, h2, (hs g ((h7 g).2 rfl)).trans h3, h4, h5, h6, h7⟩
 lt w S k h hk := by
  rcases h.2 with ⟨_, _, h⟩ | ⟨g, o, cap, cs, h1, h2, h3, h4, h5, h6, h7⟩
  · exact absurd hk (h k)
  · obtain rfl := (h7 k).1 hk; exact blk_lt h3
section
variable {S : Nat → Prop} {w0 w w' : World} {L : List SP} {e : TypeId} {size n : Nat} {v : Value} {xs : List Value}
end
theorem setCells_size' (g : Nat) : ∀ (vs : List Value) (o : Nat) (w : World), (w.setCells g o vs).heap.size = w.heap.size
 | [], _, _ => rfl
 | v :: r, o, w => by show ((w.setCell _ v).setCells g (o + 1) r).heap.size = _; rw [setCells_size' g r]; simp
theorem splice_get (cs : List Value) (o : Nat) (vs : List Value) (h : o + vs.length ≤ cs.length) (j : Nat) : (splice cs o vs)[j]? = if j < o then cs[j]? else if j < o + vs.length then vs[j - o]? else cs[j]? := by
 have ht : (cs.take o).length = o := by rw [List.length_take]; omega
 unfold splice
 by_cases h1 : j < o
 · rw [if_pos h1, List.getElem?_append_left (by omega), List.getElem?_take_of_lt h1]
 · rw [if_neg h1, List.getElem?_append_right (by omega), ht]
   by_cases h2 : j < o + vs.length
   · rw [if_pos h2, List.getElem?_append_left (by omega)]
   · rw [if_neg h2, List.getElem?_append_right (by omega), List.getElem?_drop]
     congr 1
     omega
theorem splice_len (cs : List Value) (o : Nat) (vs : List Value) (h : o + vs.length ≤ cs.length) : (splice cs o vs).length = cs.length := by
 unfold splice; simp only [List.length_append, List.length_take, List.length_drop]
 omega
section
variable {P : Program} {S : Nat → Prop} {w0 w : World} {L : List SP} {e : TypeId} {size n : Nat} {v : Value} {xs : List Value}
end
section
variable {P : Program} {S : Nat → Prop} {w0 w : World} {L : List SP} {e : TypeId} {size n : Nat} {v : Value} {xs : List Value}
end
def Pile {β : Type} (A : Value → β → SP) (vs : List Value) (l : List β) : SP := SP.all (List.zipWith A vs l)
def Stack {β : Type} (A : Value → β → SP) (e : TypeId) (iv : Value) (l : List β) : SP := SP.ex fun vs : List Value => SP.all [Off e 1 iv l.length vs, Pile A vs l]
section
variable {β : Type} {A : Value → β → SP} {S : Nat → Prop} {w0 w : World} {L : List SP} {e : TypeId} {iv : Value} {l : List β} {vs : List Value}
end
end Go.Proofs.YtiglgfonhdfpmaaGreat
namespace Go.Proofs.YtiglgfonhdfpmaaGreat
open Go.RowKit
section
variable {P : Program} {ops : Array Oper} {Q : Act → World → Prop} {rest : List (Nat × Bool)} {C : (World → Prop) → Prop} {a : Act} {I : World → Prop} {i : Nat} {o : Oper}
theorem script_alone (ho : ops[i]? = some o) (hw : Region.wanted o (yielded ops a.tmps) = true)
    (h1 : ∀ V : Value → (World → Prop) → Prop, (∀ v I' (C' : (World → Prop) → Prop), (∀ I, C' I → C I) → C' I' → (∀ K : Act → Prop, (∀ a, Script P ops Q rest C' a I' → K a) → K (a.put o.dst v)) → V v I') → ∀ w, I w → CameV P V ((execOp a.eval o).run P w)) :
    Script P ops Q ((i, true) :: rest) C a I :=
 ⟨o, fun v I' => ∃ C' : (World → Prop) → Prop, (∀ I, C' I → C I) ∧ C' I' ∧ ∀ K : Act → Prop, (∀ a, Script P ops Q rest C' a I' → K a) → K (a.put o.dst v), ho, .inl ⟨hw, h1 _ (fun _ _ C' h2 h3 h4 => ⟨C', h2, h3, h4⟩)⟩, fun v I' hv => by obtain ⟨C', h2, h3, h4⟩ := hv; exact ⟨C', h2, h3, h4 _ (fun _ h => h)⟩⟩
theorem plan_one {rest : Plan} (ho : ops[i]? = some o) (hw : Region.wanted o (yielded ops a.tmps) = true)
    (h1 : ∀ V : Value → (World → Prop) → Prop, (∀ v I' (C' : (World → Prop) → Prop), (∀ I, C' I → C I) → C' I' → (∀ K : Act → Prop, (∀ a, PlanS P ops Q rest C' a I' → K a) → K (a.put o.dst v)) → V v I') → ∀ w, I w → CameV P V ((execOp a.eval o).run P w)) :
    PlanS P ops Q (.alone i rest) C a I :=
 ⟨o, fun v I' => ∃ C' : (World → Prop) → Prop, (∀ I, C' I → C I) ∧ C' I' ∧ ∀ K : Act → Prop, (∀ a, PlanS P ops Q rest C' a I' → K a) → K (a.put o.dst v), ho, .inl ⟨hw, h1 _ (fun _ _ C' h2 h3 h4 => ⟨C', h2, h3, h4⟩)⟩, fun v I' hv => by obtain ⟨C', h2, h3, h4⟩ := hv; exact ⟨C', h2, h3, h4 _ (fun _ h => h)⟩⟩
theorem plan_two {rest pj : Plan} {j : Nat} {o' : Oper} (ho : ops[i]? = some o) (ho' : ops[j]? = some o') (hw : Region.wanted o (yielded ops a.tmps) = true) (hw' : Region.wanted o' (yielded ops a.tmps) = true)
    (h1 : ∀ V : Value → (World → Prop) → Prop, (∀ v I' (C' : (World → Prop) → Prop), (∀ I, C' I → C I) → C' I' → (∀ K : Act → Prop, (∀ a, PlanS P ops Q rest C' a I' → K a) → K (a.put o.dst v)) → V v I') → ∀ w, I w → CameV P V ((execOp a.eval o).run P w))
    (h2 : ∀ V : Value → (World → Prop) → Prop, (∀ v I' (C' : (World → Prop) → Prop), (∀ I, C' I → C I) → C' I' → (∀ K : Act → Prop, (∀ a, PlanS P ops Q pj C' a I' → K a) → K (a.put o'.dst v)) → V v I') → ∀ w, I w → CameV P V ((execOp a.eval o').run P w)) :
    PlanS P ops Q (.fork i j rest pj) C a I :=
 ⟨⟨o, fun v I' => ∃ C' : (World → Prop) → Prop, (∀ I, C' I → C I) ∧ C' I' ∧ ∀ K : Act → Prop, (∀ a, PlanS P ops Q rest C' a I' → K a) → K (a.put o.dst v), ho, .inl ⟨hw, h1 _ (fun _ _ C' h2 h3 h4 => ⟨C', h2, h3, h4⟩)⟩, fun v I' hv => by obtain ⟨C', h2, h3, h4⟩ := hv; exact ⟨C', h2, h3, h4 _ (fun _ h => h)⟩⟩,
  ⟨o', fun v I' => ∃ C' : (World → Prop) → Prop, (∀ I, C' I → C I) ∧ C' I' ∧ ∀ K : Act → Prop, (∀ a, PlanS P ops Q pj C' a I' → K a) → K (a.put o'.dst v), ho', .inl ⟨hw', h2 _ (fun _ _ C' h2 h3 h4 => ⟨C', h2, h3, h4⟩)⟩, fun v I' hv => by obtain ⟨C', h2, h3, h4⟩ := hv; exact ⟨C', h2, h3, h4 _ (fun _ h => h)⟩⟩⟩
theorem St.came_row {S : Nat → Prop} {w0 w : World} {L : List SP} {e : TypeId} {size n : Nat} {v : Value} {xs : List Value} (H : St S w0 w (Row e size v n xs :: L)) {o : Oper} {a : Act} (s x : Operand) (t : TypeId)
    (ho : o.op = .call { callee := .builtin .append, args := #[s, x], argTypes := #[t, t] }) {z : Value} {bytes : Nat} (ht : P.underlying t = some (.slice e))
    (hinfo : (P.info? e).map (fun i => (i.zero, i.size, i.bytes)) = some (some z, size, bytes)) (hzs : z.cells.size = size ∧ 0 < size ∧ 0 < bytes)
    (hs : a.eval s = v) {A : Option Addr} {c m : Nat} (news : List Value) (hx : a.eval x = .slice A m c) (hl : news.length = m * size) (hA : A = none → m = 0) (hnews : ∀ ad, A = some ad → ∀ j u, news[j]? = some u → w.cell? (ad.add j) = some u) (h1 : ∀ u ∈ news, u.oneCell' = true)
    (hbytes : (n + m) * bytes ≤ 140737488355328) {V : Value → (World → Prop) → Prop}
    (h : ∀ v' w', St S w0 w' (Row e size v' (n + m) (xs ++ news) :: L) → ∃ I', V v' I' ∧ I' w') : CameV P V ((execOp a.eval o).run P w) := by
 obtain ⟨v', w', hr, h2, h3⟩ := H.run_append 0 rfl (ty := o.type) (c := c) ht hinfo hzs news hl hA hnews h1 hbytes; unfold execOp; simp only [ho, resolve, invoke, builtin, Sem.run_bind, Sem.run_pure, Result.andThen_ok, List.map_toArray, List.map_cons, List.map_nil, hs, hx, hr]; exact h v' w' h2
end
section
variable {P : Program} {ops : Array Oper} {md : Region.Mode}
def HeadI (P : Program) (md : Region.Mode) (ops : Array Oper) (C : (World → Prop) → Prop) (n : Nat) (L : Array Bool → Act → (World → Prop) → Prop) : Nat → Array Bool → Act → (World → Prop) → Prop
 | 0, listed, a, I => L listed a I
 | f + 1, listed, a, I => Region.ready md ops listed ≠ [] ∧
  ∀ i ∈ Region.ready md ops listed, i < n ∧ ∃ o V, ops[i]? = some o ∧ StepTo P ops I o V a ∧ ∀ v I', V v I' → C I' ∧ HeadI P md ops C n L f (listed.setIfInBounds i true) (a.put o.dst v) I'
theorem HeadI.any {n g : Nat} {C : (World → Prop) → Prop} {L : Array Bool → Act → (World → Prop) → Prop} {Q' : Exit → Act → World → Prop} (hL : ∀ listed a I w, L listed a I → I w → wpAny P md ops Q' g listed a w) :
    ∀ (f : Nat) (listed : Array Bool) (a : Act) (I : World → Prop) (w : World), I w → HeadI P md ops C n L f listed a I → wpAny P md ops Q' (f + g) listed a w
 | 0, listed, a, I, w, hw, h => by rw [Nat.zero_add]; exact hL _ _ _ _ h hw
 | f + 1, listed, a, I, w, hw, h => by
  rw [show f + 1 + g = (f + g) + 1 by omega]
  refine ⟨fun h0 => absurd h0 h.1, fun i hi => ?_⟩
  obtain ⟨_, o, V, h1, h2, h3⟩ := h.2 i hi; exact h2.op h1 hw (fun v I' hv w' hw' => HeadI.any hL f _ _ I' w' hw' (h3 v I' hv).2)
theorem HeadI.mono {n : Nat} {C C' : (World → Prop) → Prop} {L : Array Bool → Act → (World → Prop) → Prop} (hC : ∀ I, C' I → C I) : ∀ {f : Nat} {listed : Array Bool} {a : Act} {I : World → Prop}, HeadI P md ops C' n L f listed a I → HeadI P md ops C n L f listed a I
 | 0, _, _, _, h => h
 | f + 1, _, _, _, h => ⟨h.1, fun i hi => by
     obtain ⟨h0, o, V, h1, h2, h3⟩ := h.2 i hi
     exact ⟨h0, o, V, h1, h2, fun v I' hv => ⟨hC _ (h3 v I' hv).1, HeadI.mono hC (h3 v I' hv).2⟩⟩⟩
theorem HeadI.first {n i : Nat} {oi : Oper} {v : Value} {C : (World → Prop) → Prop} {L : Array Bool → Act → (World → Prop) → Prop} (hi : ops[i]? = some oi) (hsel : ∀ (j : Nat) (o : Oper) cs b, ops[j]? = some o → o.op ≠ .select cs b)
    (hs : Region.sinkB md ops n = true) (hc : Region.chainB md ops n = true) (hn : n < ops.size) (hin : i < n) (hdone : ∀ listed a I, L listed a I → ∀ j ∈ Region.ready md ops listed, n ≤ j) :
    ∀ (f : Nat) (listed : Array Bool) (a : Act) (I : World → Prop), C I → HeadInv md ops n listed →
     (∀ j oj, ops[j]? = some oj → j ≠ i → listed.getD j true = false → (∀ e ∈ oj.after, Region.binds md e = true → e.on ≠ i) → oi.apart ops oj = true) →
     i ∈ Region.ready md ops listed → SmallOp P ops C oi v a → HeadI P md ops C n L f (listed.setIfInBounds i true) (a.put oi.dst v) I → HeadI P md ops C n L (f + 1) listed a I := by
 intro f
 induction f with
 | zero =>
  intro listed a I hI inv _ hr hy H; have hun := (mem_ready.1 hr).1; refine ⟨fun h => (by rw [h] at hr; cases hr), fun j hj => ?_⟩
  have hjn : j < n := by
   rcases Nat.lt_or_ge j n with h | h
   · exact h
   · exact absurd hj (tail_waits hs hc hn inv _ i rfl hin hun j h)
  refine ⟨hjn, ?_⟩
  by_cases hji : j = i
  · subst hji; refine ⟨oi, _, hi, hy.step hI, ?_⟩; rintro v' I' ⟨rfl, rfl⟩; exact ⟨hI, H⟩
  · have := hdone _ _ _ H j (ready_mono hj hji)
    omega
 | succ f ih =>
  intro listed a I hI inv hfree hr hy H; have hun := (mem_ready.1 hr).1; refine ⟨fun h => (by rw [h] at hr; cases hr), fun j hj => ?_⟩
  have hjn : j < n := by
   rcases Nat.lt_or_ge j n with h | h
   · exact h
   · exact absurd hj (tail_waits hs hc hn inv _ i rfl hin hun j h)
  refine ⟨hjn, ?_⟩
  by_cases hji : j = i
  · subst hji; refine ⟨oi, _, hi, hy.step hI, ?_⟩; rintro v' I' ⟨rfl, rfl⟩; exact ⟨hI, H⟩
  · obtain ⟨_, oj, V, hoj, hyj, Hj⟩ := H.2 j (ready_mono hj hji); obtain ⟨hjun, oj', hoj', hall⟩ := mem_ready.1 hj; obtain rfl : oj' = oj := by rw [hoj] at hoj'; exact (Option.some.inj hoj').symm
    have hnot : ∀ e ∈ oj'.after, Region.binds md e = true → e.on ≠ i := fun e he hb heq => by
     have h1 := hall e he hb; rw [heq, getD_both hun] at h1; cases h1
    obtain ⟨h1, h2, h3⟩ := Oper.apart_spec (hfree j oj' hoj hji hjun hnot); have hyj' : StepTo P ops I oj' V a := hyj.same (execOp_put oj' (fun cs b => hsel j oj' cs b hoj) a oi.dst v h1).symm (wanted_put oj' a oi.dst v h1).symm
    refine ⟨oj', V, hoj, hyj', fun u I' hu => ⟨(Hj u I' hu).1, ?_⟩⟩
    have hyi' : SmallOp P ops C oi v (a.put oj'.dst u) := hy.same (execOp_put oi (fun cs b => hsel i oi cs b hi) a oj'.dst u h3) (wanted_put oi a oj'.dst u h3)
    refine ih _ _ I' (Hj u I' hu).1 (inv.set hj hjn) (fun k ok hk hki hun hno => ?_) (ready_mono hr (Ne.symm hji)) hyi' ?_
    · refine hfree k ok hk hki ?_ hno
      by_cases hjk : j = k
      · subst hjk; exact hjun
      · rw [getD_set_ne true hjk] at hun; exact hun
    · rw [Array.setIfInBounds_comm _ _ hji, ← Act.put_comm a v u h2]; exact (Hj u I' hu).2
def scriptTB (md : Region.Mode) (ops : Array Oper) (g n : Nat) : List (Nat × Bool) → Array Bool → Bool
 | [], listed => Region.seqB md ops g n listed
 | (i, false) :: rest, listed => decide (i < n) && ((Region.ready md ops listed).contains i && Region.free md ops listed i && scriptTB md ops g n rest (listed.setIfInBounds i true))
 | (i, true) :: rest, listed => decide (i < n) && (decide (Region.ready md ops listed = [i]) && scriptTB md ops g n rest (listed.setIfInBounds i true))
theorem Script.head {Q : Act → World → Prop} {g n : Nat} (hsel : Region.noSelect ops = true) (hs : Region.sinkB md ops n = true) (hc : Region.chainB md ops n = true) (hn : n < ops.size) :
    ∀ (l : List (Nat × Bool)) (C : (World → Prop) → Prop) (listed : Array Bool) (a : Act) (I : World → Prop), C I → HeadInv md ops n listed → scriptTB md ops g n l listed = true → Script P ops Q l C a I →
     HeadI P md ops C n (fun listed' a' I' => Region.seqB md ops g n listed' = true ∧ ∀ w, I' w → Q a' w) l.length listed a I
 | [], _, _, _, _, _, _, hB, h => ⟨hB, h⟩
 | (i, false) :: l, C, listed, a, I, hC, inv, hB, ⟨o, v, h0, hy, h⟩ => by
  simp only [scriptTB, Bool.and_eq_true, decide_eq_true_eq] at hB; obtain ⟨hin, ⟨hr, hf⟩, hB'⟩ := hB; have hr' : i ∈ Region.ready md ops listed := by simpa using hr
  exact HeadI.first h0 (Region.noSelect_spec hsel) hs hc hn hin (fun listed' a' I' hL => seqB_ready hL.1) l.length listed a I hC inv (Region.free_spec h0 hf) hr' hy (Script.head hsel hs hc hn l C _ _ I hC (inv.set hr' hin) hB' h)
 | (i, true) :: l, C, listed, a, I, hC, inv, hB, ⟨o, V, h0, hy, h⟩ => by
  simp only [scriptTB, Bool.and_eq_true, decide_eq_true_eq] at hB; obtain ⟨hin, hr, hB'⟩ := hB; have hr' : i ∈ Region.ready md ops listed := by rw [hr]; simp
  refine ⟨fun h => (by rw [hr] at h; cases h), fun j hj => ?_⟩
  rw [hr] at hj; obtain rfl : j = i := by simpa using hj
  refine ⟨hin, o, V, h0, hy, fun v I' hv => ?_⟩
  obtain ⟨C', h1, h2, h3⟩ := h v I' hv; exact ⟨h1 _ h2, HeadI.mono h1 (Script.head hsel hs hc hn l C' _ _ I' h2 (inv.set hr' hin) hB' h3)⟩
theorem wp_script_tail {id : Nat} {Q : Exit → Act → World → Prop} {a : Act} {w : World} {l : List Oper} (n : Nat) (s : List (Nat × Bool)) (C : (World → Prop) → Prop) (I : World → Prop) (hm : P.follows .mixedOrders = true) (hl : s.length = n) (hs : Region.noSelect l.toArray = true)
    (hB : (decide (n < l.length) && Region.sinkB .any l.toArray n && Region.chainB .any l.toArray n && scriptTB .any l.toArray (l.length - n) n s (Array.replicate l.toArray.size false)) = true) (h0 : I w.drew) (hC : C I)
    (h : Script P l.toArray (fun a w => wpList P l.toArray Q (l.drop n) a w) s C a I) : (Code.region id l.toArray true).wp P Q a w := by
 simp only [Bool.and_eq_true, decide_eq_true_eq] at hB; obtain ⟨⟨⟨hn, hsk⟩, hc⟩, hB⟩ := hB; have hn' : n < l.toArray.size := by simpa using hn
 have hdl : (l.drop n).length = l.length - n := by simp
 have inv0 : HeadInv .any l.toArray n (Array.replicate l.toArray.size false) :=
  ⟨by simp, fun j oj _ hl => (by rw [getD_replicate_false] at hl; cases hl), fun t _ ht => getD_in (by simpa using ht) (getD_replicate_false _ _)⟩
 have H := Script.head (P := P) (md := .any) (g := l.length - n) hs hsk hc hn' s C _ a I hC inv0 hB h; refine wp_region_any hm ?_
 have := HeadI.any (Q' := Q) (g := l.length - n) (fun listed a' I' w' hL hw' => by
  have := wpAny_of_seq (P := P) (md := .any) (Q' := Q) (l.drop n) n listed a' w' (fun j => by simp [List.getElem?_drop]) (by rw [hdl]; exact hL.1) (hL.2 w' hw')
  rwa [hdl] at this) _ _ _ _ _ h0 H
 rw [hl, show n + (l.length - n) = l.toArray.size by simp; omega] at this
 exact this
end
end Go.Proofs.YtiglgfonhdfpmaaGreat
namespace Go.Proofs.YtiglgfonhdfpmaaGreat
structure Pn where
 w : Wd
 g : Ag
 round : Int
structure Stt where
 mark : Int
 panes : List Pn
structure Ot where
 late : Bool
 item : Itm
 w : Wd
 round : Int
 value : List Int
def itm00 : Itm := ⟨0, [], 0, 0⟩
def wd000 : Wd := ⟨[], 0, 0⟩
def Wd.ripe (x : Wd) (mark : Int) : Bool := x.right && decide (x.to ≤ mark)
def Wd.gone (q : Qry) (x : Wd) (mark : Int) : Bool := x.right && q.right && decide (x.to + q.late ≤ mark)
def Wd.has (x : Wd) (t : Int) : Bool := x.right && decide (x.frm ≤ t) && decide (t < x.to)
def Wd.cmp (a b : Wd) : Int := if Lib.compareInt a.to b.to ≠ 0 then Lib.compareInt a.to b.to else if Lib.compareInt a.frm b.frm ≠ 0 then Lib.compareInt a.frm b.frm else Lib.compareBytes a.key b.key
def slideWs (q : Qry) (key : List UInt8) (t : Int) : List Wd := ((List.range ((t / q.slide).toNat + 1)).filter fun (k : Nat) => decide (t < (k : Int) * q.slide + q.size)).map fun (k : Nat) => ⟨key, (k : Int) * q.slide, (k : Int) * q.slide + q.size⟩
def winsOf (q : Qry) (key : List UInt8) (t : Int) : List Wd :=
 if q.right = true ∧ nameB key = true ∧ 0 ≤ t ∧ t ≤ 1099511627776 then
  (if q.kind = 3 then [⟨key, t, t + q.size⟩] else if q.kind = 2 then slideWs q key t else [⟨key, t - t % q.size, t - t % q.size + q.size⟩])
 else []
def fitsM (q : Qry) (x : Wd) : Bool := if q.kind = 3 then x.right && decide (q.size ≤ x.to - x.frm) else (winsOf q x.key x.frm).contains x
def Pn.ok (q : Qry) (mark : Int) (p : Pn) : Bool :=
 fitsM q p.w && !p.w.gone q mark && decide (0 ≤ p.round) && decide (p.round ≤ 1073741824) && p.g.right q && decide (0 < p.g.n) && (decide (0 < p.round) == p.w.ripe mark)
def sortedP : List Pn → Bool
 | [] => true
 | [_] => true
 | a :: b :: r => decide (a.w.place b.w < 0) && sortedP (b :: r)
def settledW : List Wd → Bool
 | [] => true
 | [x] => x.right
 | a :: b :: r => a.right && decide (a.place b < 0) && !a.joins b && settledW (b :: r)
def Stt.right (q : Qry) (s : Stt) : Bool :=
 q.right && decide (-1 ≤ s.mark) && decide (s.mark ≤ 1099511627776) && decide (s.panes.length ≤ 256) && s.panes.all (·.ok q s.mark) && sortedP s.panes && (decide (q.kind ≠ 3) || settledW (s.panes.map (·.w)))
end Go.Proofs.YtiglgfonhdfpmaaGreat
namespace Go.Proofs.YtiglgfonhdfpmaaGreat
def gathM (q : Qry) (x : Wd) (old : Wd → Bool) : List Pn → Ag × Int → Option (Ag × Int)
 | [], s => some s
 | p :: r, s => if old p.w = true then (match mergeM q s.1 p.g with | none => none | some g => gathM q x old r (g, if p.w = x then p.round else s.2)) else gathM q x old r s
def putM (q : Qry) (mark : Int) (x : Wd) (g : Ag) (r v : Int) : Option (Pn × List Ot) :=
 match mergeM q g (singleM q v) with
 | none => none
 | some a => if x.ripe mark = true then (if r = 1073741824 then none else some (⟨x, a, r + 1⟩, [⟨false, itm00, x, r + 1, valueM q a⟩])) else some (⟨x, a, r⟩, [])
def placeP (l : List Pn) (x : Wd) : Nat := posW (l.map (·.w)) x
def withP (l : List Pn) (p : Pn) : List Pn := l.take (placeP l p.w) ++ p :: l.drop (placeP l p.w)
def layM (q : Qry) (mark : Int) (x : Wd) (old : Wd → Bool) (v : Int) (l : List Pn) : Option (List Pn × List Ot) :=
 match gathM q x old l (Ag.zero, 0) with
 | none => none
 | some s => match putM q mark x s.1 s.2 v with
  | none => none
  | some y => some (withP (l.filter fun p => !old p.w) y.1, y.2)
def becM (q : Qry) (l : List Pn) (own : Wd) : Wd := if q.kind = 3 then becOf (l.map (·.w)) own else own
def oldM (q : Qry) (own : Wd) (y : Wd) : Bool := if q.kind = 3 then y.joins own else decide (y = own)
structure EvS where
 panes : List Pn
 outs : List Ot
 taken : Bool
def laysM (q : Qry) (mark v : Int) : List Wd → EvS → Option EvS
 | [], s => some s
 | own :: r, s =>
  if (becM q s.panes own).gone q mark = true then laysM q mark v r s
  else match layM q mark (becM q s.panes own) (oldM q own) v s.panes with
   | none => none
   | some y => laysM q mark v r ⟨y.1, s.outs ++ y.2, true⟩
def lateO (x : Itm) : Ot := ⟨true, x, wd000, 0, []⟩
structure StepR where
 s : Stt
 outs : List Ot
 e : Int
def eventM (q : Qry) (s : Stt) (x : Itm) : StepR :=
 match laysM q s.mark x.value (winsOf q x.key x.time) ⟨s.panes, [], false⟩ with
 | none => ⟨s, [], 20⟩
 | some y => if 256 < y.panes.length then ⟨s, [], 30⟩ else ⟨⟨s.mark, y.panes⟩, if y.taken = true then y.outs else y.outs ++ [lateO x], 0⟩
def insC (p : Pn) : List Pn → List Pn
 | [] => [p]
 | y :: r => if y.w.cmp p.w < 0 then y :: insC p r else p :: y :: r
def sortC : List Pn → List Pn
 | [] => []
 | p :: r => insC p (sortC r)
def Pn.now (m : Int) (p : Pn) : Bool := decide (p.round = 0) && p.w.ripe m
def Pn.fire (m : Int) (p : Pn) : Pn := if p.now m = true then { p with round := 1 } else p
def fireO (q : Qry) (p : Pn) : Ot := ⟨false, itm00, p.w, 1, valueM q p.g⟩
def markM (q : Qry) (s : Stt) (m : Int) : Stt × List Ot :=
 if m ≤ s.mark then (s, []) else (⟨m, (s.panes.map (Pn.fire m)).filter fun p => !p.w.gone q m⟩, (sortC (s.panes.filter (Pn.now m))).map (fireO q))
def stepM (q : Qry) (s : Stt) (x : Itm) : StepR :=
 if (s.right q && x.right) = true then (if x.kind = 2 then ⟨(markM q s x.time).1, (markM q s x.time).2, 0⟩ else eventM q s x) else ⟨s, [], 2⟩
structure RunR where
 s : Stt
 outs : List Ot
 n : Nat
 e : Int
def runsM (q : Qry) : List Itm → RunR → RunR
 | [], r => r
 | x :: l, r => if (stepM q r.s x).e = 0 then runsM q l ⟨(stepM q r.s x).s, r.outs ++ (stepM q r.s x).outs, r.n + 1, 0⟩ else ⟨r.s, r.outs, r.n, (stepM q r.s x).e⟩
def stt0 : Stt := ⟨-1, []⟩
end Go.Proofs.YtiglgfonhdfpmaaGreat
