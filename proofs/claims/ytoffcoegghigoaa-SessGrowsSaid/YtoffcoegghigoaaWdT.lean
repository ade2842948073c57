/- sess.Take. -/
import Derived.Test.YtoffcoegghigoaaWdP
import Derived.Test.YtoffcoegghigoaaWdE
namespace Go.Proofs.Ytoffcoegghigoaa
open Go.RowKit

theorem results_tct {P : Program} {fn : Func} {a t c : Tmp} {ty : TypeId} (h : fn.results = #[.tmp a, .cell t ty, .tmp c]) {tmps : Array Value} {w : World} {b : Nat} {cs : List Value} {d : TypeDesc} (ht : tmps.getD t undef = .pointer (some ⟨b, 0, none⟩)) (hr : w.rangeAt b 0 cs)
    (hu : P.underlying ty = some d) (hd : d.isRow = true) (hi : (P.info? ty).map (·.size) = some cs.length) : (results fn tmps).run P w = .ok (.tuple #[tmps.getD a undef, .agg cs.toArray, tmps.getD c undef]) w := by
  have h2 := run_loadVar_mid (P := P) w b 0 ty cs d hr hu hd hi
  have h3 : tmps[t]?.getD undef = .pointer (some ⟨b, 0, none⟩) := by simpa using ht
  simp [results, h, h3, asAddr, h2]

theorem blk_range {w : World} {g : Nat} {t : TypeId} {f : Nat × Nat} {cs : List Value} (h : w.heap[g]? = some (.cells cs.toArray t f)) : w.rangeAt g 0 cs := fun j u hj => by rw [Nat.zero_add, cell_blk h]; simpa using hj
theorem wd0 : wdC ⟨[], 0, 0⟩ = #[.string ⟨#[]⟩, .int .i64 0, .int .i64 0] := rfl
set_option maxHeartbeats 4000000 in
set_option maxRecDepth 100000 in
theorem sess_take_no {v : Value} {l : List Wd} {x : Wd} (w : World) (hv : WdsRO w v l) (hl : l.length ≤ 4398046511104) (hx : x.fits) (hno : (stl l && x.right) = false) :
    Calls Try.prog 26 #[v, wdV x] w fun e w' => ∃ v', e = .returned (.tuple #[v', wdV ⟨[], 0, 0⟩, .slice none 0 0]) ∧ St (fun _ => False) w w' [Row 41 3 v' l.length (wds l)] := by
  have kset := fun w' (hk : Kept (fun _ => False) w w') => sess_settled w' (hv.later hk) (by omega)
  have kcl := fun w' (hk : Kept (fun _ => False) w w') => wds_clone (hv.later hk) hl
  have kr := fun w' => wd_right x hx w'
  obtain ⟨ao, cap, rfl, hcap, hfit, hic⟩ := hv
  obtain ⟨s, hs⟩ : ∃ s, stl l = s := ⟨_, rfl⟩
  obtain ⟨r, hr⟩ : ∃ r, x.right = r := ⟨_, rfl⟩
  rw [hs, hr] at hno
  rw [hs] at kset
  rw [hr] at kr
  clear hs hr hic hfit hx
  obtain ⟨xk, xf, xt⟩ := x
  have H1 : St (fun _ => False) w _ [_] := (St.nil (fun _ => False) w).allocAt rfl #[.string ⟨xk.toArray⟩, .int .i64 xf, .int .i64 xt] 41
  have H2 : St (fun _ => False) w _ [_, _] := H1.allocAt (B := w.heap.size + 1) (Array.size_push _) #[.string ⟨#[]⟩, .int .i64 0, .int .i64 0] 41
  unfold wdV wdC textV at kr
  simp only at kr
  unfold wdV wdC textV
  simp only
  go_enter Try.func26, Try.ntmps26
  go_upto_region 1 with (fail)
  obtain ⟨bx, hbx⟩ : ∃ b, w.heap.size = b := ⟨_, rfl⟩
  obtain ⟨br, hbr⟩ : ∃ b2, bx + 1 = b2 := ⟨_, rfl⟩
  obtain ⟨w2, hw2⟩ : ∃ w2, (w.alloc (.cells #[.string ⟨xk.toArray⟩, .int .i64 xf, .int .i64 xt] 41)).alloc (.cells #[.string ⟨#[]⟩, .int .i64 0, .int .i64 0] 41) = w2 := ⟨_, rfl⟩
  rw [hw2, hbx, hbr] at H2
  rw [hw2]
  simp only [hbx, hbr]
  have H3 : St (fun _ => False) w w2 [Blk br #[.string ⟨#[]⟩, .int .i64 0, .int .i64 0] 41, Blk bx #[.string ⟨xk.toArray⟩, .int .i64 xf, .int .i64 xt] 41] := H2
  clear hbx hbr hw2 H1 H2
  have hcs : s = false ∨ (s = true ∧ r = false) := by cases s <;> cases r <;> simp_all
  rcases hcs with rfl | ⟨rfl, rfl⟩
  case' inl => go_upto_region 2 with (go_at_call 27; go_must (refine (St.callPast (kset _ H3.kept) H3).mono ?_; rintro e w4 ⟨rfl, H4⟩))
  case' inr => go_upto_region 2 with (first
    | (go_at_call 27; go_must (refine (St.callPast (kset _ H3.kept) H3).mono ?_; rintro e w3 ⟨rfl, H5⟩; have d0 := H5.cell 1 0 rfl rfl; have d1 := H5.cell 1 1 rfl rfl; have d2 := H5.cell 1 2 rfl rfl))
    | (go_at_call 56; go_must (refine (St.callPast (kr _) H5).mono ?_; rintro e w4 ⟨rfl, H4⟩)))
  all_goals
    go_wp2_with (go_at_call 58; go_must (refine (kcl _ H4.kept).mono ?_; rintro e w5 ⟨v5, rfl, H5⟩; have H6 : St (fun _ => False) w w5 [Row 41 3 v5 l.length (wds l), Blk br #[.string ⟨#[]⟩, .int .i64 0, .int .i64 0] 41, Blk bx #[.string ⟨xk.toArray⟩, .int .i64 xf, .int .i64 xt] 41] := H4.call0 H5; have e0 := H6.cell 1 0 rfl rfl; have e1 := H6.cell 1 1 rfl rfl; have e2 := H6.cell 1 2 rfl rfl; have f0 := H6.free 1 0 rfl; have f1 := H6.free 1 1 rfl; have f2 := H6.free 1 2 rfl))
    have H7 := ((H6.set 1 rfl 0 (.string ⟨#[]⟩)).set 1 rfl 1 (.int .i64 0)).set 1 rfl 2 (.int .i64 0)
    try simp only [Exit.inBlock, Exit.then]
    refine bodyPost_ret (results_tct rfl rfl (blk_range (cs := [.string ⟨#[]⟩, .int .i64 0, .int .i64 0]) (H7.blk 1 rfl)) Try.underlying41 rfl (by kernel_rfl)) rfl ?_
    exact ⟨_, rfl, H7.pick [0]⟩

theorem blk_apart' {S : Nat → Prop} {w0 w : World} {L : List SP} {a b : Nat} {ca cb : Array Value} {ta tb : TypeId} (H : St S w0 w (Blk a ca ta :: Blk b cb tb :: L)) : ¬ a = b := fun e => by
  subst e
  obtain ⟨S1, hs1, hs2, S2, hs3, hs4, _⟩ := H.sep
  exact (hs4 a ((hs3.2 a).2 rfl)).2 ((hs1.2 a).2 rfl)
theorem takeF_mono (l : List Wd) (x : Wd) (i : Nat) : (takeF (l.take i) x).out.length ≤ i ∧ (takeF (l.take i) x).gave.length ≤ i := by
  have := takeF_len (l.take i) x
  rw [List.length_take] at this
  omega
theorem wdC_one1 (x : Wd) : ∀ u ∈ (wdC x).toList, u.oneCell' = true := by have := wds_one1 [x]; simpa [wds] using this
theorem outOf_fits {l : List Wd} {x : Wd} (h : ∀ y ∈ l, y.fits) : ∀ y ∈ outOf l x, y.fits := fun y hy => h y (List.mem_filter.1 hy).1
theorem insW_len (l : List Wd) (b : Wd) : (insW l b).length = l.length + 1 := by
  have := posW_le l b
  simp [insW]
  omega

set_option maxHeartbeats 8000000 in
set_option maxRecDepth 100000 in
theorem sess_take {v : Value} {l : List Wd} {x : Wd} (w : World) (hv : WdsRO w v l) (hl : l.length + 1 ≤ 4398046511104) (hx : x.fits) (hset : stl l = true) (hxr : x.right = true) :
    Calls Try.prog 26 #[v, wdV x] w fun e w' => ∃ v' vg, e = .returned (.tuple #[v', wdV (becOf l x), vg]) ∧ St (fun _ => False) w w' [Row 41 3 v' (tookW l x).length (wds (tookW l x)), Row 3 1 vg (takeF l x).gave.length (intCells (takeF l x).gave)] := by
  have kset := fun w' (hk : Kept (fun _ => False) w w') => sess_settled w' (hv.later hk) (by omega)
  have kr := fun w' => wd_right x hx w'
  have hpair := Lib.hid (stl_pair.1 (stl_true.1 hset)).2
  rw [hset] at kset
  rw [hxr] at kr
  obtain ⟨ao, cap, rfl, hcap, hfit, hic⟩ := hv
  have hich := Lib.hid hic
  have hfith := Lib.hid hfit
  have hxfh := Lib.hid hx
  have hxrh := Lib.hid hxr
  clear hset hxr hic hfit hx
  obtain ⟨xk, xf, xt⟩ := x
  have H1 : St (fun _ => False) w _ [_] := (St.nil (fun _ => False) w).allocAt rfl #[.string ⟨xk.toArray⟩, .int .i64 xf, .int .i64 xt] 41
  have H2 : St (fun _ => False) w _ [_, _] := H1.allocAt (B := w.heap.size + 1) (Array.size_push _) #[.string ⟨#[]⟩, .int .i64 0, .int .i64 0] 41
  unfold wdV wdC textV at kr
  simp only at kr
  unfold wdV wdC textV
  simp only
  obtain ⟨bec, hbec⟩ : ∃ b, becOf l ⟨xk, xf, xt⟩ = b := ⟨_, rfl⟩
  obtain ⟨res, hres⟩ : ∃ b, tookW l ⟨xk, xf, xt⟩ = b := ⟨_, rfl⟩
  obtain ⟨gv, hgv⟩ : ∃ b, (takeF l ⟨xk, xf, xt⟩).gave = b := ⟨_, rfl⟩
  rw [hbec, hres, hgv]
  have hbech := Lib.hid hbec
  have hresh := Lib.hid hres
  have hgvh := Lib.hid hgv
  clear hbec hres hgv
  go_enter Try.func26, Try.ntmps26
  go_upto_region 1 with (fail)
  obtain ⟨bx, hbx⟩ : ∃ b, w.heap.size = b := ⟨_, rfl⟩
  obtain ⟨br, hbr⟩ : ∃ b2, bx + 1 = b2 := ⟨_, rfl⟩
  obtain ⟨w2, hw2⟩ : ∃ w2, (w.alloc (.cells #[.string ⟨xk.toArray⟩, .int .i64 xf, .int .i64 xt] 41)).alloc (.cells #[.string ⟨#[]⟩, .int .i64 0, .int .i64 0] 41) = w2 := ⟨_, rfl⟩
  rw [hw2, hbx, hbr] at H2
  rw [hw2]
  simp only [hbx, hbr]
  have H3 : St (fun _ => False) w w2 [Blk br #[.string ⟨#[]⟩, .int .i64 0, .int .i64 0] 41, Blk bx #[.string ⟨xk.toArray⟩, .int .i64 xf, .int .i64 xt] 41] := H2
  clear hbx hbr hw2 H1 H2
  go_upto_region 3 with (first
    | (go_at_call 27; go_must (refine (St.callPast (kset _ H3.kept) H3).mono ?_; rintro e w3 ⟨rfl, H5⟩; have d0 := H5.cell 1 0 rfl rfl; have d1 := H5.cell 1 1 rfl rfl; have d2 := H5.cell 1 2 rfl rfl))
    | (go_at_call 56; go_must (refine (St.callPast (kr _) H5).mono ?_; rintro e w4 ⟨rfl, H4⟩)))
  clear d0 d1 d2 H5 H3 kset kr
  have d0 := H4.cell 1 0 rfl rfl
  have d1 := H4.cell 1 1 rfl rfl
  have d2 := H4.cell 1 2 rfl rfl
  have H6 : St (fun _ => False) w _ [_, _, _] := H4.allocAt rfl #[.string ⟨xk.toArray⟩, .int .i64 xf, .int .i64 xt] 41
  go_upto_region 6 with (fail)
  obtain ⟨bb, hbb⟩ : ∃ b, w4.heap.size = b := ⟨_, rfl⟩
  obtain ⟨w5, hw5⟩ : ∃ w5, w4.alloc (.cells #[.string ⟨xk.toArray⟩, .int .i64 xf, .int .i64 xt] 41) = w5 := ⟨_, rfl⟩
  rw [hw5, hbb] at H6
  rw [hw5]
  try simp only [hbb]
  have H7 : St (fun _ => False) w w5 [Row 41 3 (.slice none 0 0) 0 (wds []), Row 3 1 (.slice none 0 0) 0 (intCells []), Blk bb (wdC ⟨xk, xf, xt⟩) 41, Blk br #[.string ⟨#[]⟩, .int .i64 0, .int .i64 0] 41, Blk bx #[.string ⟨xk.toArray⟩, .int .i64 xf, .int .i64 xt] 41] := (H6.row_nil 3 1).row_nil 41 3
  clear hbb hw5 H6 H4 d0 d1 d2
  go_upto_block 1 with (fail)
  go_loopw [7, 8, 10, 28] (fun u g _ j wr => ∃ (i : Nat) (s : TakeS), i ≤ l.length ∧ j = .int .i64 i ∧ Hid (s = takeF (l.take i) ⟨xk, xf, xt⟩) ∧ St (fun _ => False) w wr [Row 41 3 u s.out.length (wds s.out), Row 3 1 g s.gave.length (intCells s.gave), Blk bb (wdC s.became) 41, Blk br #[.string ⟨#[]⟩, .int .i64 0, .int .i64 0] 41, Blk bx #[.string ⟨xk.toArray⟩, .int .i64 xf, .int .i64 xt] 41]) (fun _ _ _ j _ => l.length - (intOf j).toNat)
  case atStart => exact ⟨0, ⟨[], [], ⟨xk, xf, xt⟩, 0⟩, by omega, rfl, Lib.hid rfl, H7⟩
  case round =>
    clear H7
    obtain ⟨i, s, hi, rfl, hs, HM⟩ := hrel
    have hln := takeF_mono l ⟨xk, xf, xt⟩ i
    rw [← hs.out] at hln
    by_cases hlt : i < l.length
    · obtain ⟨b, o, rfl, hb, hc⟩ := hich.out (by intro e; rw [e] at hlt; simp at hlt)
      obtain ⟨y, hy⟩ : ∃ y, l[i]? = some y := ⟨_, List.getElem?_eq_getElem hlt⟩
      have hyf := hfith.out y (List.mem_of_getElem? hy)
      obtain ⟨q0, q1, q2⟩ := wd_cells (hc i y hy) (HM.kept.block b hb id)
      have kj := fun w' => wd_joins y ⟨xk, xf, xt⟩ hyf hxfh.out w'
      have hsn : takeF (l.take (i + 1)) ⟨xk, xf, xt⟩ = takeStep ⟨xk, xf, xt⟩ s y := by rw [take_snoc' hy, takeF_snoc, hs.out]
      have hsi : s.n = i := by rw [hs.out, takeF_n, List.length_take]; omega
      obtain ⟨J, hJ⟩ : ∃ J, y.joins ⟨xk, xf, xt⟩ = J := ⟨_, rfl⟩
      rw [hJ] at kj
      unfold takeStep at hsn
      rw [hJ, hsi] at hsn
      have hsnh := Lib.hid hsn
      clear hJ hsn hsi hy hc hyf hs
      obtain ⟨so, sg, ⟨sk, sf, st⟩, sn⟩ := s
      obtain ⟨yk, yf, yt⟩ := y
      unfold wdV wdC textV at kj
      unfold wdC textV at HM
      simp only at q0 q1 q2 kj hsnh hln HM
      unfold textV at q0
      have HA : St (fun _ => False) w _ [_, _, _, _, _, _] := HM.allocAt rfl #[.string ⟨yk.toArray⟩, .int .i64 yf, .int .i64 yt] 41
      go_upto_region 9 with (fail)
      obtain ⟨wb, hwb⟩ : ∃ wb, wr.alloc (.cells #[.string ⟨yk.toArray⟩, .int .i64 yf, .int .i64 yt] 41) = wb := ⟨_, rfl⟩
      obtain ⟨yb, hyb⟩ : ∃ yb, wr.heap.size = yb := ⟨_, rfl⟩
      rw [hwb, hyb] at HA
      try rw [hwb]
      try simp only [hyb]
      have HA2 : St (fun _ => False) w wb [Blk yb #[.string ⟨yk.toArray⟩, .int .i64 yf, .int .i64 yt] 41, Row 41 3 u7 so.length (wds so), Row 3 1 u8 sg.length (intCells sg), Blk bb #[.string ⟨sk.toArray⟩, .int .i64 sf, .int .i64 st] 41, Blk br #[.string ⟨#[]⟩, .int .i64 0, .int .i64 0] 41, Blk bx #[.string ⟨xk.toArray⟩, .int .i64 xf, .int .i64 xt] 41] := HA
      clear hwb hyb q0 q1 q2 HM HA
      have d0 := HA2.cell 0 0 rfl rfl
      have d1 := HA2.cell 0 1 rfl rfl
      have d2 := HA2.cell 0 2 rfl rfl
      have e0 := HA2.cell 5 0 rfl rfl
      have e1 := HA2.cell 5 1 rfl rfl
      have e2 := HA2.cell 5 2 rfl rfl
      cases J with
      | false =>
        go_wp2_with (first
          | (go_at_call 23; go_must (refine (St.callPast (kj _) HA2).mono ?_; rintro e w3 ⟨rfl, H3⟩; have d0 := H3.cell 0 0 rfl rfl; have d1 := H3.cell 0 1 rfl rfl; have d2 := H3.cell 0 2 rfl rfl))
          | (at_builtin; go_must (refine St.list_app (H3.skip _) 1 rfl rfl (.tmp 37) (.tmp 39) 39 rfl Try.underlying39 Try.info41 (by decide) rfl [.string ⟨yk.toArray⟩, .int .i64 yf, .int .i64 yt] rfl rfl (new_cells #[.string ⟨yk.toArray⟩, .int .i64 yf, .int .i64 yt] _) (by simp [Value.oneCell']) (by omega) (by omega) ?_; intro g5 cap5 w6 H6 hz6)))
        go_roundw
        case rel =>
          refine ⟨i + 1, _, by omega, by go_num, Lib.hid hsnh.out.symm, ?_⟩
          try rw [if_neg (by simp)]
          have H7 : St (fun _ => False) w w6 [_, _, _, _, _, _] := H6
          simp only [wds_app, wds_one, List.length_append, List.length_singleton]
          exact H7.pick [1, 2, 3, 4, 5]
        case measure => simp [intOf]; omega
      | true =>
        go_upto_region 12 with (first
          | (go_at_call 23; go_must (refine (St.callPast (kj _) HA2).mono ?_; rintro e w3 ⟨rfl, H3⟩; have d0 := H3.cell 0 0 rfl rfl; have d1 := H3.cell 0 1 rfl rfl; have d2 := H3.cell 0 2 rfl rfl))
          | (at_builtin; go_must (refine St.list_app (H3.skip _) 2 rfl rfl (.tmp 41) (.tmp 43) 44 rfl Try.underlying44 Try.info3 (by decide) rfl [.int .i64 i] rfl rfl (new_cells #[.int .i64 i] _) (by simp [Value.oneCell']) (by omega) (by omega) ?_; intro g5 cap5 w6 H6 hz6)))
        have H7 : St (fun _ => False) w w6 [Blk yb #[.string ⟨yk.toArray⟩, .int .i64 yf, .int .i64 yt] 41, Row 41 3 u7 so.length (wds so), Row 3 1 (.slice (some ⟨g5, 0, none⟩) (sg.length + 1) cap5) (sg.length + 1) (intCells sg ++ [.int .i64 i]), Blk bb #[.string ⟨sk.toArray⟩, .int .i64 sf, .int .i64 st] 41, Blk br #[.string ⟨#[]⟩, .int .i64 0, .int .i64 0] 41, Blk bx #[.string ⟨xk.toArray⟩, .int .i64 xf, .int .i64 xt] 41] := H6
        clear d0 d1 d2 e0 e1 e2 H6 H3 HA2
        have d1 := H7.cell 0 1 rfl rfl
        have d2 := H7.cell 0 2 rfl rfl
        have e1 := H7.cell 3 1 rfl rfl
        have e2 := H7.cell 3 2 rfl rfl
        have p1 := H7.free 3 1 rfl
        have p2 := H7.free 3 2 rfl
        have hne : ¬ yb = bb := blk_apart' (H7.pick [0, 3])
        have hne2 : ¬ bb = yb := fun e => hne e.symm
        have H8 := ((H7.set 3 rfl 1 (.int .i64 (min sf yf))).set 3 rfl 2 (.int .i64 (max st yt)))
        go_region
        go_wp2
        go_roundw
        case rel =>
          refine ⟨i + 1, _, by omega, by go_num, Lib.hid hsnh.out.symm, ?_⟩
          try rw [if_pos rfl]
          try simp only [if_true]
          simp only [grow, List.length_append, List.length_singleton]
          have ei : intCells (sg ++ [(i : Int)]) = intCells sg ++ [.int .i64 i] := by simp [intCells]
          rw [ei]
          exact H8.drew.pick [1, 2, 3, 4, 5]
        case measure => simp [intOf]; omega
    · obtain rfl : i = l.length := by omega
      rw [List.take_length] at hs
      have hso : s.out = outOf l ⟨xk, xf, xt⟩ := by rw [hs.out, takeF_out]
      have hsb : s.became = bec := by rw [hs.out, takeF_bec, hbech.out]
      have hsg : s.gave = gv := by rw [hs.out, hgvh.out]
      obtain ⟨O, sg, B0, sn⟩ := s
      simp only at hso hsb hsg HM hln
      subst hsb hsg
      have hOf : ∀ y ∈ O, y.fits := by rw [hso]; exact outOf_fits hfith.out
      have hOp : O.Pairwise aheadW := by rw [hso]; exact out_pair hpair.out _
      have hrO : insW O B0 = res := by rw [← hresh.out, hso, ← hbech.out]; rfl
      obtain ⟨k, hk⟩ : ∃ k, posW O B0 = k := ⟨_, rfl⟩
      have hkle : k ≤ O.length := by rw [← hk]; exact posW_le _ _
      have hrl : res.length = O.length + 1 := by rw [← hrO, insW_len]
      have ks := fun w' v' hv' => wds_search (w := w') (v := v') (l := O) (x := B0) (k := k) hv' (by omega) hkle (fun j y hj hy => posW_lo (by rw [hk]; exact hj) hy) (fun j y hj hy => posW_hi hOp (by rw [hk]; exact hj) hy)
      have ki := fun S' w' v' g2 K' => wds_insert (w := w') (v := v') (l := O) (x := B0) (k := k) (g2 := g2) (S := S') hkle (by omega) K'
      have hrO2 : O.take k ++ B0 :: O.drop k = res := by rw [← hrO, insW, hk]
      rw [hrO2, ← hrl] at ki
      obtain ⟨ua, uc, rfl, huc, _⟩ := slice_form' (HM.row 0 rfl)
      obtain ⟨ga, gc, rfl, hgc, _⟩ := slice_form' (HM.row 1 rfl)
      have ks2 := ks _ _ (wds_own (HM.row 0 rfl) hOf)
      have hOfh := Lib.hid hOf
      clear hrl hso hOp hrO hk ks hrO2 hpair hich hresh hbech hgvh hs hOf
      obtain ⟨bk, bf, bt⟩ := B0
      unfold wdV placeV wdC textV at ks2
      unfold wdC textV at HM ki
      simp only at ks2 HM ki
      have d0 := HM.cell 2 0 rfl rfl
      have d1 := HM.cell 2 1 rfl rfl
      have d2 := HM.cell 2 2 rfl rfl
      go_upto_region 15 with (go_at_call 59; go_must (refine ks2.mono ?_; rintro e w6 ⟨⟨bv, rfl⟩, hb6⟩))
      have H6 : St (fun _ => False) w w6 [Row 41 3 (.slice ua O.length uc) O.length (wds O), Row 3 1 (.slice ga sg.length gc) sg.length (intCells sg), Blk bb #[.string ⟨bk.toArray⟩, .int .i64 bf, .int .i64 bt] 41, Blk br #[.string ⟨#[]⟩, .int .i64 0, .int .i64 0] 41] := (HM.past hb6).pick [0, 1, 2, 3]
      clear HM hb6 ks2 d0 d1 d2
      refine wp_script [(0, false), (1, false), (2, false), (5, false), (6, false), (3, true), (4, true), (7, false), (8, true), (9, false)] (Fam fun w' => St (fun _ => False) w w' [Blk bb #[.string ⟨bk.toArray⟩, .int .i64 bf, .int .i64 bt] 41]) (fun w' => St (fun _ => False) w w' [Row 41 3 (.slice ua O.length uc) O.length (wds O), Row 3 1 (.slice ga sg.length gc) sg.length (intCells sg), Blk bb #[.string ⟨bk.toArray⟩, .int .i64 bf, .int .i64 bt] 41, Blk br #[.string ⟨#[]⟩, .int .i64 0, .int .i64 0] 41]) (by kernel_rfl) (by rfl) (by kernel_rfl) (by kernel_rfl) H6.drew (Fam.st (fun _ h => h.pick [2])) ?_
      iterate 5 first
        | (apply script_pass
           · rfl
           · rfl
           intro K hK
           go_simp
           refine hK _ ?_
           clear hK K)
        | (apply script_step
           · rfl
           · rfl
           · intro I hI w1 h1'
             have h1 := hI.2 _ h1'
             have d0 := h1.cell 0 0 rfl rfl
             have d1 := h1.cell 0 1 rfl rfl
             have d2 := h1.cell 0 2 rfl rfl
             first
               | (go_simp
                  first
                    | rfl
                    | exact ⟨rfl, h1'⟩
                 )
           intro K hK
           go_simp
           refine hK _ ?_
           clear hK K)
      obtain ⟨V1, hV1⟩ := hide_rel (fun u I' => ∃ g2, u = .slice (some ⟨g2, 0, none⟩) 1 1 ∧ I' = fun w' => St (fun _ => False) w w' [Row 41 3 (.slice ua O.length uc) O.length (wds O), Row 3 1 (.slice ga sg.length gc) sg.length (intCells sg), Blk bb #[.string ⟨bk.toArray⟩, .int .i64 bf, .int .i64 bt] 41, Blk br #[.string ⟨#[]⟩, .int .i64 0, .int .i64 0] 41, Blk g2 #[.string ⟨bk.toArray⟩, .int .i64 bf, .int .i64 bt] 41])
      obtain ⟨V2, hV2⟩ := hide_rel (fun u I' => ∃ v', u = v' ∧ I' = fun w' => St (fun _ => False) w w' [Row 41 3 v' res.length (wds res), Row 3 1 (.slice ga sg.length gc) sg.length (intCells sg), Blk bb #[.string ⟨bk.toArray⟩, .int .i64 bf, .int .i64 bt] 41, Blk br #[.string ⟨#[]⟩, .int .i64 0, .int .i64 0] 41])
      refine script_big V1 rfl rfl ?_ ?_
      · intro w1 h1
        go_simp
        exact ⟨_, (hV1.out _ _).2 ⟨_, rfl, rfl⟩, (h1.alloc _ _).pick [1, 2, 3, 4, 0]⟩
      intro u I' hvI
      obtain ⟨g2, rfl, rfl⟩ := (hV1.out _ _).1 hvI
      clear hvI hV1
      refine ⟨_, fun _ h => h, Fam.st (fun _ h => h.pick [2]), ?_⟩
      intro K hK
      go_simp
      refine hK _ ?_
      clear hK K
      refine script_big V2 rfl rfl ?_ ?_
      · intro w1 h1
        obtain ⟨S1, K1, G1⟩ := St.call (l1 := [_, _]) (h1.pick [0, 4, 1, 2, 3])
        have ki2 := ki S1 w1 _ g2 K1
        go_simp
        refine ki2.mono ?_
        rintro e w7 ⟨v', rfl, H7⟩
        have H8 : St (fun _ => False) w w7 [_, _, _, _, _] := G1 _ _ H7
        exact ⟨_, rfl, _, (hV2.out _ _).2 ⟨v', rfl, rfl⟩, H8.pick [0, 2, 3, 4]⟩
      intro u I' hvI
      obtain ⟨v', rfl, rfl⟩ := (hV2.out _ _).1 hvI
      clear hvI hV2
      refine ⟨_, fun _ h => h, Fam.st (fun _ h => h.pick [2]), ?_⟩
      intro K hK
      go_simp
      refine hK _ ?_
      clear hK K
      iterate 1 first
        | (apply script_pass
           · rfl
           · rfl
           intro K hK
           go_simp
           refine hK _ ?_
           clear hK K)
        | (apply script_step
           · rfl
           · rfl
           · intro I hI w1 h1'
             have h1 := hI.2 _ h1'
             first
               | (go_simp
                  first
                    | rfl
                    | exact ⟨rfl, h1'⟩
                 )
           intro K hK
           go_simp
           refine hK _ ?_
           clear hK K)
      obtain ⟨V3, hV3⟩ := hide_rel (fun uu I' => uu = undef ∧ I' = fun w' => St (fun _ => False) w w' [Row 41 3 u res.length (wds res), Row 3 1 (.slice ga sg.length gc) sg.length (intCells sg), Blk bb #[.string ⟨bk.toArray⟩, .int .i64 bf, .int .i64 bt] 41, Blk br #[.string ⟨bk.toArray⟩, .int .i64 bf, .int .i64 bt] 41])
      refine script_big V3 rfl rfl ?_ ?_
      · intro w1 h1
        have p0 := h1.cell 3 0 rfl rfl
        have p1 := h1.cell 3 1 rfl rfl
        have p2 := h1.cell 3 2 rfl rfl
        have f0 := h1.free 3 0 rfl
        have f1 := h1.free 3 1 rfl
        have f2 := h1.free 3 2 rfl
        go_simp
        exact ⟨_, (hV3.out _ _).2 ⟨rfl, rfl⟩, ((h1.set 3 rfl 0 _).set 3 rfl 1 _).set 3 rfl 2 _⟩
      intro u2 I' hvI
      obtain ⟨rfl, rfl⟩ := (hV3.out _ _).1 hvI
      clear hvI hV3
      refine ⟨_, fun _ h => h, Fam.st (fun _ h => h.pick [2]), ?_⟩
      intro K hK
      go_simp
      refine hK _ ?_
      clear hK K
      iterate 1 first
        | (apply script_pass
           · rfl
           · rfl
           intro K hK
           go_simp
           refine hK _ ?_
           clear hK K)
        | (apply script_step
           · rfl
           · rfl
           · intro I hI w1 h1'
             have h1 := hI.2 _ h1'
             first
               | (go_simp
                  first
                    | rfl
                    | exact ⟨rfl, h1'⟩
                 )
           intro K hK
           go_simp
           refine hK _ ?_
           clear hK K)
      refine script_nil ?_
      intro w9 H9
      go_wp2
      try simp only [Exit.inBlock, Exit.then]
      refine bodyPost_ret (results_tct rfl rfl (blk_range (cs := [.string ⟨bk.toArray⟩, .int .i64 bf, .int .i64 bt]) (H9.blk 3 rfl)) Try.underlying41 rfl (by kernel_rfl)) rfl ?_
      exact ⟨u, .slice ga sg.length gc, rfl, H9.pick [0, 1]⟩
end Go.Proofs.Ytoffcoegghigoaa
