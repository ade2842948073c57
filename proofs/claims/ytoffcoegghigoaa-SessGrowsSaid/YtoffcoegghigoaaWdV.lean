/- The document's Take. Condition: so many windows. -/
import Derived.Test.YtoffcoegghigoaaWdU
import Derived.Test.YtoffcoegghigoaaWdT
namespace Go.Proofs.Ytoffcoegghigoaa
open Go.RowKit

section
variable {P : Program} {S : Nat → Prop} {w0 w : World} {l : List SP}
/-- 'append' as an operation of a script. -/
theorem St.came_append (H : St S w0 w l) (i : Nat) {e : TypeId} {size : Nat} {v : Value} {n : Nat} {xs : List Value} (hi : l[i]? = some (Row e size v n xs))
    {o : Oper} {a : Act} (s x : Operand) (t : TypeId) (ho : o.op = .call { callee := .builtin .append, args := #[s, x], argTypes := #[t, t] }) {z : Value} {bytes : Nat} (ht : P.underlying t = some (.slice e))
    (hinfo : (P.info? e).map (fun i => (i.zero, i.size, i.bytes)) = some (some z, size, bytes)) (hzs : z.cells.size = size ∧ 0 < size ∧ 0 < bytes)
    (hs : a.eval s = v) {A : Option Addr} {c m : Nat} (news : List Value) (hx : a.eval x = .slice A m c) (hl : news.length = m * size) (hA : A = none → m = 0) (hnews : ∀ ad, A = some ad → ∀ j u, news[j]? = some u → w.cell? (ad.add j) = some u) (h1 : ∀ u ∈ news, u.oneCell' = true)
    (hbytes : (n + m) * bytes ≤ 140737488355328) {V : Value → (World → Prop) → Prop}
    (h : ∀ v' w', St S w0 w' (l.set i (Row e size v' (n + m) (xs ++ news))) → ∃ I', V v' I' ∧ I' w') : CameV P V ((execOp a.eval o).run P w) := by
  obtain ⟨v', w', hr, h2, h3⟩ := H.run_append i hi (ty := o.type) (c := c) ht hinfo hzs news hl hA hnews h1 hbytes
  unfold execOp
  simp only [ho, resolve, invoke, builtin, Sem.run_bind, Sem.run_pure, Result.andThen_ok, List.map_toArray, List.map_cons, List.map_nil, hs, hx, hr]
  exact h v' w' h2
end

theorem takeWhile_snoc_no {α : Type} {p : α → Bool} {y : α} (h : p y = false) : ∀ l : List α, (l ++ [y]).takeWhile p = l.takeWhile p
  | [] => by simp [h]
  | x :: l => by
    by_cases hx : p x = true
    · simp [hx, takeWhile_snoc_no h l]
    · simp [hx]
theorem ins_pos : ∀ (O : List Wd) (b : Wd), O.Pairwise aheadW → (∀ y ∈ O, b ≠ y) → (insP O.reverse b).reverse = insW O b := by
  intro O b
  refine snoc_ind (p := fun O => O.Pairwise aheadW → (∀ y ∈ O, b ≠ y) → (insP O.reverse b).reverse = insW O b) (fun _ _ => rfl) (fun O y ih hp hb => ?_) O
  have hp2 := List.pairwise_append.1 hp
  have ih2 := ih hp2.1 (fun z hz => hb z (by simp [hz]))
  have hsw := place_swap b y
  have hne : b.place y ≠ 0 := fun e => hb y (by simp) (place_zero.1 e)
  rw [List.reverse_append, List.reverse_singleton, List.singleton_append, insP]
  by_cases h : b.place y < 0
  · rw [if_pos h, List.reverse_cons, ih2]
    have hpos : posW (O ++ [y]) b = posW O b := by
      unfold posW
      rw [takeWhile_snoc_no (by simp; omega)]
    have hle := posW_le O b
    unfold insW
    rw [hpos, List.take_append_of_le_length hle, List.drop_append_of_le_length hle]
    simp
  · rw [if_neg h]
    have hall : ∀ z ∈ O ++ [y], z.place b < 0 := by
      intro z hz
      have hy : y.place b < 0 := by omega
      rcases List.mem_append.1 hz with hz | hz
      · exact place_trans (hp2.2.2 z hz y (by simp)).1 hy
      · obtain rfl := List.mem_singleton.1 hz
        exact hy
    have hpos : posW (O ++ [y]) b = (O ++ [y]).length := by
      unfold posW
      have : (O ++ [y]).takeWhile (fun y => decide (y.place b < 0)) = O ++ [y] := by
        have e := List.takeWhile_append_dropWhile (p := fun y => decide (y.place b < 0)) (l := O ++ [y])
        have e2 : (O ++ [y]).dropWhile (fun y => decide (y.place b < 0)) = [] := by
          have key : ∀ (l : List Wd), (∀ z ∈ l, z.place b < 0) → l.dropWhile (fun y => decide (y.place b < 0)) = [] := by
            intro l
            induction l with
            | nil => exact fun _ => rfl
            | cons z l ih =>
              intro h
              rw [List.dropWhile_cons, if_pos (by simpa using h z (by simp))]
              exact ih (fun y hy => h y (by simp [hy]))
          exact key _ hall
        rw [e2, List.append_nil] at e
        exact e
      rw [this]
    unfold insW
    rw [hpos, List.take_length, List.drop_length]
    simp
theorem srt_id {O : List Wd} (hp : O.Pairwise aheadW) : srtP O = O.reverse := by
  revert hp
  refine snoc_ind (p := fun O => O.Pairwise aheadW → srtP O = O.reverse) (fun _ => rfl) (fun O y ih hp => ?_) O
  have hp2 := List.pairwise_append.1 hp
  rw [srtP_snoc, ih hp2.1, List.reverse_append, List.reverse_singleton, List.singleton_append]
  cases hr : O.reverse with
  | nil => rfl
  | cons z r =>
    have hz : z ∈ O := by rw [← List.mem_reverse, hr]; simp
    have h1 := (hp2.2.2 z hz y (by simp)).1
    have h2 := place_swap z y
    rw [insP, if_neg (by omega)]
theorem srt_took {l : List Wd} {x : Wd} (hl : Stl l) (hx : x.right = true) : (srtP (outOf l x ++ [becOf l x])).reverse = tookW l x := by
  have hp := out_pair (stl_pair.1 hl).2 x
  rw [srtP_snoc, srt_id hp, ins_pos _ _ hp (bec_apart hx)]
  rfl
theorem took_fits {l : List Wd} {x : Wd} (h : ∀ y ∈ l, y.fits) (hx : x.fits) : (becOf l x).fits ∧ ∀ y ∈ tookW l x, y.fits := by
  have hb : (becOf l x).fits := by
    have key : ∀ (m : List Wd), (∀ o ∈ m, o.fits) → ∀ b : Wd, b.fits → (m.foldl grow b).fits := by
      intro m
      induction m with
      | nil => exact fun _ b h => h
      | cons o m ih =>
        intro hm b hb
        refine ih (fun o ho => hm o (by simp [ho])) (grow b o) ?_
        have ho := hm o (by simp)
        unfold Wd.fits grow at *
        exact ⟨hb.1, by simp only; omega, by simp only; omega⟩
    exact key _ (fun o ho => h o (List.mem_filter.1 ho).1) x hx
  refine ⟨hb, fun y hy => ?_⟩
  unfold tookW insW at hy
  rcases List.mem_append.1 hy with hy | hy
  · exact outOf_fits h y (List.mem_of_mem_take hy)
  · rcases List.mem_cons.1 hy with rfl | hy
    · exact hb
    · exact outOf_fits h y (List.mem_of_mem_drop hy)

set_option maxHeartbeats 8000000 in
set_option maxRecDepth 100000 in
theorem ref_take {v : Value} {l : List Wd} {x : Wd} (w : World) (hv : WdsRO w v l) (hl : l.length + 1 ≤ 4398046511104) (hx : x.fits) (hset : Stl l) (hxr : x.right = true) :
    Calls Try.prog 30 #[v, wdV x] w fun e w' => ∃ v' vg, e = .returned (.tuple #[v', wdV (becOf l x), vg]) ∧ St (fun _ => False) w w' [Row 41 3 v' (tookW l x).length (wds (tookW l x)), Row 3 1 vg (takeF l x).gave.length (intCells (takeF l x).gave)] := by
  obtain ⟨ao, cap, rfl, hcap, hfit, hic⟩ := hv
  have hich := Lib.hid hic
  have hfith := Lib.hid hfit
  have hxfh := Lib.hid hx
  have hrs := srt_took hset hxr
  have hrl : (tookW l x).length = (outOf l x).length + 1 := by unfold tookW; rw [insW_len]
  have hbf := (took_fits hfit hx).1
  clear hset hxr hic hfit hx
  obtain ⟨xk, xf, xt⟩ := x
  have H1 : St (fun _ => False) w _ [_] := (St.nil (fun _ => False) w).allocAt rfl #[.string ⟨xk.toArray⟩, .int .i64 xf, .int .i64 xt] 41
  have H2 : St (fun _ => False) w _ [_, _] := H1.allocAt (B := w.heap.size + 1) (Array.size_push _) #[.string ⟨#[]⟩, .int .i64 0, .int .i64 0] 41
  have H2b : St (fun _ => False) w _ [_, _, _] := H2.allocAt (B := w.heap.size + 1 + 1) (by simp) #[.string ⟨xk.toArray⟩, .int .i64 xf, .int .i64 xt] 41
  unfold wdV wdC textV
  simp only
  obtain ⟨bec, hbec⟩ : ∃ b, becOf l ⟨xk, xf, xt⟩ = b := ⟨_, rfl⟩
  obtain ⟨res, hres⟩ : ∃ b, tookW l ⟨xk, xf, xt⟩ = b := ⟨_, rfl⟩
  obtain ⟨gv, hgv⟩ : ∃ b, (takeF l ⟨xk, xf, xt⟩).gave = b := ⟨_, rfl⟩
  rw [hbec, hres] at hrs
  rw [hbec] at hbf
  rw [hres] at hrl
  rw [hbec, hres, hgv]
  have hbech := Lib.hid hbec
  have hgvh := Lib.hid hgv
  have hrsh := Lib.hid hrs
  have hrlh := Lib.hid hrl
  clear hbec hres hgv hrs hrl
  go_enter Try.func30, Try.ntmps30
  go_upto_region 4 with (fail)
  obtain ⟨bx, hbx⟩ : ∃ b, w.heap.size = b := ⟨_, rfl⟩
  obtain ⟨br, hbr⟩ : ∃ b2, bx + 1 = b2 := ⟨_, rfl⟩
  obtain ⟨bb, hbb⟩ : ∃ b2, br + 1 = b2 := ⟨_, rfl⟩
  obtain ⟨w2, hw2⟩ : ∃ w2, ((w.alloc (.cells #[.string ⟨xk.toArray⟩, .int .i64 xf, .int .i64 xt] 41)).alloc (.cells #[.string ⟨#[]⟩, .int .i64 0, .int .i64 0] 41)).alloc (.cells #[.string ⟨xk.toArray⟩, .int .i64 xf, .int .i64 xt] 41) = w2 := ⟨_, rfl⟩
  rw [hw2, hbx, hbr, hbb] at H2b
  rw [hw2]
  simp only [hbx, hbr, hbb]
  have H7 : St (fun _ => False) w w2 [Row 41 3 (.slice none 0 0) 0 (wds []), Row 3 1 (.slice none 0 0) 0 (intCells []), Blk bb (wdC ⟨xk, xf, xt⟩) 41, Blk br #[.string ⟨#[]⟩, .int .i64 0, .int .i64 0] 41, Blk bx #[.string ⟨xk.toArray⟩, .int .i64 xf, .int .i64 xt] 41] := (H2b.row_nil 3 1).row_nil 41 3
  clear hbx hbr hbb hw2 H1 H2 H2b
  go_upto_block 1 with (fail)
  go_loopw [7, 8, 10, 15] (fun u g _ j wr => ∃ (i : Nat) (s : TakeS), i ≤ l.length ∧ j = .int .i64 i ∧ Hid (s = takeF (l.take i) ⟨xk, xf, xt⟩) ∧ St (fun _ => False) w wr [Row 41 3 u s.out.length (wds s.out), Row 3 1 g s.gave.length (intCells s.gave), Blk bb (wdC s.became) 41, Blk br #[.string ⟨#[]⟩, .int .i64 0, .int .i64 0] 41, Blk bx #[.string ⟨xk.toArray⟩, .int .i64 xf, .int .i64 xt] 41]) (fun _ _ _ j _ => l.length - (intOf j).toNat)
  case atStart => exact ⟨0, ⟨[], [], ⟨xk, xf, xt⟩, 0⟩, by omega, rfl, Lib.hid rfl, H7⟩
  case round =>
    clear H7
    obtain ⟨i, s, hi, rfl, hs, HM⟩ := hrel
    have hln := takeF_mono l ⟨xk, xf, xt⟩ i
    rw [← hs.out] at hln
    by_cases hlt : i < l.length
    · obtain ⟨b, o, rfl, hb, hc⟩ := hich.out (by intro e; rw [e] at hlt; simp at hlt)
      obtain ⟨y, hy⟩ : ∃ y, l[i]? = some y := ⟨_, List.getElem?_eq_getElem hlt⟩
      have hyf := hfith.out y (List.mem_of_getElem? hy)
      obtain ⟨q0, q1, q2⟩ := wd_cells (hc i y hy) (HM.kept.block b hb id)
      have kj := fun w' => ref_joins y ⟨xk, xf, xt⟩ hyf hxfh.out w'
      have hsn : takeF (l.take (i + 1)) ⟨xk, xf, xt⟩ = takeStep ⟨xk, xf, xt⟩ s y := by rw [take_snoc' hy, takeF_snoc, hs.out]
      have hsi : s.n = i := by rw [hs.out, takeF_n, List.length_take]; omega
      obtain ⟨J, hJ⟩ : ∃ J, y.joins ⟨xk, xf, xt⟩ = J := ⟨_, rfl⟩
      rw [hJ] at kj
      unfold takeStep at hsn
      rw [hJ, hsi] at hsn
      have hsnh := Lib.hid hsn
      clear hJ hsn hsi hy hc hyf hs
      obtain ⟨so, sg, ⟨sk, sf, st⟩, sn⟩ := s
      obtain ⟨yk, yf, yt⟩ := y
      unfold wdV wdC textV at kj
      unfold wdC textV at HM
      simp only at q0 q1 q2 kj hsnh hln HM
      unfold textV at q0
      have HA : St (fun _ => False) w _ [_, _, _, _, _, _] := HM.allocAt rfl #[.string ⟨yk.toArray⟩, .int .i64 yf, .int .i64 yt] 41
      go_upto_region 7 with (fail)
      obtain ⟨wb, hwb⟩ : ∃ wb, wr.alloc (.cells #[.string ⟨yk.toArray⟩, .int .i64 yf, .int .i64 yt] 41) = wb := ⟨_, rfl⟩
      obtain ⟨yb, hyb⟩ : ∃ yb, wr.heap.size = yb := ⟨_, rfl⟩
      rw [hwb, hyb] at HA
      try rw [hwb]
      try simp only [hyb]
      have HA2 : St (fun _ => False) w wb [Blk yb #[.string ⟨yk.toArray⟩, .int .i64 yf, .int .i64 yt] 41, Row 41 3 u7 so.length (wds so), Row 3 1 u8 sg.length (intCells sg), Blk bb #[.string ⟨sk.toArray⟩, .int .i64 sf, .int .i64 st] 41, Blk br #[.string ⟨#[]⟩, .int .i64 0, .int .i64 0] 41, Blk bx #[.string ⟨xk.toArray⟩, .int .i64 xf, .int .i64 xt] 41] := HA
      clear hwb hyb q0 q1 q2 HM HA
      have d0 := HA2.cell 0 0 rfl rfl
      have d1 := HA2.cell 0 1 rfl rfl
      have d2 := HA2.cell 0 2 rfl rfl
      have e0 := HA2.cell 5 0 rfl rfl
      have e1 := HA2.cell 5 1 rfl rfl
      have e2 := HA2.cell 5 2 rfl rfl
      cases J with
      | false =>
        go_wp2_with (first
          | (go_at_call 24; go_must (refine (St.callPast (kj _) HA2).mono ?_; rintro e w3 ⟨rfl, H3⟩; have d0 := H3.cell 0 0 rfl rfl; have d1 := H3.cell 0 1 rfl rfl; have d2 := H3.cell 0 2 rfl rfl))
          | (at_builtin; go_must (refine St.list_app (H3.skip _) 1 rfl rfl (.tmp 39) (.tmp 41) 39 rfl Try.underlying39 Try.info41 (by decide) rfl [.string ⟨yk.toArray⟩, .int .i64 yf, .int .i64 yt] rfl rfl (new_cells #[.string ⟨yk.toArray⟩, .int .i64 yf, .int .i64 yt] _) (by simp [Value.oneCell']) (by omega) (by omega) ?_; intro g5 cap5 w6 H6 hz6)))
        go_roundw
        case rel =>
          refine ⟨i + 1, _, by omega, by go_num, Lib.hid hsnh.out.symm, ?_⟩
          try rw [if_neg (by simp)]
          have H7 : St (fun _ => False) w w6 [_, _, _, _, _, _] := H6
          simp only [wds_app, wds_one, List.length_append, List.length_singleton]
          exact H7.pick [1, 2, 3, 4, 5]
        case measure => simp [intOf]; omega
      | true =>
        go_upto_region 9 with (first
          | (go_at_call 24; go_must (refine (St.callPast (kj _) HA2).mono ?_; rintro e w3 ⟨rfl, H3⟩; have d0 := H3.cell 0 0 rfl rfl; have d1 := H3.cell 0 1 rfl rfl; have d2 := H3.cell 0 2 rfl rfl))
          | (at_builtin; go_must (refine St.list_app (H3.skip _) 2 rfl rfl (.tmp 23) (.tmp 25) 44 rfl Try.underlying44 Try.info3 (by decide) rfl [.int .i64 i] rfl rfl (new_cells #[.int .i64 i] _) (by simp [Value.oneCell']) (by omega) (by omega) ?_; intro g5 cap5 w6 H6 hz6)))
        have H7 : St (fun _ => False) w w6 [Blk yb #[.string ⟨yk.toArray⟩, .int .i64 yf, .int .i64 yt] 41, Row 41 3 u7 so.length (wds so), Row 3 1 (.slice (some ⟨g5, 0, none⟩) (sg.length + 1) cap5) (sg.length + 1) (intCells sg ++ [.int .i64 i]), Blk bb #[.string ⟨sk.toArray⟩, .int .i64 sf, .int .i64 st] 41, Blk br #[.string ⟨#[]⟩, .int .i64 0, .int .i64 0] 41, Blk bx #[.string ⟨xk.toArray⟩, .int .i64 xf, .int .i64 xt] 41] := H6
        clear d0 d1 d2 e0 e1 e2 H6 H3 HA2
        have d1 := H7.cell 0 1 rfl rfl
        have d2 := H7.cell 0 2 rfl rfl
        have e1 := H7.cell 3 1 rfl rfl
        have e2 := H7.cell 3 2 rfl rfl
        have p1 := H7.free 3 1 rfl
        have p2 := H7.free 3 2 rfl
        have hne : ¬ yb = bb := blk_apart' (H7.pick [0, 3])
        have hne2 : ¬ bb = yb := fun e => hne e.symm
        obtain ⟨m1, hm1⟩ : ∃ m, min sf yf = m := ⟨_, rfl⟩
        obtain ⟨m2, hm2⟩ : ∃ m, max st yt = m := ⟨_, rfl⟩
        have hm1h := Lib.hid hm1
        have hm2h := Lib.hid hm2
        have H8 := ((H7.set 3 rfl 1 (.int .i64 m1)).set 3 rfl 2 (.int .i64 m2))
        go_wp2
        go_roundw
        case rel =>
          refine ⟨i + 1, _, by omega, by go_num, Lib.hid hsnh.out.symm, ?_⟩
          try rw [if_pos rfl]
          try simp only [if_true]
          simp only [grow, List.length_append, List.length_singleton]
          have ei : intCells (sg ++ [(i : Int)]) = intCells sg ++ [.int .i64 i] := by simp [intCells]
          rw [ei, hm1h.out, hm2h.out]
          exact H8.pick [1, 2, 3, 4, 5]
        case measure => simp [intOf]; omega
    · obtain rfl : i = l.length := by omega
      rw [List.take_length] at hs
      have hso : s.out = outOf l ⟨xk, xf, xt⟩ := by rw [hs.out, takeF_out]
      have hsb : s.became = bec := by rw [hs.out, takeF_bec, hbech.out]
      have hsg : s.gave = gv := by rw [hs.out, hgvh.out]
      obtain ⟨O, sg, B0, sn⟩ := s
      simp only at hso hsb hsg HM hln
      subst hsb hsg
      have hrs := hrsh.out
      have hrl := hrlh.out
      rw [← hso] at hrs hrl
      have hOf : ∀ y ∈ O ++ [B0], y.fits := by
        rw [hso]
        intro y hy
        rcases List.mem_append.1 hy with hy | hy
        · exact outOf_fits hfith.out y hy
        · obtain rfl := List.mem_singleton.1 hy
          exact hbf
      have ks := fun w' v' hv' => ref_wsorted (v := v') (l := O ++ [B0]) w' hv' (by simp; omega)
      rw [hrs] at ks
      obtain ⟨ua, uc, rfl, huc, _⟩ := slice_form' (HM.row 0 rfl)
      obtain ⟨ga, gc, rfl, hgc, _⟩ := slice_form' (HM.row 1 rfl)
      have hOfh := Lib.hid hOf
      have hone := wdC_one1 B0
      have hOl : (O ++ [B0]).length = res.length := by rw [hrl]; simp
      have hrlh2 := Lib.hid hrl
      clear hso hbf hrl hrlh hrs hrsh hich hbech hgvh hs hOf
      obtain ⟨bk, bf, bt⟩ := B0
      unfold wdC textV at HM hone
      simp only at HM hone
      go_upto_region 13 with (fail)
      have H6 : St (fun _ => False) w wr [Row 41 3 (.slice ua O.length uc) O.length (wds O), Row 3 1 (.slice ga sg.length gc) sg.length (intCells sg), Blk bb #[.string ⟨bk.toArray⟩, .int .i64 bf, .int .i64 bt] 41, Blk br #[.string ⟨#[]⟩, .int .i64 0, .int .i64 0] 41] := HM.pick [0, 1, 2, 3]
      clear HM
      have hOl2 := Lib.hid hOl
      clear hOl
      refine wp_script [(0, false), (1, false), (5, false), (6, false), (2, true), (3, true), (4, true), (7, false), (8, true), (9, false)] (Fam fun w' => St (fun _ => False) w w' [Blk bb #[.string ⟨bk.toArray⟩, .int .i64 bf, .int .i64 bt] 41]) (fun w' => St (fun _ => False) w w' [Row 41 3 (.slice ua O.length uc) O.length (wds O), Row 3 1 (.slice ga sg.length gc) sg.length (intCells sg), Blk bb #[.string ⟨bk.toArray⟩, .int .i64 bf, .int .i64 bt] 41, Blk br #[.string ⟨#[]⟩, .int .i64 0, .int .i64 0] 41]) (by kernel_rfl) (by rfl) (by kernel_rfl) (by kernel_rfl) H6.drew (Fam.st (fun _ h => h.pick [2])) ?_
      iterate 4 first
        | (apply script_pass
           · rfl
           · rfl
           intro K hK
           go_simp
           refine hK _ ?_
           clear hK K)
        | (apply script_step
           · rfl
           · rfl
           · intro I hI w1 h1'
             have h1 := hI.2 _ h1'
             have d0 := h1.cell 0 0 rfl rfl
             have d1 := h1.cell 0 1 rfl rfl
             have d2 := h1.cell 0 2 rfl rfl
             first
               | (go_simp
                  first
                    | rfl
                    | exact ⟨rfl, h1'⟩
                 )
           intro K hK
           go_simp
           refine hK _ ?_
           clear hK K)
      obtain ⟨V1, hV1⟩ := hide_rel (fun u I' => ∃ g2, u = .slice (some ⟨g2, 0, none⟩) 1 1 ∧ I' = fun w' => St (fun _ => False) w w' [Row 41 3 (.slice ua O.length uc) O.length (wds O), Row 3 1 (.slice ga sg.length gc) sg.length (intCells sg), Blk bb #[.string ⟨bk.toArray⟩, .int .i64 bf, .int .i64 bt] 41, Blk br #[.string ⟨#[]⟩, .int .i64 0, .int .i64 0] 41, Blk g2 #[.string ⟨bk.toArray⟩, .int .i64 bf, .int .i64 bt] 41])
      obtain ⟨V2, hV2⟩ := hide_rel (fun u I' => ∃ ad cap, u = .slice ad (O.length + 1) cap ∧ I' = fun w' => St (fun _ => False) w w' [Row 41 3 (.slice ad (O.length + 1) cap) (O.length + 1) (wds (O ++ [⟨bk, bf, bt⟩])), Row 3 1 (.slice ga sg.length gc) sg.length (intCells sg), Blk bb #[.string ⟨bk.toArray⟩, .int .i64 bf, .int .i64 bt] 41, Blk br #[.string ⟨#[]⟩, .int .i64 0, .int .i64 0] 41])
      obtain ⟨V3, hV3⟩ := hide_rel (fun u I' => ∃ v', u = v' ∧ I' = fun w' => St (fun _ => False) w w' [Row 41 3 v' res.length (wds res), Row 3 1 (.slice ga sg.length gc) sg.length (intCells sg), Blk bb #[.string ⟨bk.toArray⟩, .int .i64 bf, .int .i64 bt] 41, Blk br #[.string ⟨#[]⟩, .int .i64 0, .int .i64 0] 41])
      refine script_big V1 rfl rfl ?_ ?_
      · intro w1 h1
        go_simp
        exact ⟨_, (hV1.out _ _).2 ⟨_, rfl, rfl⟩, (h1.alloc _ _).pick [1, 2, 3, 4, 0]⟩
      intro u I' hvI
      obtain ⟨g2, rfl, rfl⟩ := (hV1.out _ _).1 hvI
      clear hvI hV1
      refine ⟨_, fun _ h => h, Fam.st (fun _ h => h.pick [2]), ?_⟩
      intro K hK
      go_simp
      refine hK _ ?_
      clear hK K
      refine script_big V2 rfl rfl ?_ ?_
      · intro w1 h1
        refine h1.came_append 0 rfl (.tmp 44) (.tmp 46) 39 rfl Try.underlying39 Try.info41 (by decide) rfl [.string ⟨bk.toArray⟩, .int .i64 bf, .int .i64 bt] rfl rfl (by intro h; cases h) (blk_add (h1.blk 4 rfl)) hone (by omega) ?_
        intro v' w' H7
        obtain ⟨va, vc, rfl, _, _⟩ := slice_form' (H7.row 0 rfl)
        refine ⟨_, (hV2.out _ _).2 ⟨va, vc, rfl, rfl⟩, ?_⟩
        rw [wds_app, wds_one]
        exact St.pick (l := [_, _, _, _, _]) H7 [0, 1, 2, 3]
      intro u I' hvI
      obtain ⟨va, vc, rfl, rfl⟩ := (hV2.out _ _).1 hvI
      clear hvI hV2
      refine ⟨_, fun _ h => h, Fam.st (fun _ h => h.pick [2]), ?_⟩
      intro K hK
      go_simp
      refine hK _ ?_
      clear hK K
      refine script_big V3 rfl rfl ?_ ?_
      · intro w1 h1
        have hro := wds_own (h1.row 0 rfl) hOfh.out
        have ks2 := ks w1 _ hro
        rw [hOl2.out] at ks2
        go_simp
        refine ks2.mono ?_
        rintro e w7 ⟨v', rfl, H7⟩
        have H8 : St (fun _ => False) w w7 [_, _, _, _, _] := h1.call0 H7
        exact ⟨_, rfl, _, (hV3.out _ _).2 ⟨v', rfl, rfl⟩, H8.pick [0, 2, 3, 4]⟩
      intro u I' hvI
      obtain ⟨v', rfl, rfl⟩ := (hV3.out _ _).1 hvI
      clear hvI hV3
      refine ⟨_, fun _ h => h, Fam.st (fun _ h => h.pick [2]), ?_⟩
      intro K hK
      go_simp
      refine hK _ ?_
      clear hK K
      iterate 1 first
        | (apply script_pass
           · rfl
           · rfl
           intro K hK
           go_simp
           refine hK _ ?_
           clear hK K)
        | (apply script_step
           · rfl
           · rfl
           · intro I hI w1 h1'
             have h1 := hI.2 _ h1'
             first
               | (go_simp
                  first
                    | rfl
                    | exact ⟨rfl, h1'⟩
                 )
           intro K hK
           go_simp
           refine hK _ ?_
           clear hK K)
      obtain ⟨V4, hV4⟩ := hide_rel (fun uu I' => uu = undef ∧ I' = fun w' => St (fun _ => False) w w' [Row 41 3 u res.length (wds res), Row 3 1 (.slice ga sg.length gc) sg.length (intCells sg), Blk bb #[.string ⟨bk.toArray⟩, .int .i64 bf, .int .i64 bt] 41, Blk br #[.string ⟨bk.toArray⟩, .int .i64 bf, .int .i64 bt] 41])
      refine script_big V4 rfl rfl ?_ ?_
      · intro w1 h1
        have p0 := h1.cell 3 0 rfl rfl
        have p1 := h1.cell 3 1 rfl rfl
        have p2 := h1.cell 3 2 rfl rfl
        have f0 := h1.free 3 0 rfl
        have f1 := h1.free 3 1 rfl
        have f2 := h1.free 3 2 rfl
        go_simp
        exact ⟨_, (hV4.out _ _).2 ⟨rfl, rfl⟩, ((h1.set 3 rfl 0 _).set 3 rfl 1 _).set 3 rfl 2 _⟩
      intro u2 I' hvI
      obtain ⟨rfl, rfl⟩ := (hV4.out _ _).1 hvI
      clear hvI hV4
      refine ⟨_, fun _ h => h, Fam.st (fun _ h => h.pick [2]), ?_⟩
      intro K hK
      go_simp
      refine hK _ ?_
      clear hK K
      iterate 1 first
        | (apply script_pass
           · rfl
           · rfl
           intro K hK
           go_simp
           refine hK _ ?_
           clear hK K)
        | (apply script_step
           · rfl
           · rfl
           · intro I hI w1 h1'
             have h1 := hI.2 _ h1'
             first
               | (go_simp
                  first
                    | rfl
                    | exact ⟨rfl, h1'⟩
                 )
           intro K hK
           go_simp
           refine hK _ ?_
           clear hK K)
      refine script_nil ?_
      intro w9 H9
      go_wp2
      try simp only [Exit.inBlock, Exit.then]
      refine bodyPost_ret (results_tct rfl rfl (blk_range (cs := [.string ⟨bk.toArray⟩, .int .i64 bf, .int .i64 bt]) (H9.blk 3 rfl)) Try.underlying41 rfl (by kernel_rfl)) rfl ?_
      exact ⟨u, .slice ga sg.length gc, rfl, H9.pick [0, 1]⟩
end Go.Proofs.Ytoffcoegghigoaa
