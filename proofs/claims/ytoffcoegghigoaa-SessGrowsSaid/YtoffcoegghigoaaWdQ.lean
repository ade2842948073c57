/- A settled list stays settled when one is taken in; sess.All. Condition: so many windows. -/
import Derived.Test.YtoffcoegghigoaaWdV
namespace Go.Proofs.Ytoffcoegghigoaa
open Go.RowKit

theorem bec_ends (l : List Wd) (x : Wd) : ((becOf l x).frm = x.frm ∨ ∃ p ∈ l, p.joins x = true ∧ (becOf l x).frm = p.frm) ∧ ((becOf l x).to = x.to ∨ ∃ p ∈ l, p.joins x = true ∧ (becOf l x).to = p.to) := by
  have key : ∀ (m : List Wd) (b : Wd), ((m.foldl grow b).frm = b.frm ∨ ∃ p ∈ m, (m.foldl grow b).frm = p.frm) ∧ ((m.foldl grow b).to = b.to ∨ ∃ p ∈ m, (m.foldl grow b).to = p.to) := by
    intro m
    induction m with
    | nil => exact fun b => ⟨.inl rfl, .inl rfl⟩
    | cons o m ih =>
      intro b
      obtain ⟨h1, h2⟩ := ih (grow b o)
      rw [List.foldl_cons]
      constructor
      · rcases h1 with h1 | ⟨p, hp, h1⟩
        · rw [h1]
          simp only [grow]
          by_cases h : b.frm ≤ o.frm
          · exact .inl (by omega)
          · exact .inr ⟨o, by simp, by omega⟩
        · exact .inr ⟨p, by simp [hp], h1⟩
      · rcases h2 with h2 | ⟨p, hp, h2⟩
        · rw [h2]
          simp only [grow]
          by_cases h : o.to ≤ b.to
          · exact .inl (by omega)
          · exact .inr ⟨o, by simp, by omega⟩
        · exact .inr ⟨p, by simp [hp], h2⟩
  obtain ⟨h1, h2⟩ := key (l.filter (fun o => o.joins x)) x
  constructor
  · rcases h1 with h1 | ⟨p, hp, h1⟩
    · exact .inl h1
    · obtain ⟨g1, g2⟩ := List.mem_filter.1 hp
      exact .inr ⟨p, g1, by simpa using g2, h1⟩
  · rcases h2 with h2 | ⟨p, hp, h2⟩
    · exact .inl h2
    · obtain ⟨g1, g2⟩ := List.mem_filter.1 hp
      exact .inr ⟨p, g1, by simpa using g2, h2⟩
/-- Of a settled list two members are one or don't join. -/
theorem stl_apart {l : List Wd} (h : Stl l) {a b : Wd} (ha : a ∈ l) (hb : b ∈ l) : a = b ∨ a.joins b = false := by
  obtain ⟨_, h2⟩ := stl_iff.1 h
  obtain ⟨i, hi⟩ := List.getElem?_of_mem ha
  obtain ⟨k, hk⟩ := List.getElem?_of_mem hb
  rcases Nat.lt_trichotomy i k with g | g | g
  · exact .inr (h2 i k a b g hi hk).2
  · subst g
    rw [hi] at hk
    exact .inl (Option.some.inj hk)
  · exact .inr (by rw [joins_swap]; exact (h2 k i b a g hk hi).2)
theorem out_bec {l : List Wd} {x : Wd} (h : Stl l) (hx : x.right = true) : ∀ o ∈ outOf l x, o.joins (becOf l x) = false := by
  intro o ho
  obtain ⟨hol, hox⟩ := List.mem_filter.1 ho
  have hox : o.joins x = false := by simpa using hox
  have hor := (stl_iff.1 h).1 o hol
  obtain ⟨br, bk, bf, bt⟩ := bec_law hx l
  obtain ⟨e1, e2⟩ := bec_ends l x
  rw [Bool.eq_false_iff]
  intro hj
  obtain ⟨_, _, ek, j1, j2⟩ := joins_iff.1 hj
  have ekx : o.key = x.key := ek.trans bk
  have ho2 := right_iff.1 hor
  have hx2 := right_iff.1 hx
  have hno : ¬ (o.frm ≤ x.to ∧ x.frm ≤ o.to) := fun h => by
    rw [joins_iff.2 ⟨hor, hx, ekx, h.1, h.2⟩] at hox
    cases hox
  have hcl : ∀ p ∈ l, p.joins x = true → ¬ (o.frm ≤ p.to ∧ p.frm ≤ o.to) := by
    intro p hp hpx hc
    obtain ⟨pr, _, pk, _, _⟩ := joins_iff.1 hpx
    rcases stl_apart h hol hp with e | e
    · rw [e, hpx] at hox; cases hox
    · rw [joins_iff.2 ⟨hor, pr, ekx.trans pk.symm, hc.1, hc.2⟩] at e
      cases e
  by_cases hc : o.frm ≤ x.to
  · -- then x begins behind o
    rcases e1 with e1 | ⟨p, hp, hpx, e1⟩
    · exact hno ⟨hc, by omega⟩
    · obtain ⟨pr, _, _, p1, p2⟩ := joins_iff.1 hpx
      have pr2 := right_iff.1 pr
      exact hcl p hp hpx ⟨by omega, by omega⟩
  · rcases e2 with e2 | ⟨p, hp, hpx, e2⟩
    · omega
    · obtain ⟨pr, _, _, p1, p2⟩ := joins_iff.1 hpx
      exact hcl p hp hpx ⟨by omega, by omega⟩
theorem took_stl {l : List Wd} {x : Wd} (h : Stl l) (hx : x.right = true) : Stl (tookW l x) := by
  obtain ⟨hr, hp⟩ := stl_pair.1 h
  have hop := out_pair hp x
  have hb := out_bec h hx
  have hbr := (bec_law hx l).1
  have hne := bec_apart (l := l) hx
  have hor : ∀ o ∈ outOf l x, o.right = true := fun o ho => hr o (List.mem_filter.1 ho).1
  rw [stl_pair]
  unfold tookW insW
  obtain ⟨O, hO⟩ : ∃ O, outOf l x = O := ⟨_, rfl⟩
  obtain ⟨b, hbb⟩ : ∃ b, becOf l x = b := ⟨_, rfl⟩
  simp only [hO, hbb] at hop hb hbr hne hor ⊢
  refine ⟨fun y hy => ?_, ?_⟩
  · rcases List.mem_append.1 hy with hy | hy
    · exact hor y (List.mem_of_mem_take hy)
    · rcases List.mem_cons.1 hy with rfl | hy
      · exact hbr
      · exact hor y (List.mem_of_mem_drop hy)
  · have hcut := List.take_append_drop (posW O b) O
    have hpp := hop
    rw [← hcut] at hpp
    obtain ⟨p1, p2, p3⟩ := List.pairwise_append.1 hpp
    rw [List.pairwise_append]
    refine ⟨p1, List.pairwise_cons.2 ⟨fun z hz => ?_, p2⟩, fun y hy z hz => ?_⟩
    · obtain ⟨j, hj⟩ := List.getElem?_of_mem hz
      rw [List.getElem?_drop] at hj
      have h1 := posW_hi (b := b) hop (Nat.le_add_right _ _) hj
      have hzO := List.mem_of_mem_drop hz
      have h2 : z.place b ≠ 0 := fun e => hne z hzO (place_zero.1 e).symm
      have h3 := place_swap b z
      exact ⟨by omega, by rw [joins_swap]; exact hb z hzO⟩
    · rcases List.mem_cons.1 hz with rfl | hz
      · obtain ⟨j, hj⟩ := List.getElem?_of_mem hy
        have hjl : j < posW O z := by
          have := (List.getElem?_eq_some_iff.1 hj).1
          rw [List.length_take] at this
          omega
        rw [List.getElem?_take] at hj
        rw [if_pos hjl] at hj
        exact ⟨posW_lo hjl hj, hb y (List.mem_of_mem_take hy)⟩
      · exact p3 y hy z hz
def takeM (l : List Wd) (x : Wd) : List Wd := if x.right = true then tookW l x else l
def allM (l : List Wd) : List Wd := l.foldl takeM []
theorem allM_snoc (l : List Wd) (x : Wd) : allM (l ++ [x]) = takeM (allM l) x := by simp [allM]
theorem takeM_len (l : List Wd) (x : Wd) : (takeM l x).length ≤ l.length + 1 := by
  unfold takeM
  split
  · unfold tookW
    rw [insW_len]
    have : (outOf l x).length ≤ l.length := List.length_filter_le _ _
    omega
  · omega
theorem takeM_stl {l : List Wd} (h : Stl l) (x : Wd) : Stl (takeM l x) := by
  unfold takeM
  split
  · rename_i hx; exact took_stl h hx
  · exact h
theorem takeM_fits {l : List Wd} {x : Wd} (h : ∀ y ∈ l, y.fits) (hx : x.fits) : ∀ y ∈ takeM l x, y.fits := by
  unfold takeM
  split
  · exact (took_fits h hx).2
  · exact h
theorem stl_nil : Stl [] := fun k x hx => by simp at hx
theorem allM_law : ∀ (l : List Wd), (∀ x ∈ l, x.fits) → Stl (allM l) ∧ (∀ y ∈ allM l, y.fits) ∧ (allM l).length ≤ l.length := by
  refine snoc_ind (fun _ => ⟨stl_nil, by simp [allM], Nat.le_refl _⟩) (fun l x ih h => ?_)
  obtain ⟨h1, h2, h3⟩ := ih (fun y hy => h y (by simp [hy]))
  rw [allM_snoc]
  have := takeM_len (allM l) x
  exact ⟨takeM_stl h1 x, takeM_fits h2 (h x (by simp)), by simp; omega⟩

/-- Take, of a settled list, whatever the window: its first result. -/
theorem sess_take_any {v : Value} {l : List Wd} {x : Wd} (w : World) (hv : WdsRO w v l) (hl : l.length + 1 ≤ 4398046511104) (hx : x.fits) (hset : Stl l) :
    Calls Try.prog 26 #[v, wdV x] w fun e w' => ∃ v' b vg, e = .returned (.tuple #[v', b, vg]) ∧ St (fun _ => False) w w' [Row 41 3 v' (takeM l x).length (wds (takeM l x))] := by
  unfold takeM
  by_cases hr : x.right = true
  · rw [if_pos hr]
    exact (sess_take w hv hl hx (stl_true.2 hset) hr).mono fun e w' ⟨v', vg, h1, h2⟩ => ⟨v', _, vg, h1, h2.pick [0]⟩
  · rw [if_neg hr]
    exact (sess_take_no w hv (by omega) hx (by rw [Bool.and_eq_false_iff]; exact .inr (by simpa using hr))).mono fun e w' ⟨v', h1, h2⟩ => ⟨v', _, _, h1, h2⟩

set_option maxHeartbeats 4000000 in
set_option maxRecDepth 100000 in
theorem sess_all {v : Value} {l : List Wd} (w : World) (hv : WdsRO w v l) (hl : l.length + 1 ≤ 4398046511104) :
    Calls Try.prog 31 #[v] w fun e w' => ∃ v', e = .returned v' ∧ St (fun _ => False) w w' [Row 41 3 v' (allM l).length (wds (allM l))] := by
  obtain ⟨ao, cap, rfl, hcap, hfit, hic⟩ := hv
  have hich := Lib.hid hic
  have hfith := Lib.hid hfit
  clear hfit hic
  go_enter Try.func31, Try.ntmps31
  have H4 : St (fun _ => False) w w [Row 41 3 (.slice none 0 0) 0 (wds [])] := (St.nil _ w).row_nil 41 3
  go_upto_block 1 with (fail)
  go_loopw [3, 8] (fun u j wr => ∃ (i : Nat) (M : List Wd), i ≤ l.length ∧ j = .int .i64 i ∧ Hid (M = allM (l.take i)) ∧ St (fun _ => False) w wr [Row 41 3 u M.length (wds M)]) (fun _ j _ => l.length - (intOf j).toNat)
  case atStart => exact ⟨0, [], by omega, rfl, Lib.hid rfl, H4⟩
  case round =>
    clear H4
    obtain ⟨i, M, hi, rfl, hM, HM⟩ := hrel
    by_cases hil : i < l.length
    · obtain ⟨b, o, rfl, hb, hc⟩ := hich.out (by intro e; rw [e] at hil; simp at hil)
      obtain ⟨x, hx⟩ : ∃ x, l[i]? = some x := ⟨_, List.getElem?_eq_getElem hil⟩
      obtain ⟨q0, q1, q2⟩ := wd_cells (hc i x hx) (HM.kept.block b hb id)
      have hxf := hfith.out x (List.mem_of_getElem? hx)
      obtain ⟨m1, m2, m3⟩ := allM_law (l.take i) (fun y hy => hfith.out y (List.mem_of_mem_take hy))
      rw [← hM.out] at m1 m2 m3
      rw [List.length_take] at m3
      have hn := Lib.hid (show allM (l.take (i + 1)) = takeM M x by rw [take_snoc' hx, allM_snoc, hM.out])
      have kt := fun w' v' hv' => sess_take_any (l := M) (x := x) (v := v') w' hv' (by omega) hxf m1
      obtain ⟨ua, uc, rfl, huc, _⟩ := slice_form' (HM.row 0 rfl)
      have hm2 := Lib.hid m2
      clear hx hc hM m1 m2 hxf
      obtain ⟨N, hN⟩ : ∃ N, takeM M x = N := ⟨_, rfl⟩
      rw [hN] at hn
      simp only [hN] at kt
      clear hN
      obtain ⟨xk, xf, xt⟩ := x
      unfold wdV wdC textV at kt
      simp only at q0 q1 q2 kt
      unfold textV at q0
      have HA : St (fun _ => False) w _ [_, _] := HM.allocAt rfl #[.string ⟨xk.toArray⟩, .int .i64 xf, .int .i64 xt] 41
      go_upto_region 5 with (fail)
      obtain ⟨wb, hwb⟩ : ∃ wb, wr.alloc (.cells #[.string ⟨xk.toArray⟩, .int .i64 xf, .int .i64 xt] 41) = wb := ⟨_, rfl⟩
      obtain ⟨xb, hxb⟩ : ∃ xb, wr.heap.size = xb := ⟨_, rfl⟩
      rw [hwb, hxb] at HA
      try rw [hwb]
      try simp only [hxb]
      have HA2 : St (fun _ => False) w wb [Blk xb #[.string ⟨xk.toArray⟩, .int .i64 xf, .int .i64 xt] 41, Row 41 3 (.slice ua M.length uc) M.length (wds M)] := HA
      clear hwb hxb q0 q1 q2 HM HA
      have d0 := HA2.cell 0 0 rfl rfl
      have d1 := HA2.cell 0 1 rfl rfl
      have d2 := HA2.cell 0 2 rfl rfl
      have kt2 := kt wb _ (wds_own (HA2.row 1 rfl) hm2.out)
      clear kt
      go_wp2_with (go_at_call 26; go_must (refine kt2.mono ?_; rintro e w3 ⟨v3, b3, g3, rfl, H3⟩))
      go_roundw
      case rel =>
        have H5 : St (fun _ => False) w w3 [_, _, _] := HA2.call0 H3
        exact ⟨i + 1, N, by omega, by go_num, Lib.hid hn.out.symm, H5.pick [0]⟩
      case measure => simp [intOf]; omega
    · obtain rfl : i = l.length := by omega
      rw [List.take_length] at hM
      obtain ⟨ua, uc, rfl, huc, _⟩ := slice_form' (HM.row 0 rfl)
      go_wp2
      go_ret
      rw [← hM.out]
      exact ⟨_, rfl, HM⟩
end Go.Proofs.Ytoffcoegghigoaa
