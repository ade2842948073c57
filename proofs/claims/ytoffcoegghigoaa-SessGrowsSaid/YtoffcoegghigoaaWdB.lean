/- Windows: right ones, which join, their places. -/
import Derived.Test.YtoffcoegghigoaaWdA
import Derived.Test.YtoffcoegghigoaaShelfCmp
import Derived.Test.YtoffcoegghigoaaItmR
namespace Go.Proofs.Ytoffcoegghigoaa
open Go.RowKit

def orI (l : List Int) : Int := (l.find? fun x => decide (x ≠ 0)).getD 0
theorem orI_zero {l : List Int} {i : Nat} {x : Int} (h : ∀ y ∈ l.take i, y = 0) (hx : l[i]? = some x) (h0 : x ≠ 0) : orI l = x := by
  have e : l = l.take i ++ (x :: l.drop (i + 1)) := by
    obtain ⟨hi, rfl⟩ := List.getElem?_eq_some_iff.1 hx
    rw [List.getElem_cons_drop, List.take_append_drop]
  have e2 : (l.take i).find? (fun x => decide (x ≠ 0)) = none := by
    rw [List.find?_eq_none]
    intro y hy
    simp [h y hy]
  unfold orI
  rw [e, List.find?_append, e2]
  simp [h0]
theorem orI_all {l : List Int} (h : ∀ y ∈ l, y = 0) : orI l = 0 := by
  have e2 : l.find? (fun x => decide (x ≠ 0)) = none := by
    rw [List.find?_eq_none]
    intro y hy
    simp [h y hy]
  unfold orI
  rw [e2]
  rfl
theorem ints_blk {w : World} {b : Nat} {t : TypeId} {l : List Int} (hb : w.heap[b]? = some (.cells (intCells l).toArray t (0, 0))) (hf : ∀ x ∈ l, -9223372036854775808 ≤ x ∧ x ≤ 9223372036854775807) : IntsRO w (.slice (some ⟨b, 0, none⟩) l.length l.length) l := by
  refine ⟨_, _, rfl, Nat.le_refl _, hf, fun _ => ⟨b, 0, rfl, blk_lt hb, fun i x hi => ?_⟩⟩
  rw [Nat.zero_add]
  refine cell_blk' hb ?_
  rw [List.getElem?_toArray]
  simp [intCells, hi]
set_option maxHeartbeats 1000000 in
set_option maxRecDepth 100000 in
theorem cmp_or {v : Value} {l : List Int} (w : World) (hv : IntsRO w v l) (hl : l.length ≤ 9223372036854775807) :
    Calls Try.prog 75 #[v] w fun e w' => e = .returned (.int .i64 (orI l)) ∧ w' = w := by
  obtain ⟨ao, cap, rfl, hcap, hint, hcell⟩ := hv
  go_enter Try.func75, Try.ntmps75
  go_upto_block 1 with (fail)
  go_loopw [5, 8] (fun _ j wr => ∃ (i : Nat), i ≤ l.length ∧ j = .int .i64 i ∧ Hid (∀ y ∈ l.take i, y = 0) ∧ wr = w) (fun _ j _ => l.length - (intOf j).toNat)
  case atStart => exact ⟨0, by omega, rfl, Lib.hid (by simp), rfl⟩
  case round =>
    obtain ⟨i, hi, rfl, hz, rfl⟩ := hrel
    by_cases hlt : i < l.length
    · obtain ⟨b, o, rfl, hb, hc⟩ := hcell (by rintro rfl; simp at hlt)
      obtain ⟨x, hx⟩ : ∃ x, l[i]? = some x := ⟨_, List.getElem?_eq_getElem hlt⟩
      have c0 := hc i x hx
      have hxh := Lib.hid hx
      clear hx hc hcell
      by_cases h0 : x = 0
      · subst h0
        go_wp2
        go_roundw
        case rel =>
          refine ⟨i + 1, by omega, by go_num, Lib.hid ?_, by first | rfl | trivial⟩
          rw [take_snoc' hxh.out]
          intro y hy
          rcases List.mem_append.1 hy with hy | hy
          · exact hz.out y hy
          · exact List.mem_singleton.1 hy
        case measure => simp [intOf]; omega
      · have hr := Lib.hid (orI_zero hz.out hxh.out h0)
        have z0 : (x != 0) = true := by simpa using h0
        have z1 : (x == 0) = false := by simpa using h0
        go_wp2
        go_ret
        rw [hr.out]
        exact ⟨rfl, rfl⟩
    · obtain rfl : i = l.length := by omega
      have hr := Lib.hid (orI_all (l := l) (by have := hz.out; rwa [List.take_length] at this))
      go_wp2
      go_ret
      rw [hr.out]
      exact ⟨rfl, rfl⟩
theorem compare_lim (a b : List UInt8) : -1 ≤ Lib.compareBytes a b ∧ Lib.compareBytes a b ≤ 1 := by
  induction a generalizing b with
  | nil => cases b <;> simp [Lib.compareBytes]
  | cons x a ih =>
    cases b with
    | nil => simp [Lib.compareBytes]
    | cons y b =>
      unfold Lib.compareBytes
      split
      · omega
      · split
        · omega
        · exact ih b
theorem compareI_lim (a b : Int) : -1 ≤ Lib.compareInt a b ∧ Lib.compareInt a b ≤ 1 := by
  unfold Lib.compareInt
  split
  · omega
  · split <;> omega
theorem place_or (a b : Wd) : orI [Lib.compareBytes a.key b.key, Lib.compareInt a.frm b.frm, Lib.compareInt a.to b.to] = a.place b := by
  unfold Wd.place orI
  by_cases h1 : Lib.compareBytes a.key b.key = 0
  · by_cases h2 : Lib.compareInt a.frm b.frm = 0
    · by_cases h3 : Lib.compareInt a.to b.to = 0 <;> simp [h1, h2, h3]
    · simp [h1, h2]
  · simp [h1]
set_option maxHeartbeats 2000000 in
set_option maxRecDepth 100000 in
theorem wd_place (x y : Wd) (w : World) : Calls Try.prog 60 #[wdV x, wdV y] w fun e w' => e = .returned (.int .i64 (x.place y)) ∧ Below w.heap.size w w' := by
  have hp := Lib.hid (place_or x y)
  have l1 := compare_lim x.key y.key
  have l2 := compareI_lim x.frm y.frm
  have l3 := compareI_lim x.to y.to
  obtain ⟨xk, xf, xt⟩ := x
  obtain ⟨yk, yf, yt⟩ := y
  have H0 : St (fun _ => False) w w [] := St.nil (fun _ => False) w
  have H1 : St (fun _ => False) w _ [_] := H0.allocAt rfl #[.string ⟨xk.toArray⟩, .int .i64 xf, .int .i64 xt] 41
  have H2 : St (fun _ => False) w _ [_, _] := H1.allocAt (B := w.heap.size + 1) (Array.size_push _) #[.string ⟨yk.toArray⟩, .int .i64 yf, .int .i64 yt] 41
  have k1 := fun w' => strings_Compare ⟨xk.toArray⟩ ⟨yk.toArray⟩ w'
  have k2 := fun w' => cmp_Compare_int xf yf w'
  have k3 := fun w' => cmp_Compare_int xt yt w'
  simp only at hp l1 l2 l3 k1
  obtain ⟨c1, hc1⟩ : ∃ c, Lib.compareBytes xk yk = c := ⟨_, rfl⟩
  obtain ⟨c2, hc2⟩ : ∃ c, Lib.compareInt xf yf = c := ⟨_, rfl⟩
  obtain ⟨c3, hc3⟩ : ∃ c, Lib.compareInt xt yt = c := ⟨_, rfl⟩
  rw [hc1] at l1
  rw [hc2] at l2
  rw [hc3] at l3
  rw [hc1, hc2, hc3] at hp
  simp only [hc1] at k1
  simp only [hc2] at k2
  simp only [hc3] at k3
  clear hc1 hc2 hc3
  unfold wdV wdC textV
  simp only
  go_enter Try.func60, Try.ntmps60
  go_upto_region 1 with (fail)
  obtain ⟨b, hb⟩ : ∃ b, w.heap.size = b := ⟨_, rfl⟩
  obtain ⟨b2, hb2⟩ : ∃ b2, b + 1 = b2 := ⟨_, rfl⟩
  obtain ⟨w2, hw2⟩ : ∃ w2, (w.alloc (.cells #[.string ⟨xk.toArray⟩, .int .i64 xf, .int .i64 xt] 41)).alloc (.cells #[.string ⟨yk.toArray⟩, .int .i64 yf, .int .i64 yt] 41) = w2 := ⟨_, rfl⟩
  rw [hw2, hb, hb2] at H2
  rw [hw2]
  simp only [hb, hb2]
  have H2 : St (fun _ => False) w w2 [Blk b2 #[.string ⟨yk.toArray⟩, .int .i64 yf, .int .i64 yt] 41, Blk b #[.string ⟨xk.toArray⟩, .int .i64 xf, .int .i64 xt] 41] := H2
  clear hb hb2 hw2 H0 H1
  refine wp_calm_tail 15 (fun w' => St (fun _ => False) w w' [Blk b2 #[.string ⟨yk.toArray⟩, .int .i64 yf, .int .i64 yt] 41, Blk b #[.string ⟨xk.toArray⟩, .int .i64 xf, .int .i64 xt] 41]) (by kernel_rfl) (by kernel_rfl) (H2.drew) ?_
  simp only [List.take_succ_cons, List.take_zero, List.drop_succ_cons, List.drop_zero]
  iterate 15 first
    | (apply calm_pass
       · rfl
       intro K hK
       go_simp
       refine hK _ ?_
       clear hK K)
    | (apply calm_step
       · rfl
       · intro w1 h1
         have d0 := h1.cell 0 0 rfl rfl
         have d1 := h1.cell 0 1 rfl rfl
         have d2 := h1.cell 0 2 rfl rfl
         have e0 := h1.cell 1 0 rfl rfl
         have e1 := h1.cell 1 1 rfl rfl
         have e2 := h1.cell 1 2 rfl rfl
         first
           | (go_simp
              first
                | rfl
                | exact ⟨rfl, h1⟩
                | (go_at_call 76; with_reducible exact St.callSame' (k1 w1) h1)
                | (go_at_call 77; with_reducible exact St.callSame' (k2 w1) h1)
                | (go_at_call 77; with_reducible exact St.callSame' (k3 w1) h1)
             )
       intro K hK
       go_simp
       refine hK _ ?_
       clear hK K)
  refine calm_nil ?_
  intro w3 H3
  have H4 : St (fun _ => False) w _ [_, _, _] := H3.allocAt rfl #[.int .i64 c1, .int .i64 c2, .int .i64 c3] 3
  have ko := cmp_or _ (ints_blk (l := [c1, c2, c3]) (H4.blk 0 rfl) (by
    intro z hz
    simp only [List.mem_cons, List.not_mem_nil, or_false] at hz
    omega)) (by simp)
  have ko2 := St.callSame' ko H4
  simp only [List.length_cons, List.length_nil] at ko2
  go_wp2_with (go_at_call 75; go_must (refine ko2.mono ?_; rintro e w4 ⟨rfl, H5⟩))
  go_ret
  rw [hp.out]
  exact ⟨rfl, H5.below (Nat.le_refl _) (fun _ h => h.elim)⟩

set_option maxHeartbeats 2000000 in
set_option maxRecDepth 100000 in
theorem wd_right (x : Wd) (hx : x.fits) (w : World) : Calls Try.prog 56 #[wdV x] w fun e w' => e = .returned (.bool x.right) ∧ Below w.heap.size w w' := by
  obtain ⟨key, f, t⟩ := x
  have kn := fun w' => ev_name key hx.1 w'
  have hr0 : Wd.right ⟨key, f, t⟩ = (nameB key && decide (0 ≤ f) && decide (f ≤ 1099511627776) && decide (f < t) && decide (t ≤ 4398046511104)) := rfl
  obtain ⟨nm, hnm⟩ : ∃ nm, nameB key = nm := ⟨_, rfl⟩
  rw [hnm] at kn hr0
  clear hnm
  have H : St (fun _ => False) w _ [_] := (St.nil (fun _ => False) w).allocAt rfl #[.string ⟨key.toArray⟩, .int .i64 f, .int .i64 t] 41
  have hcs : ∃ z0 z1 z2 z3 : Bool, decide (0 ≤ f) = z0 ∧ decide (f ≤ 1099511627776) = z1 ∧ decide (f < t) = z2 ∧ decide (t ≤ 4398046511104) = z3 := ⟨_, _, _, _, rfl, rfl, rfl, rfl⟩
  obtain ⟨z0, z1, z2, z3, e0, e1, e2, e3⟩ := hcs
  rw [e0, e1, e2, e3] at hr0
  have hr := Lib.hid hr0
  unfold textV at kn
  unfold wdV wdC textV
  simp only
  clear hr0 hx
  go_enter Try.func56, Try.ntmps56
  go_upto_region 1 with (fail)
  obtain ⟨b, hb⟩ : ∃ b, w.heap.size = b := ⟨_, rfl⟩
  obtain ⟨w1, hw1⟩ : ∃ w1, w.alloc (.cells #[.string ⟨key.toArray⟩, .int .i64 f, .int .i64 t] 41) = w1 := ⟨_, rfl⟩
  rw [hw1, hb] at H
  rw [hw1]
  simp only [hb]
  have H : St (fun _ => False) w w1 [Blk b #[.string ⟨key.toArray⟩, .int .i64 f, .int .i64 t] 41] := H
  clear hb hw1
  have c0 := H.cell 0 0 rfl rfl
  have c1 := H.cell 0 1 rfl rfl
  have c2 := H.cell 0 2 rfl rfl
  have hk : nm = false ∨ (nm = true ∧ z0 = false) ∨ (nm = true ∧ z0 = true ∧ z1 = false) ∨ (nm = true ∧ z0 = true ∧ z1 = true ∧ z2 = false) ∨ (nm = true ∧ z0 = true ∧ z1 = true ∧ z2 = true) := by
    cases nm <;> cases z0 <;> cases z1 <;> cases z2 <;> simp
  rcases hk with rfl | ⟨rfl, rfl⟩ | ⟨rfl, rfl, rfl⟩ | ⟨rfl, rfl, rfl, rfl⟩ | ⟨rfl, rfl, rfl, rfl⟩
  all_goals
    go_wp2_with (go_at_call 72; go_must (refine (kn _).mono ?_; rintro e w7 ⟨rfl, rfl⟩))
    go_ret
    rw [hr.out]
    exact ⟨ret_bool (by simp), H.below (Nat.le_refl _) (fun _ h => h.elim)⟩

set_option maxHeartbeats 2000000 in
set_option maxRecDepth 100000 in
theorem ref_wright (x : Wd) (hx : x.fits) (w : World) : Calls Try.prog 28 #[wdV x] w fun e w' => e = .returned (.bool x.right) ∧ Below w.heap.size w w' := by
  obtain ⟨key, f, t⟩ := x
  have kn := fun w' => ref_name key hx.1 w'
  have hr0 : Wd.right ⟨key, f, t⟩ = (nameB key && decide (0 ≤ f) && decide (f ≤ 1099511627776) && decide (f < t) && decide (t ≤ 4398046511104)) := rfl
  obtain ⟨nm, hnm⟩ : ∃ nm, nameB key = nm := ⟨_, rfl⟩
  rw [hnm] at kn hr0
  clear hnm
  have H : St (fun _ => False) w _ [_] := (St.nil (fun _ => False) w).allocAt rfl #[.string ⟨key.toArray⟩, .int .i64 f, .int .i64 t] 41
  have hcs : ∃ z0 z1 z2 z3 : Bool, decide (0 ≤ f) = z0 ∧ decide (f ≤ 1099511627776) = z1 ∧ decide (f < t) = z2 ∧ decide (t ≤ 4398046511104) = z3 := ⟨_, _, _, _, rfl, rfl, rfl, rfl⟩
  obtain ⟨z0, z1, z2, z3, e0, e1, e2, e3⟩ := hcs
  rw [e0, e1, e2, e3] at hr0
  have hr := Lib.hid hr0
  unfold textV at kn
  unfold wdV wdC textV
  simp only
  clear hr0 hx
  go_enter Try.func28, Try.ntmps28
  go_upto_region 1 with (fail)
  obtain ⟨b, hb⟩ : ∃ b, w.heap.size = b := ⟨_, rfl⟩
  obtain ⟨w1, hw1⟩ : ∃ w1, w.alloc (.cells #[.string ⟨key.toArray⟩, .int .i64 f, .int .i64 t] 41) = w1 := ⟨_, rfl⟩
  rw [hw1, hb] at H
  rw [hw1]
  simp only [hb]
  have H : St (fun _ => False) w w1 [Blk b #[.string ⟨key.toArray⟩, .int .i64 f, .int .i64 t] 41] := H
  clear hb hw1
  have c0 := H.cell 0 0 rfl rfl
  have c1 := H.cell 0 1 rfl rfl
  have c2 := H.cell 0 2 rfl rfl
  have hk : nm = false ∨ (nm = true ∧ z0 = false) ∨ (nm = true ∧ z0 = true ∧ z1 = false) ∨ (nm = true ∧ z0 = true ∧ z1 = true ∧ z2 = false) ∨ (nm = true ∧ z0 = true ∧ z1 = true ∧ z2 = true) := by
    cases nm <;> cases z0 <;> cases z1 <;> cases z2 <;> simp
  rcases hk with rfl | ⟨rfl, rfl⟩ | ⟨rfl, rfl, rfl⟩ | ⟨rfl, rfl, rfl, rfl⟩ | ⟨rfl, rfl, rfl, rfl⟩
  all_goals
    go_wp2_with (go_at_call 62; go_must (refine (kn _).mono ?_; rintro e w7 ⟨rfl, rfl⟩))
    go_ret
    rw [hr.out]
    exact ⟨ret_bool (by simp), H.below (Nat.le_refl _) (fun _ h => h.elim)⟩

set_option maxHeartbeats 2000000 in
set_option maxRecDepth 100000 in
theorem wd_joins (x y : Wd) (hx : x.fits) (hy : y.fits) (w : World) : Calls Try.prog 23 #[wdV x, wdV y] w fun e w' => e = .returned (.bool (x.joins y)) ∧ Below w.heap.size w w' := by
  have kx := fun w' => wd_right x hx w'
  have ky := fun w' => wd_right y hy w'
  have hr0 : x.joins y = (x.right && y.right && decide (x.key = y.key) && decide (x.frm ≤ y.to) && decide (y.frm ≤ x.to)) := rfl
  obtain ⟨rx, hrx⟩ : ∃ rx, x.right = rx := ⟨_, rfl⟩
  obtain ⟨ry, hry⟩ : ∃ ry, y.right = ry := ⟨_, rfl⟩
  rw [hrx] at kx hr0
  rw [hry] at ky hr0
  clear hrx hry hx hy
  obtain ⟨xk, xf, xt⟩ := x
  obtain ⟨yk, yf, yt⟩ := y
  have H0 : St (fun _ => False) w w [] := St.nil (fun _ => False) w
  have H1 : St (fun _ => False) w _ [_] := H0.allocAt rfl #[.string ⟨xk.toArray⟩, .int .i64 xf, .int .i64 xt] 41
  have H2 : St (fun _ => False) w _ [_, _] := H1.allocAt (B := w.heap.size + 1) (Array.size_push _) #[.string ⟨yk.toArray⟩, .int .i64 yf, .int .i64 yt] 41
  simp only at hr0
  have hcs : ∃ z1 z2 z3 : Bool, decide (xk = yk) = z1 ∧ decide (xf ≤ yt) = z2 ∧ decide (yf ≤ xt) = z3 := ⟨_, _, _, rfl, rfl, rfl⟩
  obtain ⟨z1, z2, z3, e1, e2, e3⟩ := hcs
  rw [e1, e2, e3] at hr0
  have hr := Lib.hid hr0
  have e1b : (xk == yk) = z1 := by rw [← e1]; by_cases h : xk = yk <;> simp [h]
  unfold wdV wdC textV at kx ky ⊢
  simp only at kx ky ⊢
  clear hr0
  go_enter Try.func23, Try.ntmps23
  go_upto_region 1 with (fail)
  obtain ⟨b, hb⟩ : ∃ b, w.heap.size = b := ⟨_, rfl⟩
  obtain ⟨b2, hb2⟩ : ∃ b2, b + 1 = b2 := ⟨_, rfl⟩
  obtain ⟨w2, hw2⟩ : ∃ w2, (w.alloc (.cells #[.string ⟨xk.toArray⟩, .int .i64 xf, .int .i64 xt] 41)).alloc (.cells #[.string ⟨yk.toArray⟩, .int .i64 yf, .int .i64 yt] 41) = w2 := ⟨_, rfl⟩
  rw [hw2, hb, hb2] at H2
  rw [hw2]
  simp only [hb, hb2]
  have H2 : St (fun _ => False) w w2 [Blk b2 #[.string ⟨yk.toArray⟩, .int .i64 yf, .int .i64 yt] 41, Blk b #[.string ⟨xk.toArray⟩, .int .i64 xf, .int .i64 xt] 41] := H2
  clear hb hb2 hw2 H0 H1
  have c0 := H2.cell 1 0 rfl rfl
  have c1 := H2.cell 1 1 rfl rfl
  have c2 := H2.cell 1 2 rfl rfl
  have hk : rx = false ∨ (rx = true ∧ ry = false) ∨ (rx = true ∧ ry = true ∧ z1 = false) ∨ (rx = true ∧ ry = true ∧ z1 = true ∧ z2 = false) ∨ (rx = true ∧ ry = true ∧ z1 = true ∧ z2 = true) := by
    cases rx <;> cases ry <;> cases z1 <;> cases z2 <;> simp
  rcases hk with rfl | hk
  · go_wp2_with (go_at_call 56; go_must (refine (St.callPast (kx _) H2).mono ?_; rintro e w7 ⟨rfl, H4⟩))
    go_ret
    rw [hr.out]
    exact ⟨ret_bool (by simp), H4.below (Nat.le_refl _) (fun _ h => h.elim)⟩
  · rcases hk with ⟨rfl, rfl⟩ | ⟨rfl, rfl, rfl⟩ | ⟨rfl, rfl, rfl, rfl⟩ | ⟨rfl, rfl, rfl, rfl⟩
    all_goals
      go_wp2_with (first
        | (go_at_call 56; refine (St.callPast (ky _) H3).mono ?_; rintro e w8 ⟨rfl, H4⟩; have c0 := H4.cell 1 0 rfl rfl; have c1 := H4.cell 1 1 rfl rfl; have c2 := H4.cell 1 2 rfl rfl; have d0 := H4.cell 0 0 rfl rfl; have d1 := H4.cell 0 1 rfl rfl; have d2 := H4.cell 0 2 rfl rfl)
        | (go_at_call 56; go_must (refine (St.callPast (kx _) H2).mono ?_; rintro e w7 ⟨rfl, H3⟩; have d0 := H3.cell 0 0 rfl rfl; have d1 := H3.cell 0 1 rfl rfl; have d2 := H3.cell 0 2 rfl rfl)))
      go_ret
      rw [hr.out]
      exact ⟨ret_bool (by simp), H4.below (Nat.le_refl _) (fun _ h => h.elim)⟩

set_option maxHeartbeats 2000000 in
set_option maxRecDepth 100000 in
theorem ref_joins (x y : Wd) (hx : x.fits) (hy : y.fits) (w : World) : Calls Try.prog 24 #[wdV x, wdV y] w fun e w' => e = .returned (.bool (x.joins y)) ∧ Below w.heap.size w w' := by
  have kx := fun w' => ref_wright x hx w'
  have ky := fun w' => ref_wright y hy w'
  have hr0 : x.joins y = (x.right && y.right && decide (x.key = y.key) && decide (x.frm ≤ y.to) && decide (y.frm ≤ x.to)) := rfl
  obtain ⟨rx, hrx⟩ : ∃ rx, x.right = rx := ⟨_, rfl⟩
  obtain ⟨ry, hry⟩ : ∃ ry, y.right = ry := ⟨_, rfl⟩
  rw [hrx] at kx hr0
  rw [hry] at ky hr0
  clear hrx hry hx hy
  obtain ⟨xk, xf, xt⟩ := x
  obtain ⟨yk, yf, yt⟩ := y
  have H0 : St (fun _ => False) w w [] := St.nil (fun _ => False) w
  have H1 : St (fun _ => False) w _ [_] := H0.allocAt rfl #[.string ⟨xk.toArray⟩, .int .i64 xf, .int .i64 xt] 41
  have H2 : St (fun _ => False) w _ [_, _] := H1.allocAt (B := w.heap.size + 1) (Array.size_push _) #[.string ⟨yk.toArray⟩, .int .i64 yf, .int .i64 yt] 41
  simp only at hr0
  have hcs : ∃ z1 z2 z3 : Bool, decide (xk = yk) = z1 ∧ decide (xf ≤ yt) = z2 ∧ decide (yf ≤ xt) = z3 := ⟨_, _, _, rfl, rfl, rfl⟩
  obtain ⟨z1, z2, z3, e1, e2, e3⟩ := hcs
  rw [e1, e2, e3] at hr0
  have hr := Lib.hid hr0
  have e1b : (xk == yk) = z1 := by rw [← e1]; by_cases h : xk = yk <;> simp [h]
  have e2n : decide (yt < xf) = !z2 := by
    rw [← e2]
    by_cases h : xf ≤ yt
    · rw [decide_eq_true h, decide_eq_false (by omega)]; rfl
    · rw [decide_eq_false h, decide_eq_true (by omega)]; rfl
  have e3n : decide (xt < yf) = !z3 := by
    rw [← e3]
    by_cases h : yf ≤ xt
    · rw [decide_eq_true h, decide_eq_false (by omega)]; rfl
    · rw [decide_eq_false h, decide_eq_true (by omega)]; rfl
  unfold wdV wdC textV at kx ky ⊢
  simp only at kx ky ⊢
  clear hr0
  go_enter Try.func24, Try.ntmps24
  go_upto_region 1 with (fail)
  obtain ⟨b, hb⟩ : ∃ b, w.heap.size = b := ⟨_, rfl⟩
  obtain ⟨b2, hb2⟩ : ∃ b2, b + 1 = b2 := ⟨_, rfl⟩
  obtain ⟨w2, hw2⟩ : ∃ w2, (w.alloc (.cells #[.string ⟨xk.toArray⟩, .int .i64 xf, .int .i64 xt] 41)).alloc (.cells #[.string ⟨yk.toArray⟩, .int .i64 yf, .int .i64 yt] 41) = w2 := ⟨_, rfl⟩
  rw [hw2, hb, hb2] at H2
  rw [hw2]
  simp only [hb, hb2]
  have H2 : St (fun _ => False) w w2 [Blk b2 #[.string ⟨yk.toArray⟩, .int .i64 yf, .int .i64 yt] 41, Blk b #[.string ⟨xk.toArray⟩, .int .i64 xf, .int .i64 xt] 41] := H2
  clear hb hb2 hw2 H0 H1
  have c0 := H2.cell 1 0 rfl rfl
  have c1 := H2.cell 1 1 rfl rfl
  have c2 := H2.cell 1 2 rfl rfl
  have hk : rx = false ∨ (rx = true ∧ ry = false) ∨ (rx = true ∧ ry = true ∧ z1 = false) ∨ (rx = true ∧ ry = true ∧ z1 = true ∧ z2 = false) ∨ (rx = true ∧ ry = true ∧ z1 = true ∧ z2 = true) := by
    cases rx <;> cases ry <;> cases z1 <;> cases z2 <;> simp
  rcases hk with rfl | hk
  · go_wp2_with (go_at_call 28; go_must (refine (St.callPast (kx _) H2).mono ?_; rintro e w7 ⟨rfl, H4⟩))
    go_ret
    rw [hr.out]
    exact ⟨ret_bool (by simp), H4.below (Nat.le_refl _) (fun _ h => h.elim)⟩
  · rcases hk with ⟨rfl, rfl⟩ | ⟨rfl, rfl, rfl⟩ | ⟨rfl, rfl, rfl, rfl⟩ | ⟨rfl, rfl, rfl, rfl⟩
    all_goals
      go_wp2_with (first
        | (go_at_call 28; refine (St.callPast (ky _) H3).mono ?_; rintro e w8 ⟨rfl, H4⟩; have c0 := H4.cell 1 0 rfl rfl; have c1 := H4.cell 1 1 rfl rfl; have c2 := H4.cell 1 2 rfl rfl; have d0 := H4.cell 0 0 rfl rfl; have d1 := H4.cell 0 1 rfl rfl; have d2 := H4.cell 0 2 rfl rfl)
        | (go_at_call 28; go_must (refine (St.callPast (kx _) H2).mono ?_; rintro e w7 ⟨rfl, H3⟩; have d0 := H3.cell 0 0 rfl rfl; have d1 := H3.cell 0 1 rfl rfl; have d2 := H3.cell 0 2 rfl rfl)))
      go_ret
      rw [hr.out]
      exact ⟨ret_bool (by simp), H4.below (Nat.le_refl _) (fun _ h => h.elim)⟩
end Go.Proofs.Ytoffcoegghigoaa
