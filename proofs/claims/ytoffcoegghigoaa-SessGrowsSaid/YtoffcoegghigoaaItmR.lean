/- The document's Events, how great items are, are they the same, and how they come in (LX; turned from IdxP, IdxK, IdxUp). -/
import Derived.Test.YtoffcoegghigoaaClkH
import Derived.Test.YtoffcoegghigoaaUpR
namespace Go.Proofs.Ytoffcoegghigoaa
open Go.RowKit


set_option maxHeartbeats 1000000 in
set_option maxRecDepth 100000 in
theorem ref_name (bs : List UInt8) (hl : bs.length ≤ 9223372036854775807) (w : World) : Calls Try.prog 62 #[textV bs] w fun e w' => e = .returned (.bool (nameB bs)) ∧ w' = w := by
  have hsz := ev_text_size bs
  unfold textV
  go_enter Try.func62, Try.ntmps62
  go_upto_block 1 with (fail)
  go_loopw [3] (fun j wr => ∃ i : Nat, i ≤ bs.length ∧ j = .int .i64 i ∧ (bs.take i).all evSign = true ∧ wr = w) (fun j _ => bs.length - (intOf j).toNat)
  case atStart => exact ⟨0, by omega, rfl, by simp, rfl⟩
  case round =>
    obtain ⟨i, hi, rfl, ha, rfl⟩ := hrel
    by_cases hlt : i < bs.length
    · obtain ⟨c, hx⟩ : ∃ c, bs[i]? = some c := ⟨_, List.getElem?_eq_getElem hlt⟩
      have hc0 := ev_text_at bs i (by rw [hsz]; omega) hx
      have h2 := ev_all_take (p := evSign) hx
      rw [ha, Bool.true_and] at h2
      have h3 : evSign c = false → nameB bs = false := fun h => by unfold nameB; rw [ev_all_false hx h, Bool.and_false]
      have hes : evSign c = ((decide (97 ≤ c.toNat) && decide (c.toNat ≤ 122)) || (decide (48 ≤ c.toNat) && decide (c.toNat ≤ 57)) || c.toNat == 45) := rfl
      clear hx ha
      obtain ⟨n, hn⟩ : ∃ n, c.toNat = n := ⟨_, rfl⟩
      rw [hn] at hes
      have key : ∃ x1 x2 x3 x4 x5 : Bool, decide ((n : Int) < 97) = x1 ∧ decide ((122 : Int) < n) = x2 ∧ decide ((n : Int) < 48) = x3 ∧ decide ((57 : Int) < n) = x4 ∧ ((n : Int) == 45) = x5 ∧
          ((x1 = true ∧ x3 = true ∧ x5 = true ∧ evSign c = true) ∨ (x1 = true ∧ x3 = true ∧ x5 = false ∧ evSign c = false) ∨ (x1 = true ∧ x3 = false ∧ x4 = true ∧ x5 = false ∧ evSign c = false) ∨ (x1 = true ∧ x3 = false ∧ x4 = false ∧ evSign c = true) ∨ (x1 = false ∧ x2 = true ∧ x3 = false ∧ x4 = true ∧ x5 = false ∧ evSign c = false) ∨ (x1 = false ∧ x2 = false ∧ evSign c = true)) := by
        refine ⟨_, _, _, _, _, rfl, rfl, rfl, rfl, rfl, ?_⟩
        rw [hes]
        simp
        omega
      obtain ⟨x1, x2, x3, x4, x5, z1, z2, z3, z4, z5, hk⟩ := key
      have g5 : ((n : Int) != 45) = !x5 := by rw [bne, z5]
      clear hes
      rcases hk with ⟨rfl, rfl, rfl, h⟩ | ⟨rfl, rfl, rfl, h⟩ | ⟨rfl, rfl, rfl, rfl, h⟩ | ⟨rfl, rfl, rfl, h⟩ | ⟨rfl, rfl, rfl, rfl, rfl, h⟩ | ⟨rfl, rfl, h⟩
      case' inl => skip
      case' inr.inr.inr.inl => skip
      all_goals
        first
        | (have h3 := Lib.hid (h3 h)
           clear h2 h
           go_wp2
           go_ret
           rw [h3.out]
           exact ⟨rfl, rfl⟩)
        | (rw [h] at h2
           clear h3 h
           go_wp2
           go_roundw
           case rel => exact ⟨i + 1, by omega, by go_num, h2, by first | rfl | trivial⟩
           case measure => simp [intOf]; omega)
    · obtain rfl : i = bs.length := by omega
      rw [List.take_length] at ha
      have hn : nameB bs = (!bs.isEmpty && decide (bs.length ≤ 16)) := by unfold nameB; rw [ha, Bool.and_true]
      have hnh := Lib.hid hn
      clear ha hn
      by_cases h1 : 1 ≤ bs.length
      · have z1 : decide ((1 : Int) ≤ bs.length) = true := by simp; omega
        go_wp2
        go_ret
        rw [hnh.out]
        refine ⟨ret_bool ?_, rfl⟩
        cases bs with
        | nil => simp at h1
        | cons x r => rw [Bool.eq_iff_iff]; simp; omega
      · obtain rfl : bs = [] := List.eq_nil_of_length_eq_zero (by omega)
        go_wp2
        go_ret
        rw [hnh.out]
        exact ⟨rfl, rfl⟩
set_option maxHeartbeats 1000000 in
set_option maxRecDepth 100000 in
theorem ref_right (x : Itm) (hx : x.fits) (w : World) : Calls Try.prog 84 #[itmV x] w fun e w' => e = .returned (.bool x.right) ∧ Below w.heap.size w w' := by
  obtain ⟨k, key, t, v⟩ := x
  have kn := fun w' => ref_name key hx.2.1 w'
  have H : St (fun _ => False) w (w.alloc (.cells #[.int .i64 k, textV key, .int .i64 t, .int .i64 v] 85)) [Blk w.heap.size #[.int .i64 k, textV key, .int .i64 t, .int .i64 v] 85] := (St.nil (fun _ => False) w).alloc _ _
  obtain ⟨w1, hw1⟩ : ∃ w1, w.alloc (.cells #[.int .i64 k, textV key, .int .i64 t, .int .i64 v] 85) = w1 := ⟨_, rfl⟩
  obtain ⟨b, hb⟩ : ∃ b, w.heap.size = b := ⟨_, rfl⟩
  have hr0 : Itm.right ⟨k, key, t, v⟩ = (decide (0 ≤ t) && decide (t ≤ 1099511627776) && (if k = 1 then nameB key && decide (-1099511627776 ≤ v) && decide (v ≤ 1099511627776) else if k = 2 then key.isEmpty && decide (v = 0) else false)) := rfl
  unfold itmV
  simp only
  go_enter Try.func84, Try.ntmps84
  go_upto_region 1 with (fail)
  rw [hw1, hb] at H
  try rw [hw1]
  try rw [hb]
  clear hw1 hb
  have c0 := H.cell 0 0 rfl rfl
  have c1 := H.cell 0 1 rfl rfl
  have c2 := H.cell 0 2 rfl rfl
  have c3 := H.cell 0 3 rfl rfl
  unfold textV at c1 kn
  by_cases t0 : t < 0
  · have hr := Lib.hid (show Itm.right ⟨k, key, t, v⟩ = false by rw [hr0, decide_eq_false (show ¬ 0 ≤ t by omega)]; rfl)
    have z0 : decide (t < 0) = true := by simpa using t0
    clear hr0
    go_wp2
    go_ret
    rw [hr.out]
    exact ⟨rfl, H.below (Nat.le_refl _) (fun _ h => h.elim)⟩
  · have z0 : decide (t < 0) = false := by simpa using t0
    by_cases t1 : 1099511627776 < t
    · have hr := Lib.hid (show Itm.right ⟨k, key, t, v⟩ = false by rw [hr0, decide_eq_false (show ¬ t ≤ 1099511627776 by omega), Bool.and_false]; rfl)
      have z1 : decide (1099511627776 < t) = true := by simpa using t1
      clear hr0
      go_wp2
      go_ret
      rw [hr.out]
      exact ⟨rfl, H.below (Nat.le_refl _) (fun _ h => h.elim)⟩
    · have z1 : decide (1099511627776 < t) = false := by simpa using t1
      rw [decide_eq_true (show 0 ≤ t by omega), decide_eq_true (show t ≤ 1099511627776 by omega), Bool.true_and, Bool.true_and] at hr0
      by_cases k1 : k = 1
      · subst k1
        rw [if_pos rfl] at hr0
        obtain ⟨nm, hnm⟩ : ∃ nm, nameB key = nm := ⟨_, rfl⟩
        rw [hnm] at kn hr0
        clear hnm
        cases nm with
        | false =>
          have hr := Lib.hid (hr0.trans rfl)
          clear hr0
          go_wp2_with (go_at_call 62; go_must (refine (kn _).mono ?_; rintro e w7 ⟨rfl, rfl⟩))
          go_ret
          rw [hr.out]
          exact ⟨rfl, H.below (Nat.le_refl _) (fun _ h => h.elim)⟩
        | true =>
          rw [Bool.true_and] at hr0
          by_cases v0 : -1099511627776 ≤ v
          · have z2 : decide (-1099511627776 ≤ v) = true := by simpa using v0
            rw [z2, Bool.true_and] at hr0
            by_cases v1 : v ≤ 1099511627776
            · have z3 : decide (v ≤ 1099511627776) = true := by simpa using v1
              rw [z3] at hr0
              have hr := Lib.hid hr0
              clear hr0
              go_wp2_with (go_at_call 62; go_must (refine (kn _).mono ?_; rintro e w7 ⟨rfl, rfl⟩))
              go_ret
              rw [hr.out]
              exact ⟨rfl, H.below (Nat.le_refl _) (fun _ h => h.elim)⟩
            · have z3 : decide (v ≤ 1099511627776) = false := by simpa using v1
              rw [z3] at hr0
              have hr := Lib.hid hr0
              clear hr0
              go_wp2_with (go_at_call 62; go_must (refine (kn _).mono ?_; rintro e w7 ⟨rfl, rfl⟩))
              go_ret
              rw [hr.out]
              exact ⟨rfl, H.below (Nat.le_refl _) (fun _ h => h.elim)⟩
          · have z2 : decide (-1099511627776 ≤ v) = false := by simpa using v0
            rw [z2, Bool.false_and] at hr0
            have hr := Lib.hid hr0
            clear hr0
            go_wp2_with (go_at_call 62; go_must (refine (kn _).mono ?_; rintro e w7 ⟨rfl, rfl⟩))
            go_ret
            rw [hr.out]
            exact ⟨rfl, H.below (Nat.le_refl _) (fun _ h => h.elim)⟩
      · have y1 : (k == 1) = false := by simpa using k1
        rw [if_neg k1] at hr0
        by_cases k2 : k = 2
        · subst k2
          rw [if_pos rfl] at hr0
          by_cases e0 : key = []
          · subst e0
            by_cases v0 : v = 0
            · subst v0
              have hr := Lib.hid (hr0.trans rfl)
              clear hr0
              go_wp2
              go_ret
              rw [hr.out]
              exact ⟨rfl, H.below (Nat.le_refl _) (fun _ h => h.elim)⟩
            · have y2 : (v == 0) = false := by simpa using v0
              have hr := Lib.hid (show Itm.right ⟨2, [], t, v⟩ = false by rw [hr0]; simpa using v0)
              clear hr0
              go_wp2
              go_ret
              rw [hr.out]
              exact ⟨rfl, H.below (Nat.le_refl _) (fun _ h => h.elim)⟩
          · have y3 : (key == []) = false := by simpa using e0
            have hr := Lib.hid (show Itm.right ⟨2, key, t, v⟩ = false by rw [hr0]; simp [e0])
            clear hr0
            go_wp2
            go_ret
            rw [hr.out]
            exact ⟨rfl, H.below (Nat.le_refl _) (fun _ h => h.elim)⟩
        · have y2 : (k == 2) = false := by simpa using k2
          rw [if_neg k2] at hr0
          have hr := Lib.hid hr0
          clear hr0
          go_wp2
          go_ret
          rw [hr.out]
          exact ⟨rfl, H.below (Nat.le_refl _) (fun _ h => h.elim)⟩


set_option maxHeartbeats 2000000 in
set_option maxRecDepth 100000 in
theorem ref_events {v : Value} {l : List Itm} (w : World) (hv : ItmsRO w v l) (hll : l.length ≤ 3518437208880) :
    Calls Try.prog 65 #[v] w fun e w' => ∃ v', e = .returned v' ∧ St (fun _ => False) w w' [Row 85 4 v' (l.filter Itm.counts).length (itms (l.filter Itm.counts))] := by
  obtain ⟨ao, cap, rfl, hcap, hfit, hic⟩ := hv
  have H0 : St (fun _ => False) w w [Row 85 4 (.slice none 0 0) 0 (itms [])] := (St.nil (fun _ => False) w).row_nil 85 4
  go_enter Try.func65, Try.ntmps65
  go_upto_block 1 with (fail)
  go_loopw [3, 8] (fun u j wr => ∃ (k : Nat), k ≤ l.length ∧ j = .int .i64 k ∧ St (fun _ => False) w wr [Row 85 4 u ((l.take k).filter Itm.counts).length (itms ((l.take k).filter Itm.counts))]) (fun _ j _ => l.length - (intOf j).toNat)
  case atStart => exact ⟨0, by omega, rfl, H0⟩
  case round =>
    clear H0
    obtain ⟨k, hk, rfl, HM⟩ := hrel
    obtain ⟨Q, hQ⟩ : ∃ Q, (l.take k).filter Itm.counts = Q := ⟨_, rfl⟩
    have hQl : Q.length ≤ k := by
      have := List.length_filter_le Itm.counts (l.take k)
      rw [List.length_take] at this
      rw [← hQ]
      omega
    rw [hQ] at HM
    by_cases hkl : k < l.length
    · obtain ⟨b2, o2, rfl, hb2, hc2⟩ := hic (by intro e; rw [e] at hkl; simp at hkl)
      obtain ⟨x, hx⟩ : ∃ x, l[k]? = some x := ⟨_, List.getElem?_eq_getElem hkl⟩
      have hxf := hfit x (List.mem_of_getElem? hx)
      obtain ⟨q0, q1, q2, q3⟩ := itm_cells (hc2 k x hx) (HM.kept.block b2 hb2 id)
      have kr := fun w' => ref_right x hxf w'
      have hct : x.counts = (decide (x.kind = 1) && x.right) := rfl
      have hfl0 : (l.take (k + 1)).filter Itm.counts = if x.counts then Q ++ [x] else Q := by
        rw [take_snoc' hx, List.filter_append, hQ]
        cases htx : x.counts <;> simp [htx]
      obtain ⟨ct, hcv⟩ : ∃ ct, x.right = ct := ⟨_, rfl⟩
      rw [hcv] at kr hct
      rw [hct] at hfl0
      have hfl0 := Lib.hid hfl0
      clear hct hx hc2 hic hfit hQ hcv
      obtain ⟨xk, xy, xt, xv⟩ := x
      unfold itmV textV at kr
      simp only at q0 q1 q2 q3 kr hfl0
      unfold textV at q1
      have HA2 : St (fun _ => False) w _ [_, _] := HM.allocAt rfl #[.int .i64 xk, .string ⟨xy.toArray⟩, .int .i64 xt, .int .i64 xv] 85
      go_upto_region 5 with (fail)
      obtain ⟨wb, hwb⟩ : ∃ wb, wr.alloc (.cells #[.int .i64 xk, .string ⟨xy.toArray⟩, .int .i64 xt, .int .i64 xv] 85) = wb := ⟨_, rfl⟩
      obtain ⟨xb, hxb⟩ : ∃ xb, wr.heap.size = xb := ⟨_, rfl⟩
      rw [hwb, hxb] at HA2
      try rw [hwb]
      try simp only [hxb]
      have HA2 : St (fun _ => False) w wb [Blk xb #[.int .i64 xk, .string ⟨xy.toArray⟩, .int .i64 xt, .int .i64 xv] 85, Row 85 4 u3 Q.length (itms Q)] := HA2
      clear hwb hxb q0 q1 q2 q3 HM
      have d0 := HA2.cell 0 0 rfl rfl
      have d1 := HA2.cell 0 1 rfl rfl
      have d2 := HA2.cell 0 2 rfl rfl
      have d3 := HA2.cell 0 3 rfl rfl
      by_cases hk1 : xk = 1
      · subst hk1
        cases ct with
        | false =>
          have hfl := Lib.hid (show (l.take (k + 1)).filter Itm.counts = Q by rw [hfl0.out]; rfl)
          clear hfl0
          go_wp2_with (go_at_call 84; go_must (refine (St.callPast (kr _) HA2).mono ?_; rintro e w3 ⟨rfl, H3⟩; have d0 := H3.cell 0 0 rfl rfl; have d1 := H3.cell 0 1 rfl rfl; have d2 := H3.cell 0 2 rfl rfl; have d3 := H3.cell 0 3 rfl rfl))
          go_roundw
          case rel =>
            refine ⟨k + 1, by omega, by go_num, ?_⟩
            rw [hfl.out]
            exact St.tail H3
          case measure => simp [intOf]; omega
        | true =>
          have hfl := Lib.hid (show (l.take (k + 1)).filter Itm.counts = Q ++ [⟨1, xy, xt, xv⟩] by rw [hfl0.out]; rfl)
          clear hfl0
          go_wp2_with (first
            | (go_at_call 84; go_must (refine (St.callPast (kr _) HA2).mono ?_; rintro e w3 ⟨rfl, H3⟩; have d0 := H3.cell 0 0 rfl rfl; have d1 := H3.cell 0 1 rfl rfl; have d2 := H3.cell 0 2 rfl rfl; have d3 := H3.cell 0 3 rfl rfl))
            | (at_builtin; go_must (refine St.list_app (H3.skip _) 1 rfl rfl (.tmp 19) (.tmp 21) 65 rfl Try.underlying65 Try.info85 (by decide) rfl [.int .i64 1, .string ⟨xy.toArray⟩, .int .i64 xt, .int .i64 xv] rfl rfl (new_cells #[.int .i64 1, .string ⟨xy.toArray⟩, .int .i64 xt, .int .i64 xv] _) (by simp [Value.oneCell']) (by omega) (by omega) ?_; intro g5 cap5 w5 H5 hz5)))
          go_roundw
          case rel =>
            refine ⟨k + 1, by omega, by go_num, ?_⟩
            rw [hfl.out, itms_app, itms_one, List.length_append]
            exact St.tail H5
          case measure => simp [intOf]; omega
      · have y1 : (xk == 1) = false := by simpa using hk1
        have hfl := Lib.hid (show (l.take (k + 1)).filter Itm.counts = Q by rw [hfl0.out]; simp [hk1])
        clear hfl0 hk1
        go_wp2
        go_roundw
        case rel =>
          refine ⟨k + 1, by omega, by go_num, ?_⟩
          rw [hfl.out]
          exact St.tail HA2
        case measure => simp [intOf]; omega
    · obtain rfl : k = l.length := by omega
      rw [List.take_length] at hQ
      have hQh := Lib.hid hQ
      clear hQ
      obtain ⟨ua, uc, rfl, _, _⟩ := slice_form' (HM.row 0 rfl)
      go_wp2
      go_ret
      rw [hQh.out]
      exact ⟨_, rfl, HM⟩
def wt5 (l : List Itm) : Nat := (l.map fun x => 10 + x.key.length).sum
theorem wt5_snoc (l : List Itm) (x : Itm) : wt5 (l ++ [x]) = wt5 l + (10 + x.key.length) := by simp [wt5]
theorem wt5_take (l : List Itm) : ∀ i, wt5 (l.take i) ≤ wt5 l := fun i => by
  have : wt5 l = wt5 (l.take i) + wt5 (l.drop i) := by
    conv => lhs; rw [← List.take_append_drop i l]
    simp only [wt5, List.map_append, List.sum_append]
  omega
set_option maxHeartbeats 1000000 in
theorem great5 {v : Value} {l : List Itm} (w : World) (hv : ItmsRO w v l) (hs : wt5 l ≤ 4611686018427387904) (hll : l.length ≤ 9223372036854775807) :
    Calls Try.prog 41 #[v] w fun e w' => e = .returned (.int .i64 (wt5 l)) ∧ Below w.heap.size w w' := by
  obtain ⟨ao, cap, rfl, hcap, hfit, hcell⟩ := hv
  have H0 : St (fun _ => False) w w [] := St.nil (fun _ => False) w
  go_enter Try.func41, Try.ntmps41
  go_upto_block 1 with (fail)
  go_loopw [3, 8] (fun n j wr => ∃ (i : Nat), i ≤ l.length ∧ n = .int .i64 (wt5 (l.take i)) ∧ j = .int .i64 i ∧ St (fun _ => False) w wr []) (fun _ j _ => l.length - (intOf j).toNat)
  case atStart => exact ⟨0, by omega, rfl, rfl, H0⟩
  case round =>
    clear H0
    obtain ⟨i, hi, rfl, rfl, HL⟩ := hrel
    by_cases hlt : i < l.length
    · obtain ⟨b, o, rfl, hb, hc⟩ := hcell (by rintro rfl; simp at hlt)
      obtain ⟨x, hx⟩ : ∃ x, l[i]? = some x := ⟨_, List.getElem?_eq_getElem hlt⟩
      have hn : wt5 (l.take (i + 1)) = wt5 (l.take i) + (10 + x.key.length) := by rw [take_snoc' hx, wt5_snoc]
      have hle := wt5_take l (i + 1)
      obtain ⟨q0, q1, q2, q3⟩ := itm_cells (hc i x hx) (HL.kept.block b hb id)
      obtain ⟨T, hT⟩ : ∃ T, wt5 (l.take i) = T := ⟨_, rfl⟩
      rw [hT] at hn
      rw [hn] at hle
      have hnh := Lib.hid hn
      try rw [hT]
      clear hn hx hc hcell hT hfit
      obtain ⟨k, key, t, v⟩ := x
      simp only at q0 q1 q2 q3 hle hnh
      unfold textV at q1
      have hsz : ((key.toArray).size : Int) = key.length := by simp
      have hw1 : IntKind.i64.wrap (10 + (key.length : Int)) = ((10 + key.length : Nat) : Int) := by rw [IntKind.wrap_i64]; omega
      have hw2 : IntKind.i64.wrap ((T : Int) + ((10 + key.length : Nat) : Int)) = ((T + (10 + key.length) : Nat) : Int) := by rw [IntKind.wrap_i64]; omega
      have HA : St (fun _ => False) w _ [_] := HL.allocAt rfl #[.int .i64 k, .string ⟨key.toArray⟩, .int .i64 t, .int .i64 v] 85
      go_upto_region 5 with (fail)
      obtain ⟨wa, hwa⟩ : ∃ wa, wr.alloc (.cells #[.int .i64 k, .string ⟨key.toArray⟩, .int .i64 t, .int .i64 v] 85) = wa := ⟨_, rfl⟩
      obtain ⟨ob, hob⟩ : ∃ ob, wr.heap.size = ob := ⟨_, rfl⟩
      rw [hwa, hob] at HA
      try rw [hwa]
      try simp only [hob]
      clear hwa hob q0 q1 q2 q3 HL
      have d1 := HA.cell 0 1 rfl rfl
      go_wp2
      go_roundw
      case rel =>
        refine ⟨i + 1, by omega, ?_, by go_num, HA.pick []⟩
        rw [hnh.out]
        first | rfl | (go_num; done) | skip
      case measure => simp [intOf]; omega
    · obtain rfl : i = l.length := by omega
      rw [List.take_length]
      go_wp2
      go_ret
      exact ⟨rfl, HL.below (Nat.le_refl _) (fun _ h => h.elim)⟩

set_option maxHeartbeats 1000000 in
set_option maxRecDepth 100000 in
theorem items_same {v1 v2 : Value} {l : List Itm} (w : World) (hv1 : ItmsRO w v1 l) (hv2 : ItmsRO w v2 l) (hll : l.length ≤ 9223372036854775807) :
    Calls Try.prog 43 #[v1, v2] w fun e w' => e = .returned (.bool true) ∧ Below w.heap.size w w' := by
  obtain ⟨ao, cap, rfl, hcap, _, hcell⟩ := hv1
  obtain ⟨ap, cbp, rfl, hcbp, _, hcell2⟩ := hv2
  have H0 : St (fun _ => False) w w [] := St.nil (fun _ => False) w
  go_enter Try.func43, Try.ntmps43
  have hz : ((l.length : Int) == (l.length : Int)) = true := by simp
  go_upto_block 1 with (fail)
  go_loopw [13] (fun j wr => ∃ (i : Nat), i ≤ l.length ∧ j = .int .i64 i ∧ St (fun _ => False) w wr []) (fun j _ => l.length - (intOf j).toNat)
  case atStart => exact ⟨0, by omega, rfl, H0⟩
  case round =>
    clear H0
    obtain ⟨i, hi, rfl, HL⟩ := hrel
    by_cases hlt : i < l.length
    · obtain ⟨b, o, rfl, hb, hc⟩ := hcell (by rintro rfl; simp at hlt)
      obtain ⟨b2, o2, rfl, hb2, hc2⟩ := hcell2 (by rintro rfl; simp at hlt)
      obtain ⟨x, hx⟩ : ∃ x, l[i]? = some x := ⟨_, List.getElem?_eq_getElem hlt⟩
      have g1 := hc i x hx
      have g2 := hc2 i x hx
      clear hx hc hcell hc2 hcell2
      obtain ⟨k, key, t, v⟩ := x
      go_upto_region 6 with (fail)
      refine wp_calm (fun w' => St (fun _ => False) w w' []) (by kernel_rfl) (by kernel_rfl) (HL.drew) ?_
      iterate 9 first
        | (apply calm_pass
           · rfl
           intro K hK
           go_simp
           refine hK _ ?_
           clear hK K)
        | (apply calm_step
           · rfl
           · intro w1 h1
             obtain ⟨q0, q1, q2, q3⟩ := itm_cells g1 (h1.kept.block b hb id)
             obtain ⟨p0, p1, p2, p3⟩ := itm_cells g2 (h1.kept.block b2 hb2 id)
             simp only at q0 q1 q2 q3 p0 p1 p2 p3
             unfold textV at q1 p1
             first
               | (go_simp
                  first
                    | rfl
                    | exact ⟨rfl, h1⟩
                 )
           intro K hK
           go_simp
           refine hK _ ?_
           clear hK K)
      refine calm_nil ?_
      intro w9 H9
      go_wp2
      go_roundw
      case rel => exact ⟨i + 1, by omega, by go_num, H9⟩
      case measure => simp [intOf]; omega
    · obtain rfl : i = l.length := by omega
      go_wp2
      go_ret
      exact ⟨rfl, HL.below (Nat.le_refl _) (fun _ h => h.elim)⟩

theorem itm_read {w : World} {cs : List Value} {N : Nat} (hN : N ≤ 9223372036854775807) (h : RB Try.prog w 85 cs N) : ∃ x : Itm, cs = (itmC x).toList ∧ x.fits ∧ x.key.length ≤ N := by
  have hl : cs.length = 4 := (RB.struct Try.underlying85 h).1.trans (by kernel_rfl)
  obtain ⟨c0, c1, c2, c3, rfl⟩ : ∃ a b c d, cs = [a, b, c, d] := by
    match cs, hl with
    | [a, b, c, d], _ => exact ⟨a, b, c, d, rfl⟩
  have r0 : RB Try.prog w 3 [c0] N := RB.field Try.underlying85 h 0 rfl (o := 0) (n := 1) rfl rfl (by kernel_rfl)
  have r1 : RB Try.prog w 9 [c1] N := RB.field Try.underlying85 h 1 rfl (o := 1) (n := 1) rfl rfl (by kernel_rfl)
  have r2 : RB Try.prog w 3 [c2] N := RB.field Try.underlying85 h 2 rfl (o := 2) (n := 1) rfl rfl (by kernel_rfl)
  have r3 : RB Try.prog w 3 [c3] N := RB.field Try.underlying85 h 3 rfl (o := 3) (n := 1) rfl rfl (by kernel_rfl)
  obtain ⟨n0, e0, g0⟩ := r0.int Try.underlying3
  obtain ⟨s, e1, g1⟩ := r1.text Try.underlying9
  obtain ⟨n2, e2, g2⟩ := r2.int Try.underlying3
  obtain ⟨n3, e3, g3⟩ := r3.int Try.underlying3
  simp only [List.cons.injEq, and_true] at e0 e1 e2 e3
  subst e0 e1 e2 e3
  have hs : s.data.toList.length = s.size := Array.length_toList
  refine ⟨⟨n0, s.data.toList, n2, n3⟩, ?_, ⟨int_bounds g0, by simp only; omega, int_bounds g2, int_bounds g3⟩, by simp only; omega⟩
  cases s
  simp [textV]
theorem itms_read {w : World} {cs : List Value} {N : Nat} (hN : N ≤ 9223372036854775807) (h : RB Try.prog w 65 cs N) : ∃ v l, cs = [v] ∧ ItmsRO w v l ∧ l.length ≤ N ∧ ∀ x ∈ l, x.key.length ≤ N := by
  obtain ⟨ao, cap, l, rfl, h1, h2, h3⟩ := RB.list (p := fun cs (x : Itm) => cs = (itmC x).toList ∧ x.fits ∧ x.key.length ≤ N) Try.underlying65 (size := 4) (by kernel_rfl) (by omega) (fun cs' h => itm_read hN h) h
  have hx : ∀ x ∈ l, x.fits ∧ x.key.length ≤ N := fun x hx => by
    obtain ⟨b, o, _, _, hc⟩ := h3 (fun h => by subst h; cases hx)
    obtain ⟨i, hi⟩ := List.getElem?_of_mem hx
    obtain ⟨cs', _, _, _, g⟩ := hc i x hi
    exact g
  refine ⟨_, l, rfl, ⟨ao, cap, rfl, h1, fun x h => (hx x h).1, fun hl => ?_⟩, h2, fun x h => (hx x h).2⟩
  obtain ⟨b, o, rfl, hb, hc⟩ := h3 hl
  refine ⟨b, o, rfl, hb, fun i x hi => ?_⟩
  obtain ⟨cs', _, g2, rfl, _⟩ := hc i x hi
  exact g2
theorem wt5_le {N : Nat} : ∀ l : List Itm, (∀ x ∈ l, x.key.length ≤ N) → wt5 l ≤ l.length * (10 + N)
  | [], _ => by simp [wt5]
  | x :: l, h => by
    have h1 := wt5_le l (fun y hy => h y (List.mem_cons_of_mem _ hy))
    have h2 := h x List.mem_cons_self
    simp only [wt5, List.map_cons, List.sum_cons, List.length_cons, Nat.succ_mul] at h1 ⊢
    omega
end Go.Proofs.Ytoffcoegghigoaa
