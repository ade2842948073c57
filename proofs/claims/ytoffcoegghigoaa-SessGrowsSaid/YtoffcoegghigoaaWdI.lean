/- wins.Has; SessGrows: the walk. Condition: so many windows. -/
import Derived.Test.YtoffcoegghigoaaWdZ
import Derived.Test.YtoffcoegghigoaaWdF
namespace Go.Proofs.Ytoffcoegghigoaa
open Go.RowKit

def Wd.has (x : Wd) (t : Int) : Bool := x.right && decide (x.frm ≤ t) && decide (t < x.to)
set_option maxHeartbeats 2000000 in
set_option maxRecDepth 100000 in
theorem wd_has (x : Wd) (hx : x.fits) (t : Int) (w : World) : Calls Try.prog 33 #[wdV x, .int .i64 t] w fun e w' => e = .returned (.bool (x.has t)) ∧ Below w.heap.size w w' := by
  have kr := fun w' => wd_right x hx w'
  have hr0 : x.has t = (x.right && decide (x.frm ≤ t) && decide (t < x.to)) := rfl
  obtain ⟨nm, hnm⟩ : ∃ nm, x.right = nm := ⟨_, rfl⟩
  rw [hnm] at kr hr0
  clear hnm
  obtain ⟨key, f, u⟩ := x
  have H : St (fun _ => False) w _ [_] := (St.nil (fun _ => False) w).allocAt rfl #[.string ⟨key.toArray⟩, .int .i64 f, .int .i64 u] 41
  have hcs : ∃ z0 z1 : Bool, decide (f ≤ t) = z0 ∧ decide (t < u) = z1 := ⟨_, _, rfl, rfl⟩
  obtain ⟨z0, z1, e0, e1⟩ := hcs
  simp only at hr0
  rw [e0, e1] at hr0
  have hr := Lib.hid hr0
  unfold wdV wdC textV at kr
  simp only at kr
  unfold wdV wdC textV
  simp only
  clear hr0 hx
  go_enter Try.func33, Try.ntmps33
  go_upto_region 1 with (fail)
  obtain ⟨b, hb⟩ : ∃ b, w.heap.size = b := ⟨_, rfl⟩
  obtain ⟨w1, hw1⟩ : ∃ w1, w.alloc (.cells #[.string ⟨key.toArray⟩, .int .i64 f, .int .i64 u] 41) = w1 := ⟨_, rfl⟩
  rw [hw1, hb] at H
  rw [hw1]
  simp only [hb]
  have H : St (fun _ => False) w w1 [Blk b #[.string ⟨key.toArray⟩, .int .i64 f, .int .i64 u] 41] := H
  clear hb hw1
  have c0 := H.cell 0 0 rfl rfl
  have c1 := H.cell 0 1 rfl rfl
  have c2 := H.cell 0 2 rfl rfl
  have hk : nm = false ∨ (nm = true ∧ z0 = false) ∨ (nm = true ∧ z0 = true) := by cases nm <;> cases z0 <;> simp
  rcases hk with rfl | ⟨rfl, rfl⟩ | ⟨rfl, rfl⟩
  all_goals
    go_wp2_with (go_at_call 56; go_must (refine (St.callPast (kr _) H).mono ?_; rintro e w7 ⟨rfl, H2⟩; have c1 := H2.cell 0 1 rfl rfl; have c2 := H2.cell 0 2 rfl rfl))
    go_ret
    rw [hr.out]
    exact ⟨ret_bool (by simp), H2.below (Nat.le_refl _) (fun _ h => h.elim)⟩

def atK (kv : List UInt8) (t : Int) (y : Wd) : Bool := (y.key == kv) && y.has t
theorem any_snoc {α : Type} {l : List α} {i : Nat} {y : α} (p : α → Bool) (hy : l[i]? = some y) : (l.take (i + 1)).any p = ((l.take i).any p || p y) := by
  rw [take_snoc' hy, List.any_append]
  simp
theorem at_same {l : List Wd} (hf : ∀ x ∈ l, x.fits) (kv : List UInt8) (t : Int) : l.any (atK kv t) = (allM l).any (atK kv t) := by
  have hst := (allM_law l hf).1
  have hr := (stl_iff.1 hst).1
  have hc := allM_cov kv (2 * t + 1) l
  have key : ∀ y : Wd, atK kv t y = true ↔ y.right = true ∧ covW y kv (2 * t + 1) := by
    intro y
    unfold atK Wd.has covW
    simp only [Bool.and_eq_true, beq_iff_eq, decide_eq_true_eq]
    constructor
    · rintro ⟨h1, ⟨h2, h3⟩, h4⟩
      exact ⟨h2, h1, by omega, by omega⟩
    · rintro ⟨h1, h2, h3, h4⟩
      exact ⟨h2, ⟨h1, by omega⟩, by omega⟩
  rw [Bool.eq_iff_iff, List.any_eq_true, List.any_eq_true]
  constructor
  · rintro ⟨y, hy, h⟩
    obtain ⟨z, hz, hzc⟩ := hc.2 ⟨y, hy, (key y).1 h⟩
    exact ⟨z, hz, (key z).2 ⟨hr z hz, hzc⟩⟩
  · rintro ⟨y, hy, h⟩
    obtain ⟨z, hz, hzc⟩ := hc.1 ⟨y, hy, ((key y).1 h).2⟩
    exact ⟨z, hz, (key z).2 hzc⟩
theorem rev_snoc {l : List Wd} {i j : Nat} {y : Wd} (hij : i + 1 + j = l.length) (hy : l[j]? = some y) : l.reverse.take (i + 1) = l.reverse.take i ++ [y] := by
  refine take_snoc' ?_
  have hj := (List.getElem?_eq_some_iff.1 hy).1
  rw [List.getElem?_reverse (by omega), show l.length - 1 - i = j by omega]
  exact hy

set_option maxHeartbeats 16000000 in
set_option maxRecDepth 100000 in
theorem sess_grows {v : Value} {l : List Wd} {t : Int} (w : World) (hv : WdsRO w v l) (hl : l.length + 3 ≤ 4398046511104) :
    Calls Try.prog 8 #[v, .int .i64 t] w fun e w' => e = .returned (.bool true) ∧ Below w.heap.size w w' := by
  have kf := fun w' => first09 w'
  have kg := fun w' (hk : Kept (fun _ => False) w w') => wds_great w' (hv.later hk) (by omega)
  have ka := fun w' (hk : Kept (fun _ => False) w w') => sess_all w' (hv.later hk) (by omega)
  have kra := fun w' (hk : Kept (fun _ => False) w w') => ref_all w' (hv.later hk) (by omega)
  obtain ⟨ao, cap, rfl, hcap, hfit, hic⟩ := hv
  have hich := Lib.hid hic
  have hfith := Lib.hid hfit
  obtain ⟨m1, m2, m3⟩ := allM_law l hfit
  have hsame := Lib.hid (fun kv => at_same hfit kv t)
  have hback := allM_back hfit
  obtain ⟨M, hM⟩ : ∃ M, allM l = M := ⟨_, rfl⟩
  simp only [hM] at ka kra m1 m2 m3 hsame
  rw [hM] at hback
  have kset := fun w' v' hv' => sess_settled (v := v') (l := M) w' hv' (by omega)
  rw [stl_true.2 m1] at kset
  have ksame := fun w' v1 v2 hv1 hv2 => wds_same (v1 := v1) (v2 := v2) (l := M) w' hv1 hv2 (by omega)
  have kb := fun w' v' hv' => sess_all (v := v') (l := l.reverse) w' hv' (by rw [List.length_reverse]; omega)
  rw [hback] at kb
  have hm2 := Lib.hid m2
  have ht := fun (y : Wd) (hy : y.fits) w' => wd_has y hy t w'
  clear hfit hic hM m1 m2 hback
  go_enter Try.func8, Try.ntmps8
  go_upto_region 3 with (go_at_call 21; go_must (refine (kf _).mono ?_; rintro e w3 ⟨rfl, hb3⟩))
  have H3 := (St.nil (fun _ => False) w).past hb3
  clear kf hb3
  obtain ⟨G, hG⟩ : ∃ G, decide (1200 < greatN l) = G := ⟨_, rfl⟩
  simp only [hG] at kg
  clear hG
  cases G with
  | true =>
    go_wp2_with (go_at_call 22; go_must (refine (St.callPast (kg _ H3.kept) H3).mono ?_; rintro e w4 ⟨rfl, H4⟩))
    go_ret
    exact ⟨rfl, H4.below (Nat.le_refl _) (fun _ h => h.elim)⟩
  | false =>
  go_upto_block 1 with (first
    | (go_at_call 22; go_must (refine (St.callPast (kg _ H3.kept) H3).mono ?_; rintro e w4 ⟨rfl, H4⟩))
    | (go_at_call 31; go_must (refine (ka _ H4.kept).mono ?_; rintro e w5 ⟨v5, rfl, H5⟩; have H6 : St (fun _ => False) w w5 [_] := H4.call0 H5)))
  obtain ⟨va, vc, rfl, hvc, hva⟩ := slice_form' (H6.row 0 rfl)
  have H7 : St (fun _ => False) w w5 [Row 41 3 (.slice none 0 0) 0 (wds []), Row 41 3 (.slice va M.length vc) M.length (wds M)] := H6.row_nil 41 3
  clear H3 H4 H5 H6 kg ka
  go_loopw [6, 7, 24] (fun u _ j wr => ∃ (i : Nat) (B : List Wd), i ≤ l.length ∧ j = .int .i64 i ∧ Hid (B = l.reverse.take i) ∧ B.length = i ∧ St (fun _ => False) w wr [Row 41 3 u i (wds B), Row 41 3 (.slice va M.length vc) M.length (wds M)]) (fun _ _ j _ => l.length - (intOf j).toNat)
  case atStart => exact ⟨0, [], by omega, rfl, Lib.hid rfl, rfl, H7⟩
  case round =>
    clear H7
    obtain ⟨i, B, hi, rfl, hB, hBl, HM⟩ := hrel
    by_cases hil : i < l.length
    · obtain ⟨b, o, rfl, hb, hc⟩ := hich.out (by intro e; rw [e] at hil; simp at hil)
      obtain ⟨j, hj⟩ : ∃ j, i + 1 + j = l.length := ⟨l.length - (i + 1), by omega⟩
      obtain ⟨y, hy⟩ : ∃ x, l[j]? = some x := ⟨_, List.getElem?_eq_getElem (by omega)⟩
      obtain ⟨q0, q1, q2⟩ := wd_cells (hc j y hy) (HM.kept.block b hb id)
      have hn := Lib.hid (show l.reverse.take (i + 1) = B ++ [y] by rw [rev_snoc hj hy, hB.out])
      obtain ⟨n1, hn1⟩ : ∃ n1 : Nat, n1 + 1 = l.length := ⟨l.length - 1, by omega⟩
      have w1 : IntKind.i64.wrap ((l.length : Int) - 1) = (n1 : Int) := by rw [IntKind.wrap_i64]; omega
      have w2 : IntKind.i64.wrap ((n1 : Int) - (i : Int)) = (j : Int) := by rw [IntKind.wrap_i64]; omega
      have z1 : (j : Int) < (l.length : Int) := by omega
      have z1' : j < l.length := by omega
      clear hy hc hB kset ksame kb kra ht
      obtain ⟨yk, yf, yt⟩ := y
      simp only at q0 q1 q2
      unfold textV at q0
      go_wp2_with (at_builtin; go_must (refine St.list_app (HM.skip _) 0 rfl rfl (.tmp 27) (.tmp 36) 39 rfl Try.underlying39 Try.info41 (by decide) rfl [.string ⟨yk.toArray⟩, .int .i64 yf, .int .i64 yt] rfl rfl (new_cells #[.string ⟨yk.toArray⟩, .int .i64 yf, .int .i64 yt] _) (by simp [Value.oneCell']) (by omega) (by omega) ?_; intro g5 cap5 w6 H6 hz6))
      go_roundw
      case rel =>
        refine ⟨i + 1, B ++ [⟨yk, yf, yt⟩], by omega, by go_num, Lib.hid hn.out.symm, by simp; omega, ?_⟩
        rw [wds_app, wds_one]
        exact H6
      case measure => simp [intOf]; omega
    · obtain rfl : i = l.length := by omega
      rw [← List.length_reverse, List.take_length] at hB
      obtain ⟨ba, bc, rfl, hbc, _⟩ := slice_form' (HM.row 0 rfl)
      have hBe := hB.out
      subst hBe
      have hrf := Lib.hid (fun x (hx : x ∈ l.reverse) => hfith.out x (List.mem_reverse.1 hx))
      have H8 : St (fun _ => False) w wr [Row 41 3 (.slice ba l.length bc) l.length (wds l.reverse), Row 41 3 (.slice va M.length vc) M.length (wds M)] := HM
      have kb2 := fun w' hv' => kb w' (.slice ba l.length bc) hv'
      clear hBl hB HM kb
      go_upto_region 14 with (first
        | (go_at_call 27; go_must (refine (St.callPast (kset _ _ (wds_own (H8.row 1 rfl) hm2.out)) H8).mono ?_; rintro e w9 ⟨rfl, H9⟩))
        | (go_at_call 32; go_must (refine (kra _ H9.kept).mono ?_; rintro e w10 ⟨v10, rfl, H10⟩; have H11 : St (fun _ => False) w w10 [_, _, _] := H9.call0 H10))
        | (go_at_call 31; go_must (refine (kb2 _ (wds_own (H12.row 1 rfl) hrf.out)).mono ?_; rintro e w13 ⟨v13, rfl, H13⟩; have H14 : St (fun _ => False) w w13 [_, _, _, _] := H12.call0 H13))
        | (go_at_call 29; refine (St.callPast (ksame _ _ _ (wds_own (H14.row 3 rfl) hm2.out) (wds_own (H14.row 0 rfl) hm2.out)) H14).mono ?_; rintro e w15 ⟨rfl, H15⟩)
        | (go_at_call 29; go_must (refine (St.callPast (ksame _ _ _ (wds_own (H11.row 2 rfl) hm2.out) (wds_own (H11.row 0 rfl) hm2.out)) H11).mono ?_; rintro e w12 ⟨rfl, H12⟩)))
      have H16 : St (fun _ => False) w w15 [Row 41 3 (.slice va M.length vc) M.length (wds M)] := H15.pick [3]
      clear H8 H9 H10 H11 H12 H13 H14 H15 kset ksame kra kb2
      have H17 : St (fun _ => False) w _ [_, _] := H16.allocAt rfl #[.string ⟨#[97, 110, 110]⟩, .string ⟨#[98, 111, 98]⟩] 9
      go_upto_block 3 with (fail)
      obtain ⟨wx, hwx⟩ : ∃ wx, w15.alloc (.cells #[.string ⟨#[97, 110, 110]⟩, .string ⟨#[98, 111, 98]⟩] 9) = wx := ⟨_, rfl⟩
      obtain ⟨bs, hbs⟩ : ∃ b, w15.heap.size = b := ⟨_, rfl⟩
      rw [hwx, hbs] at H17
      try rw [hwx]
      try simp only [hbs]
      have H18 : St (fun _ => False) w wx [Blk bs #[.string ⟨#[97, 110, 110]⟩, .string ⟨#[98, 111, 98]⟩] 9, Row 41 3 (.slice va M.length vc) M.length (wds M)] := H17
      clear hwx hbs H16 H17
      go_loopw [9, 10, 11, 58] (fun _ _ _ j wr => ∃ (i : Nat), i ≤ 2 ∧ j = .int .i64 i ∧ St (fun _ => False) w wr [Blk bs #[.string ⟨#[97, 110, 110]⟩, .string ⟨#[98, 111, 98]⟩] 9, Row 41 3 (.slice va M.length vc) M.length (wds M)]) (fun _ _ _ j _ => 2 - (intOf j).toNat)
      case atStart => exact ⟨0, by omega, rfl, H18⟩
      case round =>
        clear H18
        obtain ⟨i, hi2, rfl, HL⟩ := hrel
        by_cases hi : i < 2
        · as_aux_lemma =>
            obtain ⟨kv, hkv⟩ : ∃ kv : List UInt8, (#[Value.string ⟨#[97, 110, 110]⟩, .string ⟨#[98, 111, 98]⟩] : Array Value)[i]? = some (.string ⟨kv.toArray⟩) := by
              have : i = 0 ∨ i = 1 := by omega
              rcases this with rfl | rfl
              · exact ⟨[97, 110, 110], rfl⟩
              · exact ⟨[98, 111, 98], rfl⟩
            have c0 := HL.cell 0 i rfl hkv
            have z0 : (i : Int) < 2 := by omega
            have hs := Lib.hid (hsame.out kv)
            clear hkv
            go_upto_block 5 with (fail)
            clear c0
            go_loopw [10, 64] (fun u j wr => ∃ (k : Nat) (b : Bool), k ≤ l.length ∧ j = .int .i64 k ∧ u = .bool b ∧ Hid (b = (l.take k).any (atK kv t)) ∧ St (fun _ => False) w wr [Blk bs #[.string ⟨#[97, 110, 110]⟩, .string ⟨#[98, 111, 98]⟩] 9, Row 41 3 (.slice va M.length vc) M.length (wds M)]) (fun _ j _ => l.length - (intOf j).toNat)
            case atStart => exact ⟨0, false, by omega, rfl, rfl, Lib.hid rfl, HL⟩
            case round =>
              clear HL
              obtain ⟨k, b0, hk, rfl, rfl, hb0, HL⟩ := hrel
              by_cases hkl : k < l.length
              · obtain ⟨b, o, rfl, hb, hc⟩ := hich.out (by intro e; rw [e] at hkl; simp at hkl)
                obtain ⟨y, hy⟩ : ∃ x, l[k]? = some x := ⟨_, List.getElem?_eq_getElem hkl⟩
                obtain ⟨q0, q1, q2⟩ := wd_cells (hc k y hy) (HL.kept.block b hb id)
                have kh := ht y (hfith.out y (List.mem_of_getElem? hy))
                obtain ⟨H, hH⟩ : ∃ H, y.has t = H := ⟨_, rfl⟩
                obtain ⟨K, hK⟩ : ∃ K, (y.key == kv) = K := ⟨_, rfl⟩
                have hn := Lib.hid (show (l.take (k + 1)).any (atK kv t) = (b0 || (K && H)) by rw [any_snoc _ hy, ← hb0.out, atK, hK, hH])
                rw [hH] at kh
                clear hH hc hy hb0
                obtain ⟨yk, yf, yt⟩ := y
                unfold wdV wdC textV at kh
                simp only at q0 q1 q2 kh hK
                unfold textV at q0
                have HA : St (fun _ => False) w _ [_, _, _] := HL.allocAt rfl #[.string ⟨yk.toArray⟩, .int .i64 yf, .int .i64 yt] 41
                go_upto_region 21 with (fail)
                obtain ⟨wb, hwb⟩ : ∃ wb, wr.alloc (.cells #[.string ⟨yk.toArray⟩, .int .i64 yf, .int .i64 yt] 41) = wb := ⟨_, rfl⟩
                obtain ⟨yb, hyb⟩ : ∃ yb, wr.heap.size = yb := ⟨_, rfl⟩
                rw [hwb, hyb] at HA
                try rw [hwb]
                try simp only [hyb]
                have HA2 : St (fun _ => False) w wb [Blk yb #[.string ⟨yk.toArray⟩, .int .i64 yf, .int .i64 yt] 41, Blk bs #[.string ⟨#[97, 110, 110]⟩, .string ⟨#[98, 111, 98]⟩] 9, Row 41 3 (.slice va M.length vc) M.length (wds M)] := HA
                clear hwb hyb q0 q1 q2 HL HA
                have d0 := HA2.cell 0 0 rfl rfl
                have d1 := HA2.cell 0 1 rfl rfl
                have d2 := HA2.cell 0 2 rfl rfl
                have hcs : b0 = true ∨ (b0 = false ∧ K = false) ∨ (b0 = false ∧ K = true) := by cases b0 <;> cases K <;> simp
                rcases hcs with rfl | ⟨rfl, rfl⟩ | ⟨rfl, rfl⟩
                · go_wp2
                  go_roundw
                  case rel => exact ⟨k + 1, true, by omega, by go_num, rfl, Lib.hid (by rw [hn.out]; simp), HA2.pick [1, 2]⟩
                  case measure => simp [intOf]; omega
                · go_wp2
                  go_roundw
                  case rel => exact ⟨k + 1, false, by omega, by go_num, rfl, Lib.hid (by rw [hn.out]; simp), HA2.pick [1, 2]⟩
                  case measure => simp [intOf]; omega
                · go_wp2_with (go_at_call 33; go_must (refine (St.callPast (kh _) HA2).mono ?_; rintro e w7 ⟨rfl, H7⟩))
                  go_roundw
                  case rel => exact ⟨k + 1, H, by omega, by go_num, rfl, Lib.hid (by rw [hn.out]; simp), H7.pick [1, 2]⟩
                  case measure => simp [intOf]; omega
              · obtain rfl : k = l.length := by omega
                rw [List.take_length] at hb0
                have hb1 := Lib.hid (hb0.out.trans hs.out)
                clear hb0 hich hkl
                go_upto_block 7 with (fail)
                go_loopw [11, 83] (fun u j wr => ∃ (k : Nat) (b : Bool), k ≤ M.length ∧ j = .int .i64 k ∧ u = .bool b ∧ Hid (b = (M.take k).any (atK kv t)) ∧ St (fun _ => False) w wr [Blk bs #[.string ⟨#[97, 110, 110]⟩, .string ⟨#[98, 111, 98]⟩] 9, Row 41 3 (.slice va M.length vc) M.length (wds M)]) (fun _ j _ => M.length - (intOf j).toNat)
                case atStart => exact ⟨0, false, by omega, rfl, rfl, Lib.hid rfl, HL⟩
                case round =>
                  clear HL
                  obtain ⟨k, b2, hk, rfl, rfl, hb0, HL⟩ := hrel
                  by_cases hkl : k < M.length
                  · obtain ⟨ga, rfl⟩ := hva (by omega)
                    obtain ⟨y, hy⟩ : ∃ x, M[k]? = some x := ⟨_, List.getElem?_eq_getElem hkl⟩
                    obtain ⟨q0, q1, q2⟩ := row_wds (HL.row 1 rfl) hy
                    have kh := ht y (hm2.out y (List.mem_of_getElem? hy))
                    obtain ⟨H, hH⟩ : ∃ H, y.has t = H := ⟨_, rfl⟩
                    obtain ⟨K, hK⟩ : ∃ K, (y.key == kv) = K := ⟨_, rfl⟩
                    have hn := Lib.hid (show (M.take (k + 1)).any (atK kv t) = (b2 || (K && H)) by rw [any_snoc _ hy, ← hb0.out, atK, hK, hH])
                    rw [hH] at kh
                    clear hH hy hb0
                    obtain ⟨yk, yf, yt⟩ := y
                    unfold wdV wdC textV at kh
                    simp only at q0 q1 q2 kh hK
                    unfold textV at q0
                    have HA : St (fun _ => False) w _ [_, _, _] := HL.allocAt rfl #[.string ⟨yk.toArray⟩, .int .i64 yf, .int .i64 yt] 41
                    go_upto_region 26 with (fail)
                    obtain ⟨wb, hwb⟩ : ∃ wb, wr.alloc (.cells #[.string ⟨yk.toArray⟩, .int .i64 yf, .int .i64 yt] 41) = wb := ⟨_, rfl⟩
                    obtain ⟨yb, hyb⟩ : ∃ yb, wr.heap.size = yb := ⟨_, rfl⟩
                    rw [hwb, hyb] at HA
                    try rw [hwb]
                    try simp only [hyb]
                    have HA2 : St (fun _ => False) w wb [Blk yb #[.string ⟨yk.toArray⟩, .int .i64 yf, .int .i64 yt] 41, Blk bs #[.string ⟨#[97, 110, 110]⟩, .string ⟨#[98, 111, 98]⟩] 9, Row 41 3 (.slice (some ⟨ga, 0, none⟩) M.length vc) M.length (wds M)] := HA
                    clear hwb hyb q0 q1 q2 HL HA
                    have d0 := HA2.cell 0 0 rfl rfl
                    have d1 := HA2.cell 0 1 rfl rfl
                    have d2 := HA2.cell 0 2 rfl rfl
                    have hcs : b2 = true ∨ (b2 = false ∧ K = false) ∨ (b2 = false ∧ K = true) := by cases b2 <;> cases K <;> simp
                    rcases hcs with rfl | ⟨rfl, rfl⟩ | ⟨rfl, rfl⟩
                    · go_wp2
                      go_roundw
                      case rel => exact ⟨k + 1, true, by omega, by go_num, rfl, Lib.hid (by rw [hn.out]; simp), HA2.pick [1, 2]⟩
                      case measure => simp [intOf]; omega
                    · go_wp2
                      go_roundw
                      case rel => exact ⟨k + 1, false, by omega, by go_num, rfl, Lib.hid (by rw [hn.out]; simp), HA2.pick [1, 2]⟩
                      case measure => simp [intOf]; omega
                    · go_wp2_with (go_at_call 33; go_must (refine (St.callPast (kh _) HA2).mono ?_; rintro e w7 ⟨rfl, H7⟩))
                      go_roundw
                      case rel => exact ⟨k + 1, H, by omega, by go_num, rfl, Lib.hid (by rw [hn.out]; simp), H7.pick [1, 2]⟩
                      case measure => simp [intOf]; omega
                  · obtain rfl : k = M.length := by omega
                    rw [List.take_length] at hb0
                    obtain rfl : b2 = b0 := hb0.out.trans hb1.out.symm
                    clear hb0 hb1
                    cases b2
                    all_goals
                      go_wp2
                      go_roundw
                      case rel => exact ⟨i + 1, by omega, by go_num, HL⟩
                      case measure => simp [intOf]; omega
        · obtain rfl : i = 2 := by omega
          go_wp2
          go_ret
          exact ⟨rfl, HL.below (Nat.le_refl _) (fun _ h => h.elim)⟩
end Go.Proofs.Ytoffcoegghigoaa
