/- The document's Sorted. Condition: so many items. -/
import Derived.Test.YtoffcoegghigoaaItmR
namespace Go.Proofs.Ytoffcoegghigoaa
open Go.RowKit

theorem row_part {w : World} {g k oc i : Nat} {e : TypeId} {O P q : List Itm} (h : w.ownsRow 0 e 4 (.slice (some ⟨g, 0, none⟩) k oc) k (itms O)) (hO : O = P ++ q) (hP : P.length = i) :
    (∀ (j : Nat) u, (itms P)[j]? = some u → w.cell? ⟨g, j, none⟩ = some u) ∧ (∀ (j : Nat) u, (itms q)[j]? = some u → w.cell? ⟨g, i * 4 + j, none⟩ = some u) := by
  subst hO
  rw [itms_app] at h
  have hl : (itms P).length = i * 4 := by rw [itms_len, hP]
  refine ⟨fun j u hu => own_cell h ?_, fun j u hu => own_cell h ?_⟩
  · rw [List.getElem?_append_left (List.getElem?_eq_some_iff.1 hu).1]; exact hu
  · rw [List.getElem?_append_right (by omega), hl, Nat.add_sub_cancel_left]; exact hu

set_option maxHeartbeats 4000000 in
set_option maxRecDepth 100000 in
theorem ref_sorted {v : Value} {l : List Itm} (w : World) (hv : ItmsRO w v l) (hl : l.length ≤ 3518437208880) :
    Calls Try.prog 48 #[v] w fun e w' => ∃ v', e = .returned v' ∧ St (fun _ => False) w w' [Row 85 4 v' (l.filter Itm.counts).length (itms (isr (l.filter Itm.counts)).reverse)] := by
  have hEl : (l.filter Itm.counts).length ≤ 3518437208880 := Nat.le_trans (List.length_filter_le _ _) hl
  have ke := ref_events w hv (by omega)
  obtain ⟨E, hE⟩ : ∃ E, l.filter Itm.counts = E := ⟨_, rfl⟩
  rw [hE] at hEl ke ⊢
  clear hE hv
  go_enter Try.func48, Try.ntmps48
  go_upto_block 1 with (go_at_call 65; go_must (refine ke.mono ?_; rintro e w2 ⟨ve, rfl, H3⟩; obtain ⟨ea, ec, rfl, hec, hea⟩ := slice_form' (H3.row 0 rfl)))
  clear ke
  have H4 : St (fun _ => False) w w2 [Row 85 4 (.slice none 0 0) 0 (itms []), Row 85 4 (.slice ea E.length ec) E.length (itms E)] := H3.row_nil 85 4
  clear H3
  go_loopw [3, 11] (fun u j wr => ∃ (k : Nat) (r0 : List Itm), k ≤ E.length ∧ j = .int .i64 k ∧ r0.length = k ∧ Hid (r0 = isr (E.take k)) ∧ St (fun _ => False) w wr [Row 85 4 u k (itms r0.reverse), Row 85 4 (.slice ea E.length ec) E.length (itms E)]) (fun _ j _ => E.length - (intOf j).toNat)
  case atStart => exact ⟨0, [], by omega, rfl, rfl, Lib.hid rfl, H4⟩
  case round =>
    clear H4
    obtain ⟨k, r0, hk, rfl, hr0l, hr0, HM⟩ := hrel
    by_cases hkl : k < E.length
    · obtain ⟨ge, rfl⟩ := hea (by omega)
      obtain ⟨x, hx⟩ : ∃ x, E[k]? = some x := ⟨_, List.getElem?_eq_getElem hkl⟩
      obtain ⟨q0, q1, q2, q3⟩ := row_itms (HM.row 1 rfl) hx
      have hn := Lib.hid (show isr (E.take (k + 1)) = insR r0 x by rw [take_snoc' hx, isr_snoc, hr0.out])
      obtain ⟨oa, oc, rfl, hoc, hoa⟩ := slice_form' (HM.row 0 rfl)
      have hob : oa = none ∨ ∃ g, oa = some ⟨g, 0, none⟩ := by
        rcases own_shape (HM.row 0 rfl) with ⟨h, _⟩ | ⟨g, cap, h, _⟩
        · injection h with h1 h2 h3
          exact .inl h1
        · injection h with h1 h2 h3
          exact .inr ⟨g, h1⟩
      have hobh := Lib.hid hob
      clear hob
      have hxh := Lib.hid hx
      clear hx hr0
      obtain ⟨xk, xy, xt, xv⟩ := x
      simp only at q0 q1 q2 q3
      unfold textV at q1
      have HA : St (fun _ => False) w _ [_, _, _] := HM.allocAt rfl #[.int .i64 xk, .string ⟨xy.toArray⟩, .int .i64 xt, .int .i64 xv] 85
      go_upto_region 5 with (fail)
      obtain ⟨wb, hwb⟩ : ∃ wb, wr.alloc (.cells #[.int .i64 xk, .string ⟨xy.toArray⟩, .int .i64 xt, .int .i64 xv] 85) = wb := ⟨_, rfl⟩
      obtain ⟨xb, hxb⟩ : ∃ xb, wr.heap.size = xb := ⟨_, rfl⟩
      rw [hwb, hxb] at HA
      try rw [hwb]
      try simp only [hxb]
      have HA2 : St (fun _ => False) w wb [Blk xb #[.int .i64 xk, .string ⟨xy.toArray⟩, .int .i64 xt, .int .i64 xv] 85, Row 85 4 (.slice oa k oc) k (itms r0.reverse), Row 85 4 (.slice (some ⟨ge, 0, none⟩) E.length ec) E.length (itms E)] := HA
      clear hwb hxb q0 q1 q2 q3 HM HA
      go_upto_block 3 with (fail)
      go_loopw [6] (fun s wr => ∃ (i : Nat) (r q : List Itm), s = .int .i64 i ∧ r.length = i ∧ i + q.length = k ∧ Hid (r0 = q.reverse ++ r) ∧ Hid (insR r0 ⟨xk, xy, xt, xv⟩ = q.reverse ++ insR r ⟨xk, xy, xt, xv⟩) ∧ St (fun _ => False) w wr [Blk xb #[.int .i64 xk, .string ⟨xy.toArray⟩, .int .i64 xt, .int .i64 xv] 85, Row 85 4 (.slice oa k oc) k (itms r0.reverse), Row 85 4 (.slice (some ⟨ge, 0, none⟩) E.length ec) E.length (itms E)]) (fun s _ => (intOf s).toNat)
      case atStart => exact ⟨k, r0, [], rfl, hr0l, by simp, Lib.hid rfl, Lib.hid rfl, HA2⟩
      case round =>
        clear HA2
        obtain ⟨i, r, q, rfl, hri, hiq, hq, hI, HM⟩ := hrel
        have hcs : (∃ y r', r = y :: r' ∧ xt < y.time) ∨ ((∀ y r', r = y :: r' → ¬ xt < y.time) ∧ insR r ⟨xk, xy, xt, xv⟩ = ⟨xk, xy, xt, xv⟩ :: r) := by
          cases r with
          | nil => exact .inr ⟨fun _ _ h => by simp at h, rfl⟩
          | cons y r =>
            by_cases h : xt < y.time
            · exact .inl ⟨y, r, rfl, h⟩
            · refine .inr ⟨fun _ _ e => by obtain ⟨rfl, rfl⟩ := List.cons.inj e; exact h, ?_⟩
              rw [insR, if_neg h]
        rcases hcs with ⟨y, r', rfl, hlt2⟩ | ⟨hst, hins⟩
        · obtain ⟨i0, rfl⟩ : ∃ i0, i = i0 + 1 := ⟨r'.length, by simp at hri; omega⟩
          have hri' : r'.length = i0 := by simp at hri; omega
          have hOy : r0.reverse[i0]? = some y := by
            rw [hq.out, List.reverse_append, List.reverse_reverse, List.reverse_cons, List.append_assoc, List.getElem?_append_right (by simp; omega)]
            simp [hri']
          obtain ⟨go, rfl⟩ := hoa (by omega)
          have hI2 := Lib.hid (show insR r0 ⟨xk, xy, xt, xv⟩ = (y :: q).reverse ++ insR r' ⟨xk, xy, xt, xv⟩ by rw [hI.out, insR, if_pos hlt2]; simp)
          have hq2 := Lib.hid (show r0 = (y :: q).reverse ++ r' by rw [hq.out]; simp)
          obtain ⟨i, hi⟩ : ∃ i, i0 + 1 = i := ⟨_, rfl⟩
          have wi : IntKind.i64.wrap ((i : Int) - 1) = (i0 : Int) := by rw [IntKind.wrap_i64]; omega
          have z1 : decide ((0 : Int) < (i : Int)) = true := by simp; omega
          have z3 : decide (0 < i) = true := by simp; omega
          have z2 : (i0 : Int) < (k : Int) := by omega
          have z2' : i0 < k := by omega
          have hih := Lib.hid hi
          have hiq2 : i0 + (q.length + 1) = k := by omega
          simp only [hi] at hri hiq ⊢
          clear hri hq hI hiq hi
          obtain ⟨yk, yy, yt, yv⟩ := y
          simp only at hlt2
          go_upto_region 6 with (fail)
          refine wp_calm (fun w' => St (fun _ => False) w w' [Blk xb #[.int .i64 xk, .string ⟨xy.toArray⟩, .int .i64 xt, .int .i64 xv] 85, Row 85 4 (.slice (some ⟨go, 0, none⟩) k oc) k (itms r0.reverse), Row 85 4 (.slice (some ⟨ge, 0, none⟩) E.length ec) E.length (itms E)]) (by kernel_rfl) (by kernel_rfl) (HM.drew) ?_
          iterate 13 first
            | (apply calm_pass
               · rfl
               intro K hK
               go_simp
               refine hK _ ?_
               clear hK K)
            | (apply calm_step
               · rfl
               · intro w1 h1
                 obtain ⟨q0, q1, q2, q3⟩ := row_itms (h1.row 1 rfl) hOy
                 have d2 := h1.cell 0 2 rfl rfl
                 simp only at q0 q1 q2 q3
                 first
                   | (go_simp
                      first
                        | rfl
                        | exact ⟨rfl, h1⟩
                     )
               intro K hK
               go_simp
               refine hK _ ?_
               clear hK K)
          refine calm_nil ?_
          intro w5 H5
          go_wp2
          go_roundw
          case rel =>
            refine ⟨i0, r', _ :: q, by go_num, hri', by simp; omega, hq2, hI2, H5⟩
          case measure => have := hih.out; simp [intOf]; omega
        · have hres := Lib.hid (show (insR r0 ⟨xk, xy, xt, xv⟩).reverse = (r.reverse ++ [⟨xk, xy, xt, xv⟩]) ++ q by rw [hI.out, hins]; simp)
          have hO : r0.reverse = r.reverse ++ q := by rw [hq.out]; simp
          have hcs2 : (decide ((0 : Int) < (i : Int)) = false ∧ decide (0 < i) = false) ∨ (∃ y i0, r.reverse[i0]? = some y ∧ i0 + 1 = i ∧ ¬ xt < y.time) := by
            cases r with
            | nil => exact .inl ⟨by simp at hri ⊢; omega, by simp at hri ⊢; omega⟩
            | cons y r => exact .inr ⟨y, r.length, by simp, by simpa using hri, hst y r rfl⟩
          have hOh := Lib.hid hO
          clear hst hins hI hq hO
          obtain ⟨O, hO⟩ : ∃ O, r0.reverse = O := ⟨_, rfl⟩
          simp only [hO] at HM hOh ⊢
          have hOl : O.length = k := by rw [← hO, List.length_reverse, hr0l]
          have hrh := Lib.hid (show r.reverse.length = i by rw [List.length_reverse, hri])
          have hn2 := Lib.hid (show (isr (E.take (k + 1))).reverse = (r.reverse ++ [⟨xk, xy, xt, xv⟩]) ++ q by rw [hn.out, hres.out])
          have hn3 := Lib.hid (show (isr (E.take (k + 1))).length = k + 1 by rw [isr_len, List.length_take]; omega)
          clear hO hres hri
          obtain ⟨P, hP⟩ : ∃ P, r.reverse = P := ⟨_, rfl⟩
          rw [hP] at hOh hcs2 hrh hn2
          clear hP hn hr0l
          have hcs3 : (oa = none ∧ decide ((0 : Int) < (i : Int)) = false ∧ decide (0 < i) = false) ∨ (∃ g, oa = some ⟨g, 0, none⟩ ∧ decide ((0 : Int) < (i : Int)) = false ∧ decide (0 < i) = false) ∨ (∃ y i0, P[i0]? = some y ∧ i0 + 1 = i ∧ ¬ xt < y.time) := by
            rcases hcs2 with ⟨z1, z3⟩ | h
            · rcases hobh.out with h | ⟨g, h⟩
              · exact .inl ⟨h, z1, z3⟩
              · exact .inr (.inl ⟨g, h, z1, z3⟩)
            · exact .inr (.inr h)
          clear hcs2
          rcases hcs3 with ⟨rfl, z1, z3⟩ | ⟨go, rfl, z1, z3⟩ | ⟨y, i0, hy, hi, hlt2⟩
          case' inr.inl =>
            have hk0 : k = 0 := by
              by_cases h : k = 0
              · exact h
              · obtain ⟨g, h2⟩ := hoa h
                exact absurd h2 (by simp)
            have hPn : P = [] := List.eq_nil_of_length_eq_zero (by rw [hrh.out]; omega)
            have hqn : q = [] := List.eq_nil_of_length_eq_zero (by omega)
            have hpart : Hid (∀ (w' : World), w'.ownsRow 0 85 4 (.slice none k oc) k (itms O) → (∀ (j : Nat) u, (itms P)[j]? = some u → False) ∧ (∀ (j : Nat) u, (itms q)[j]? = some u → False)) := Lib.hid fun _ _ => by rw [hPn, hqn]; exact ⟨fun j u h => by simp [itms] at h, fun j u h => by simp [itms] at h⟩
            have hk0h := Lib.hid hk0
            clear hPn hqn hk0
            go_upto_region 6 with (fail)
            refine wp_calm (fun w' => St (fun _ => False) w w' [Blk xb #[.int .i64 xk, .string ⟨xy.toArray⟩, .int .i64 xt, .int .i64 xv] 85, Row 85 4 (.slice none k oc) k (itms O), Row 85 4 (.slice (some ⟨ge, 0, none⟩) E.length ec) E.length (itms E)]) (by kernel_rfl) (by kernel_rfl) (HM.drew) ?_
            iterate 13 first
              | (apply calm_pass
                 · rfl
                 intro K hK
                 go_simp
                 refine hK _ ?_
                 clear hK K)
              | (apply calm_step
                 · rfl
                 · intro w1 h1
                   first
                     | (go_simp
                        first
                          | rfl
                          | exact ⟨rfl, h1⟩
                       )
                 intro K hK
                 go_simp
                 refine hK _ ?_
                 clear hK K)
            refine calm_nil ?_
            intro w5 H5
            go_upto_region 8 with (fail)
          case' inr.inr.inl =>
            go_upto_region 6 with (fail)
            refine wp_calm (fun w' => St (fun _ => False) w w' [Blk xb #[.int .i64 xk, .string ⟨xy.toArray⟩, .int .i64 xt, .int .i64 xv] 85, Row 85 4 (.slice (some ⟨go, 0, none⟩) k oc) k (itms O), Row 85 4 (.slice (some ⟨ge, 0, none⟩) E.length ec) E.length (itms E)]) (by kernel_rfl) (by kernel_rfl) (HM.drew) ?_
            iterate 13 first
              | (apply calm_pass
                 · rfl
                 intro K hK
                 go_simp
                 refine hK _ ?_
                 clear hK K)
              | (apply calm_step
                 · rfl
                 · intro w1 h1
                   first
                     | (go_simp
                        first
                          | rfl
                          | exact ⟨rfl, h1⟩
                       )
                 intro K hK
                 go_simp
                 refine hK _ ?_
                 clear hK K)
            refine calm_nil ?_
            intro w5 H5
            go_upto_region 8 with (fail)
          case' inr.inr.inr =>
            obtain ⟨go, rfl⟩ := hoa (by omega)
            have hOy : O[i0]? = some y := by rw [hOh.out, List.getElem?_append_left (by rw [hrh.out]; omega)]; exact hy
            have wi : IntKind.i64.wrap ((i : Int) - 1) = (i0 : Int) := by rw [IntKind.wrap_i64]; omega
            have z1 : decide ((0 : Int) < (i : Int)) = true := by simp; omega
            have z3 : decide (0 < i) = true := by simp; omega
            have z2 : (i0 : Int) < (k : Int) := by omega
            have z2' : i0 < k := by omega
            clear hi hy
            obtain ⟨yk, yy, yt, yv⟩ := y
            simp only at hlt2
            go_upto_region 6 with (fail)
            refine wp_calm (fun w' => St (fun _ => False) w w' [Blk xb #[.int .i64 xk, .string ⟨xy.toArray⟩, .int .i64 xt, .int .i64 xv] 85, Row 85 4 (.slice (some ⟨go, 0, none⟩) k oc) k (itms O), Row 85 4 (.slice (some ⟨ge, 0, none⟩) E.length ec) E.length (itms E)]) (by kernel_rfl) (by kernel_rfl) (HM.drew) ?_
            iterate 13 first
              | (apply calm_pass
                 · rfl
                 intro K hK
                 go_simp
                 refine hK _ ?_
                 clear hK K)
              | (apply calm_step
                 · rfl
                 · intro w1 h1
                   obtain ⟨q0, q1, q2, q3⟩ := row_itms (h1.row 1 rfl) hOy
                   have d2 := h1.cell 0 2 rfl rfl
                   simp only at q0 q1 q2 q3
                   first
                     | (go_simp
                        first
                          | rfl
                          | exact ⟨rfl, h1⟩
                       )
                 intro K hK
                 go_simp
                 refine hK _ ?_
                 clear hK K)
            refine calm_nil ?_
            intro w5 H5
            go_upto_region 8 with (fail)
          all_goals
            have hio : (i : Int) ≤ (oc : Int) := by omega
            have hio' : i ≤ oc := by omega
            have hik : (i : Int) ≤ (k : Int) := by omega
            have hik' : i ≤ k := by omega
            have HB : St (fun _ => False) w _ [_, _, _, _] := H5.allocAt rfl #[] 85
            have HB := HB.blk_row 0 (e := 85) (size := 4) (cap := 0) (n := 0) (cs := []) (xs := itms []) rfl (Nat.le_refl _) (Nat.zero_le _) rfl rfl
            have hip := hrh.out
            have hlP : (itms P).length = i * 4 := by rw [itms_len, hip]
            clear hip
            have HB : St (fun _ => False) w (w5.alloc (.cells #[] 85)) [_, _, _, _] := HB
            go_upto_region 9 with (at_builtin; go_must (refine St.list_add HB 0 rfl rfl (.tmp 32) (.tmp 35) 65 rfl Try.underlying65 Try.info85 (by decide) rfl (itms P) rfl hlP (by first | (intro h; cases h; done) | (intro _; have := hk0h.out; omega)) (by first | (intro ad h; simp at h; done) | (intro ad h jj u hu; cases h; have h0 := (row_part (HB.row 2 rfl) hOh.out hrh.out).1 jj u hu; rw [← Nat.zero_add jj] at h0; rw [Addr.add_mid]; exact h0)) (itms_one1 _) (by omega) ?_; intro v7 w7 H7 hz7))
            have H7 : St (fun _ => False) w w7 [_, _, _, _] := H7
            rw [Nat.zero_add] at H7
            have d0 := H7.cell 1 0 rfl rfl
            have d1 := H7.cell 1 1 rfl rfl
            have d2 := H7.cell 1 2 rfl rfl
            have d3 := H7.cell 1 3 rfl rfl
            go_upto_region 10 with (at_builtin; go_must (refine St.list_app (H7.skip _) 0 rfl rfl (.tmp 37) (.tmp 39) 65 rfl Try.underlying65 Try.info85 (by decide) rfl [.int .i64 xk, .string ⟨xy.toArray⟩, .int .i64 xt, .int .i64 xv] rfl rfl (new_cells #[.int .i64 xk, .string ⟨xy.toArray⟩, .int .i64 xt, .int .i64 xv] _) (by simp [Value.oneCell']) (by omega) (by omega) ?_; intro g8 cap8 w8 H8 hz8))
            have H8 : St (fun _ => False) w w8 [_, _, _, _] := H8
            have hlq : (itms q).length = (k - i) * 4 := by rw [itms_len]; omega
            clear d0 d1 d2 d3 H7
            go_wp2_with (at_builtin; go_must (refine St.list_add H8 0 rfl rfl (.tmp 41) (.tmp 44) 65 rfl Try.underlying65 Try.info85 (by decide) rfl (itms q) rfl hlq (by first | (intro h; split at h <;> cases h; done) | (intro _; have := hk0h.out; omega)) (by first | (intro ad h; simp at h; done) | (intro ad h jj u hu; have hlt := (List.getElem?_eq_some_iff.1 hu).1; rw [if_neg (by omega)] at h; cases h; have h0 := (row_part (H8.row 2 rfl) hOh.out hrh.out).2 jj u hu; rw [Addr.add_mid]; exact h0)) (itms_one1 _) (by omega) ?_; intro v9 w9 H9 hz9))
            go_roundw
            case rel =>
              have H9 : St (fun _ => False) w w9 [_, _, _, _] := H9
              refine ⟨k + 1, isr (E.take (k + 1)), by omega, by go_num, hn3.out, Lib.hid rfl, ?_⟩
              rw [hn2.out, itms_app, itms_app, itms_one]
              have e1 : k + 1 = i + 1 + (k - i) := by omega
              rw [e1]
              exact H9.pick [0, 3]
            case measure => simp [intOf]; omega
    · obtain rfl : k = E.length := by omega
      rw [List.take_length] at hr0
      obtain ⟨ua, uc, rfl, _, _⟩ := slice_form' (HM.row 0 rfl)
      go_wp2
      go_ret
      rw [← hr0.out]
      exact ⟨_, rfl, St.take (l1 := [_]) HM⟩
end Go.Proofs.Ytoffcoegghigoaa
