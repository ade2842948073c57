/- The document's Sorted of windows. Condition: so many windows. -/
import Derived.Test.YtoffcoegghigoaaWdR
import Derived.Test.YtoffcoegghigoaaWdE
namespace Go.Proofs.Ytoffcoegghigoaa
open Go.RowKit

def insP : List Wd → Wd → List Wd
  | [], w => [w]
  | y :: r, w => if w.place y < 0 then y :: insP r w else w :: y :: r
def srtP (l : List Wd) : List Wd := l.foldl insP []
theorem srtP_snoc (l : List Wd) (x : Wd) : srtP (l ++ [x]) = insP (srtP l) x := by simp [srtP]
theorem insP_len (r : List Wd) (x : Wd) : (insP r x).length = r.length + 1 := by
  induction r with
  | nil => rfl
  | cons y r ih => rw [insP]; split <;> simp [ih]
theorem srtP_len (l : List Wd) : (srtP l).length = l.length := by
  refine snoc_ind (p := fun l => (srtP l).length = l.length) rfl (fun l x ih => ?_) l
  rw [srtP_snoc, insP_len, ih]; simp
theorem row_partW {w : World} {g k oc i : Nat} {e : TypeId} {O P q : List Wd} (h : w.ownsRow 0 e 3 (.slice (some ⟨g, 0, none⟩) k oc) k (wds O)) (hO : O = P ++ q) (hP : P.length = i) :
    (∀ (j : Nat) u, (wds P)[j]? = some u → w.cell? ⟨g, j, none⟩ = some u) ∧ (∀ (j : Nat) u, (wds q)[j]? = some u → w.cell? ⟨g, i * 3 + j, none⟩ = some u) := by
  subst hO
  rw [wds_app] at h
  have hl : (wds P).length = i * 3 := by rw [wds_len, hP]
  refine ⟨fun j u hu => own_cell h ?_, fun j u hu => own_cell h ?_⟩
  · rw [List.getElem?_append_left (List.getElem?_eq_some_iff.1 hu).1]; exact hu
  · rw [List.getElem?_append_right (by omega), hl, Nat.add_sub_cancel_left]; exact hu

set_option maxHeartbeats 4000000 in
set_option maxRecDepth 100000 in
theorem ref_wsorted {v : Value} {l : List Wd} (w : World) (hv : WdsRO w v l) (hl : l.length ≤ 4398046511104) :
    Calls Try.prog 63 #[v] w fun e w' => ∃ v', e = .returned v' ∧ St (fun _ => False) w w' [Row 41 3 v' l.length (wds (srtP l).reverse)] := by
  obtain ⟨ao, cap, rfl, hcap, hfit, hic⟩ := hv
  have hich := Lib.hid hic
  clear hfit hic
  go_enter Try.func63, Try.ntmps63
  have H4 : St (fun _ => False) w w [Row 41 3 (.slice none 0 0) 0 (wds [])] := (St.nil _ w).row_nil 41 3
  go_upto_block 1 with (fail)
  go_loopw [3, 10] (fun u j wr => ∃ (k : Nat) (r0 : List Wd), k ≤ l.length ∧ j = .int .i64 k ∧ r0.length = k ∧ Hid (r0 = srtP (l.take k)) ∧ St (fun _ => False) w wr [Row 41 3 u k (wds r0.reverse)]) (fun _ j _ => l.length - (intOf j).toNat)
  case atStart => exact ⟨0, [], by omega, rfl, rfl, Lib.hid rfl, H4⟩
  case round =>
    clear H4
    obtain ⟨k, r0, hk, rfl, hr0l, hr0, HM⟩ := hrel
    by_cases hkl : k < l.length
    · obtain ⟨b, o, rfl, hb, hc⟩ := hich.out (by intro e; rw [e] at hkl; simp at hkl)
      obtain ⟨x, hx⟩ : ∃ x, l[k]? = some x := ⟨_, List.getElem?_eq_getElem hkl⟩
      obtain ⟨q0, q1, q2⟩ := wd_cells (hc k x hx) (HM.kept.block b hb id)
      have hn := Lib.hid (show srtP (l.take (k + 1)) = insP r0 x by rw [take_snoc' hx, srtP_snoc, hr0.out])
      obtain ⟨oa, oc, rfl, hoc, hoa⟩ := slice_form' (HM.row 0 rfl)
      have hob : oa = none ∨ ∃ g, oa = some ⟨g, 0, none⟩ := by
        rcases own_shape (HM.row 0 rfl) with ⟨h, _⟩ | ⟨g, cap, h, _⟩
        · injection h with h1 h2 h3
          exact .inl h1
        · injection h with h1 h2 h3
          exact .inr ⟨g, h1⟩
      have hobh := Lib.hid hob
      clear hob hx hr0 hc
      have kp := fun (y : Wd) w' => ref_place x y w'
      obtain ⟨xk, xf, xt⟩ := x
      simp only at q0 q1 q2
      unfold textV at q0
      have HA : St (fun _ => False) w _ [_, _] := HM.allocAt rfl #[.string ⟨xk.toArray⟩, .int .i64 xf, .int .i64 xt] 41
      go_upto_region 5 with (fail)
      obtain ⟨wb, hwb⟩ : ∃ wb, wr.alloc (.cells #[.string ⟨xk.toArray⟩, .int .i64 xf, .int .i64 xt] 41) = wb := ⟨_, rfl⟩
      obtain ⟨xb, hxb⟩ : ∃ xb, wr.heap.size = xb := ⟨_, rfl⟩
      rw [hwb, hxb] at HA
      try rw [hwb]
      try simp only [hxb]
      have HA2 : St (fun _ => False) w wb [Blk xb #[.string ⟨xk.toArray⟩, .int .i64 xf, .int .i64 xt] 41, Row 41 3 (.slice oa k oc) k (wds r0.reverse)] := HA
      clear hwb hxb q0 q1 q2 HM HA
      go_upto_block 3 with (fail)
      go_loopw [6] (fun s wr => ∃ (i : Nat) (r q : List Wd), s = .int .i64 i ∧ r.length = i ∧ i + q.length = k ∧ Hid (r0 = q.reverse ++ r) ∧ Hid (insP r0 ⟨xk, xf, xt⟩ = q.reverse ++ insP r ⟨xk, xf, xt⟩) ∧ St (fun _ => False) w wr [Blk xb #[.string ⟨xk.toArray⟩, .int .i64 xf, .int .i64 xt] 41, Row 41 3 (.slice oa k oc) k (wds r0.reverse)]) (fun s _ => (intOf s).toNat)
      case atStart => exact ⟨k, r0, [], rfl, hr0l, by simp, Lib.hid rfl, Lib.hid rfl, HA2⟩
      case round =>
        clear HA2
        obtain ⟨i, r, q, rfl, hri, hiq, hq, hI, HM⟩ := hrel
        have hcs : (∃ y r', r = y :: r' ∧ Wd.place ⟨xk, xf, xt⟩ y < 0) ∨ ((∀ y r', r = y :: r' → ¬ Wd.place ⟨xk, xf, xt⟩ y < 0) ∧ insP r ⟨xk, xf, xt⟩ = ⟨xk, xf, xt⟩ :: r) := by
          cases r with
          | nil => exact .inr ⟨fun _ _ h => by simp at h, rfl⟩
          | cons y r =>
            by_cases h : Wd.place ⟨xk, xf, xt⟩ y < 0
            · exact .inl ⟨y, r, rfl, h⟩
            · refine .inr ⟨fun _ _ e => by obtain ⟨rfl, rfl⟩ := List.cons.inj e; exact h, ?_⟩
              rw [insP, if_neg h]
        rcases hcs with ⟨y, r', rfl, hlt2⟩ | ⟨hst, hins⟩
        · obtain ⟨i0, rfl⟩ : ∃ i0, i = i0 + 1 := ⟨r'.length, by simp at hri; omega⟩
          have hri' : r'.length = i0 := by simp at hri; omega
          have hOy : r0.reverse[i0]? = some y := by
            rw [hq.out, List.reverse_append, List.reverse_reverse, List.reverse_cons, List.append_assoc, List.getElem?_append_right (by simp; omega)]
            simp [hri']
          obtain ⟨go, rfl⟩ := hoa (by omega)
          have hI2 := Lib.hid (show insP r0 ⟨xk, xf, xt⟩ = (y :: q).reverse ++ insP r' ⟨xk, xf, xt⟩ by rw [hI.out, insP, if_pos hlt2]; simp)
          have hq2 := Lib.hid (show r0 = (y :: q).reverse ++ r' by rw [hq.out]; simp)
          obtain ⟨i, hi⟩ : ∃ i, i0 + 1 = i := ⟨_, rfl⟩
          have wi : IntKind.i64.wrap ((i : Int) - 1) = (i0 : Int) := by rw [IntKind.wrap_i64]; omega
          have z1 : decide ((0 : Int) < (i : Int)) = true := by simp; omega
          have z3 : decide (0 < i) = true := by simp; omega
          have z2 : (i0 : Int) < (k : Int) := by omega
          have z2' : i0 < k := by omega
          have hih := Lib.hid hi
          have hiq2 : i0 + (q.length + 1) = k := by omega
          simp only [hi] at hri hiq ⊢
          clear hri hq hI hiq hi
          have kc := kp y
          obtain ⟨P, hP⟩ : ∃ P, Wd.place ⟨xk, xf, xt⟩ y = P := ⟨_, rfl⟩
          rw [hP] at kc hlt2
          clear hP
          obtain ⟨yk, yf, yt⟩ := y
          unfold wdV wdC textV at kc
          simp only at kc
          go_upto_region 6 with (fail)
          refine wp_calm (fun w' => St (fun _ => False) w w' [Blk xb #[.string ⟨xk.toArray⟩, .int .i64 xf, .int .i64 xt] 41, Row 41 3 (.slice (some ⟨go, 0, none⟩) k oc) k (wds r0.reverse)]) (by kernel_rfl) (by kernel_rfl) (HM.drew) ?_
          iterate 12 first
            | (apply calm_pass
               · rfl
               intro K hK
               go_simp
               refine hK _ ?_
               clear hK K)
            | (apply calm_step
               · rfl
               · intro w1 h1
                 obtain ⟨q0, q1, q2⟩ := row_wds (h1.row 1 rfl) hOy
                 have d0 := h1.cell 0 0 rfl rfl
                 have d1 := h1.cell 0 1 rfl rfl
                 have d2 := h1.cell 0 2 rfl rfl
                 simp only at q0 q1 q2
                 unfold textV at q0
                 first
                   | (go_simp
                      first
                        | rfl
                        | exact ⟨rfl, h1⟩
                        | (go_at_call 57; with_reducible exact St.callPast (kc w1) h1)
                     )
               intro K hK
               go_simp
               refine hK _ ?_
               clear hK K)
          refine calm_nil ?_
          intro w5 H5
          go_wp2
          go_roundw
          case rel =>
            refine ⟨i0, r', _ :: q, by go_num, hri', by simp; omega, hq2, hI2, H5⟩
          case measure => have := hih.out; simp [intOf]; omega
        · have hres := Lib.hid (show (insP r0 ⟨xk, xf, xt⟩).reverse = (r.reverse ++ [⟨xk, xf, xt⟩]) ++ q by rw [hI.out, hins]; simp)
          have hO : r0.reverse = r.reverse ++ q := by rw [hq.out]; simp
          have hcs2 : (decide ((0 : Int) < (i : Int)) = false ∧ decide (0 < i) = false) ∨ (∃ y i0, r.reverse[i0]? = some y ∧ i0 + 1 = i ∧ ¬ Wd.place ⟨xk, xf, xt⟩ y < 0) := by
            cases r with
            | nil => exact .inl ⟨by simp at hri ⊢; omega, by simp at hri ⊢; omega⟩
            | cons y r => exact .inr ⟨y, r.length, by simp, by simpa using hri, hst y r rfl⟩
          have hOh := Lib.hid hO
          clear hst hins hI hq hO
          obtain ⟨O, hO⟩ : ∃ O, r0.reverse = O := ⟨_, rfl⟩
          simp only [hO] at HM hOh ⊢
          have hOl : O.length = k := by rw [← hO, List.length_reverse, hr0l]
          have hrh := Lib.hid (show r.reverse.length = i by rw [List.length_reverse, hri])
          have hn2 := Lib.hid (show (srtP (l.take (k + 1))).reverse = (r.reverse ++ [⟨xk, xf, xt⟩]) ++ q by rw [hn.out, hres.out])
          have hn3 := Lib.hid (show (srtP (l.take (k + 1))).length = k + 1 by rw [srtP_len, List.length_take]; omega)
          clear hO hres hri
          obtain ⟨P, hP⟩ : ∃ P, r.reverse = P := ⟨_, rfl⟩
          rw [hP] at hOh hcs2 hrh hn2
          clear hP hn hr0l
          have hcs3 : (oa = none ∧ decide ((0 : Int) < (i : Int)) = false ∧ decide (0 < i) = false) ∨ (∃ g, oa = some ⟨g, 0, none⟩ ∧ decide ((0 : Int) < (i : Int)) = false ∧ decide (0 < i) = false) ∨ (∃ y i0, P[i0]? = some y ∧ i0 + 1 = i ∧ ¬ Wd.place ⟨xk, xf, xt⟩ y < 0) := by
            rcases hcs2 with ⟨z1, z3⟩ | h
            · rcases hobh.out with h | ⟨g, h⟩
              · exact .inl ⟨h, z1, z3⟩
              · exact .inr (.inl ⟨g, h, z1, z3⟩)
            · exact .inr (.inr h)
          clear hcs2
          rcases hcs3 with ⟨rfl, z1, z3⟩ | ⟨go, rfl, z1, z3⟩ | ⟨y, i0, hy, hi, hlt2⟩
          case' inr.inl =>
            have hk0 : k = 0 := by
              by_cases h : k = 0
              · exact h
              · obtain ⟨g, h2⟩ := hoa h
                exact absurd h2 (by simp)
            have hk0h := Lib.hid hk0
            clear hk0
            go_upto_region 6 with (fail)
            refine wp_calm (fun w' => St (fun _ => False) w w' [Blk xb #[.string ⟨xk.toArray⟩, .int .i64 xf, .int .i64 xt] 41, Row 41 3 (.slice none k oc) k (wds O)]) (by kernel_rfl) (by kernel_rfl) (HM.drew) ?_
            iterate 12 first
              | (apply calm_pass
                 · rfl
                 intro K hK
                 go_simp
                 refine hK _ ?_
                 clear hK K)
              | (apply calm_step
                 · rfl
                 · intro w1 h1
                   first
                     | (go_simp
                        first
                          | rfl
                          | exact ⟨rfl, h1⟩
                       )
                 intro K hK
                 go_simp
                 refine hK _ ?_
                 clear hK K)
            refine calm_nil ?_
            intro w5 H5
            go_upto_region 8 with (fail)
          case' inr.inr.inl =>
            go_upto_region 6 with (fail)
            refine wp_calm (fun w' => St (fun _ => False) w w' [Blk xb #[.string ⟨xk.toArray⟩, .int .i64 xf, .int .i64 xt] 41, Row 41 3 (.slice (some ⟨go, 0, none⟩) k oc) k (wds O)]) (by kernel_rfl) (by kernel_rfl) (HM.drew) ?_
            iterate 12 first
              | (apply calm_pass
                 · rfl
                 intro K hK
                 go_simp
                 refine hK _ ?_
                 clear hK K)
              | (apply calm_step
                 · rfl
                 · intro w1 h1
                   first
                     | (go_simp
                        first
                          | rfl
                          | exact ⟨rfl, h1⟩
                       )
                 intro K hK
                 go_simp
                 refine hK _ ?_
                 clear hK K)
            refine calm_nil ?_
            intro w5 H5
            go_upto_region 8 with (fail)
          case' inr.inr.inr =>
            obtain ⟨go, rfl⟩ := hoa (by omega)
            have hOy : O[i0]? = some y := by rw [hOh.out, List.getElem?_append_left (by rw [hrh.out]; omega)]; exact hy
            have wi : IntKind.i64.wrap ((i : Int) - 1) = (i0 : Int) := by rw [IntKind.wrap_i64]; omega
            have z1 : decide ((0 : Int) < (i : Int)) = true := by simp; omega
            have z3 : decide (0 < i) = true := by simp; omega
            have z2 : (i0 : Int) < (k : Int) := by omega
            have z2' : i0 < k := by omega
            clear hi hy
            have kc := kp y
            obtain ⟨P', hP'⟩ : ∃ P', Wd.place ⟨xk, xf, xt⟩ y = P' := ⟨_, rfl⟩
            rw [hP'] at kc hlt2
            clear hP'
            obtain ⟨yk, yf, yt⟩ := y
            unfold wdV wdC textV at kc
            simp only at kc
            go_upto_region 6 with (fail)
            refine wp_calm (fun w' => St (fun _ => False) w w' [Blk xb #[.string ⟨xk.toArray⟩, .int .i64 xf, .int .i64 xt] 41, Row 41 3 (.slice (some ⟨go, 0, none⟩) k oc) k (wds O)]) (by kernel_rfl) (by kernel_rfl) (HM.drew) ?_
            iterate 12 first
              | (apply calm_pass
                 · rfl
                 intro K hK
                 go_simp
                 refine hK _ ?_
                 clear hK K)
              | (apply calm_step
                 · rfl
                 · intro w1 h1
                   obtain ⟨q0, q1, q2⟩ := row_wds (h1.row 1 rfl) hOy
                   have d0 := h1.cell 0 0 rfl rfl
                   have d1 := h1.cell 0 1 rfl rfl
                   have d2 := h1.cell 0 2 rfl rfl
                   simp only at q0 q1 q2
                   unfold textV at q0
                   first
                     | (go_simp
                        first
                          | rfl
                          | exact ⟨rfl, h1⟩
                          | (go_at_call 57; with_reducible exact St.callPast (kc w1) h1)
                       )
                 intro K hK
                 go_simp
                 refine hK _ ?_
                 clear hK K)
            refine calm_nil ?_
            intro w5 H5
            go_upto_region 8 with (fail)
          all_goals
            have hio : (i : Int) ≤ (oc : Int) := by omega
            have hio' : i ≤ oc := by omega
            have hik : (i : Int) ≤ (k : Int) := by omega
            have hik' : i ≤ k := by omega
            have HB : St (fun _ => False) w _ [_, _, _] := H5.allocAt rfl #[] 41
            have HB := HB.blk_row 0 (e := 41) (size := 3) (cap := 0) (n := 0) (cs := []) (xs := wds []) rfl (Nat.le_refl _) (Nat.zero_le _) rfl rfl
            have hip := hrh.out
            have hlP : (wds P).length = i * 3 := by rw [wds_len, hip]
            clear hip
            have HB : St (fun _ => False) w (w5.alloc (.cells #[] 41)) [_, _, _] := HB
            go_upto_region 9 with (at_builtin; go_must (refine St.list_add HB 0 rfl rfl (.tmp 30) (.tmp 33) 39 rfl Try.underlying39 Try.info41 (by decide) rfl (wds P) rfl hlP (by first | (intro h; cases h; done) | (intro _; have := hk0h.out; omega)) (by first | (intro ad h; simp at h; done) | (intro ad h jj u hu; cases h; have h0 := (row_partW (HB.row 2 rfl) hOh.out hrh.out).1 jj u hu; rw [← Nat.zero_add jj] at h0; rw [Addr.add_mid]; exact h0)) (wds_one1 _) (by omega) ?_; intro v7 w7 H7 hz7))
            have H7 : St (fun _ => False) w w7 [_, _, _] := H7
            rw [Nat.zero_add] at H7
            have d0 := H7.cell 1 0 rfl rfl
            have d1 := H7.cell 1 1 rfl rfl
            have d2 := H7.cell 1 2 rfl rfl
            go_upto_region 10 with (at_builtin; go_must (refine St.list_app (H7.skip _) 0 rfl rfl (.tmp 35) (.tmp 37) 39 rfl Try.underlying39 Try.info41 (by decide) rfl [.string ⟨xk.toArray⟩, .int .i64 xf, .int .i64 xt] rfl rfl (new_cells #[.string ⟨xk.toArray⟩, .int .i64 xf, .int .i64 xt] _) (by simp [Value.oneCell']) (by omega) (by omega) ?_; intro g8 cap8 w8 H8 hz8))
            have H8 : St (fun _ => False) w w8 [_, _, _] := H8
            have hlq : (wds q).length = (k - i) * 3 := by rw [wds_len]; omega
            clear d0 d1 d2 H7
            go_wp2_with (at_builtin; go_must (refine St.list_add H8 0 rfl rfl (.tmp 39) (.tmp 42) 39 rfl Try.underlying39 Try.info41 (by decide) rfl (wds q) rfl hlq (by first | (intro h; split at h <;> cases h; done) | (intro _; have := hk0h.out; omega)) (by first | (intro ad h; simp at h; done) | (intro ad h jj u hu; have hlt := (List.getElem?_eq_some_iff.1 hu).1; rw [if_neg (by omega)] at h; cases h; have h0 := (row_partW (H8.row 2 rfl) hOh.out hrh.out).2 jj u hu; rw [Addr.add_mid]; exact h0)) (wds_one1 _) (by omega) ?_; intro v9 w9 H9 hz9))
            go_roundw
            case rel =>
              have H9 : St (fun _ => False) w w9 [_, _, _] := H9
              refine ⟨k + 1, srtP (l.take (k + 1)), by omega, by go_num, hn3.out, Lib.hid rfl, ?_⟩
              rw [hn2.out, wds_app, wds_app, wds_one]
              have e1 : k + 1 = i + 1 + (k - i) := by omega
              rw [e1]
              exact H9.pick [0]
            case measure => simp [intOf]; omega
    · obtain rfl : k = l.length := by omega
      rw [List.take_length] at hr0
      obtain ⟨ua, uc, rfl, _, _⟩ := slice_form' (HM.row 0 rfl)
      go_wp2
      go_ret
      rw [← hr0.out]
      exact ⟨_, rfl, HM⟩
end Go.Proofs.Ytoffcoegghigoaa
