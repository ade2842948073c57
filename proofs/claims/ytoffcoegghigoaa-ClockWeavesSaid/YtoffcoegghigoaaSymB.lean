/- slices' symMerge at items: two sorted parts become one. Condition: times within bounds, so many items. -/
import Derived.Test.YtoffcoegghigoaaSymA
namespace Go.Proofs.Ytoffcoegghigoaa
open Go.RowKit

/-! Times by places. -/
def tmA (L : List Itm) (k : Nat) : Int := (L.map Itm.time).getD k 0
theorem tmA_of {L : List Itm} {k : Nat} {x : Itm} (h : L[k]? = some x) : tmA L k = x.time := by simp [tmA, List.getD, h]
theorem asc_at {L : List Itm} (h : Asc L) {i j : Nat} {x y : Itm} (hij : i ≤ j) (hx : L[i]? = some x) (hy : L[j]? = some y) : x.time ≤ y.time := by
  rcases Nat.eq_or_lt_of_le hij with rfl | hlt
  · rw [hx] at hy
    obtain rfl := Option.some.inj hy
    exact Int.le_refl _
  · obtain ⟨hi, rfl⟩ := List.getElem?_eq_some_iff.1 hx
    obtain ⟨hj, rfl⟩ := List.getElem?_eq_some_iff.1 hy
    exact List.pairwise_iff_getElem.1 h i j hi hj hlt
theorem mid_get {A U E : List Itm} {a m k : Nat} (hA : A.length = a) (hU : a + U.length = m) (h1 : a ≤ k) (h2 : k < m) : (A ++ (U ++ E))[k]? = U[k - a]? := by
  rw [List.getElem?_append_right (by omega), hA, List.getElem?_append_left (by omega)]
theorem part_asc {A U E : List Itm} {a m : Nat} (hA : A.length = a) (hU : a + U.length = m) (h : Asc U) (i j : Nat) (h1 : a ≤ i) (h2 : i ≤ j) (h3 : j < m) : tmA (A ++ (U ++ E)) i ≤ tmA (A ++ (U ++ E)) j := by
  obtain ⟨x, hx⟩ : ∃ x, U[i - a]? = some x := ⟨_, List.getElem?_eq_getElem (by omega)⟩
  obtain ⟨y, hy⟩ : ∃ y, U[j - a]? = some y := ⟨_, List.getElem?_eq_getElem (by omega)⟩
  rw [tmA_of (x := x) (by rw [mid_get hA hU h1 (by omega)]; exact hx), tmA_of (x := y) (by rw [mid_get hA hU (by omega) h3]; exact hy)]
  exact asc_at h (by omega) hx hy
theorem part_take {A U E : List Itm} {a m s : Nat} (hA : A.length = a) (hU : a + U.length = m) {x : Itm} (hx : x ∈ U.take (s - a)) : ∃ k, a ≤ k ∧ k < s ∧ k < m ∧ tmA (A ++ (U ++ E)) k = x.time := by
  obtain ⟨i, hi, rfl⟩ := List.mem_iff_getElem.1 hx
  rw [List.length_take] at hi
  refine ⟨a + i, by omega, by omega, by omega, tmA_of ?_⟩
  rw [mid_get hA hU (by omega) (by omega), show a + i - a = i by omega, List.getElem_take]
  exact List.getElem?_eq_getElem (by omega)
theorem part_drop {A U E : List Itm} {a m s : Nat} (hA : A.length = a) (hU : a + U.length = m) (hs : a ≤ s) {x : Itm} (hx : x ∈ U.drop (s - a)) : ∃ k, s ≤ k ∧ k < m ∧ tmA (A ++ (U ++ E)) k = x.time := by
  obtain ⟨i, hi, rfl⟩ := List.mem_iff_getElem.1 hx
  rw [List.length_drop] at hi
  refine ⟨s + i, by omega, by omega, tmA_of ?_⟩
  rw [mid_get hA hU (by omega) (by omega), show s + i - a = s - a + i by omega, List.getElem_drop]
  exact List.getElem?_eq_getElem (by omega)
theorem swap2 {B E : List Itm} {k : Nat} (x y : Itm) (hB : B.length = k) :
    (B ++ (x :: y :: E))[k]? = some x ∧ (B ++ (x :: y :: E))[k + 1]? = some y ∧ ((B ++ (x :: y :: E)).set k y).set (k + 1) x = B ++ (y :: x :: E) ∧ ((B ++ (x :: y :: E)).set (k + 1) x).set k y = B ++ (y :: x :: E) := by
  subst hB
  have e1 : ∀ (l : List Itm), (B ++ l)[B.length + 1]? = l[1]? := fun l => by rw [List.getElem?_append_right (by omega), show B.length + 1 - B.length = 1 by omega]
  have e2 : ∀ (l : List Itm) (z : Itm), (B ++ l).set (B.length + 1) z = B ++ l.set 1 z := fun l z => by rw [List.set_append_right _ _ (by omega), show B.length + 1 - B.length = 1 by omega]
  have e3 : ∀ (l : List Itm) (z : Itm), (B ++ l).set B.length z = B ++ l.set 0 z := fun l z => by rw [List.set_append_right _ _ (by omega), Nat.sub_self]
  refine ⟨by simp, by rw [e1]; rfl, ?_, ?_⟩
  · rw [e3, e2]; rfl
  · rw [e2, e3]; rfl
def SymOK (n cap g : Nat) (R : List Value) (a m b : Nat) : Prop := ∀ (A U V D : List Itm) (w : World) (S : Nat → Prop), A.length = a → a + U.length = m → m + V.length = b → b + D.length = n →
  (∀ z ∈ A ++ (U ++ (V ++ D)), z.mild) → Asc U → Asc V → Sep w [Blk g (itms (A ++ (U ++ (V ++ D))) ++ R).toArray 85] S →
  Calls Try.prog 94 #[.slice (some ⟨g, 0, none⟩) n cap, .int .i64 a, .int .i64 m, .int .i64 b, cmpV] w fun e w' => e = .returned (.tuple #[]) ∧ ∃ W, Mrg U V W ∧ St S w w' [Blk g (itms (A ++ (W ++ D)) ++ R).toArray 85]

section
attribute [local go_sem ↓] run_storeItm
set_option maxHeartbeats 8000000 in
set_option maxRecDepth 100000 in
theorem sym_one {n cap g a b : Nat} {R : List Value} (hnb : n ≤ 3518437208880) (hb : a + 1 < b) : SymOK n cap g R a (a + 1) b := by
  intro A U V D w S hA hU hV hD hm hUa hVa H
  have H0 := St.refl H
  obtain ⟨x, rfl⟩ : ∃ x, U = [x] := by
    match U, hU with
    | [x], _ => exact ⟨x, rfl⟩
    | [], h => simp at h
    | x :: y :: l, h => simp at h
  have hxm := hm x (by simp)
  obtain ⟨T, hT⟩ : ∃ T, A ++ ([x] ++ (V ++ D)) = T := ⟨_, rfl⟩
  have hTl : T.length = n := by rw [← hT]; simp at hU ⊢; omega
  have hTx : T[a]? = some x := by rw [← hT, mid_get hA hU (Nat.le_refl _) (by omega), Nat.sub_self]; rfl
  have hTV : T = (A ++ [x]) ++ (V ++ D) := by rw [← hT]; simp
  have hA1 : (A ++ [x]).length = a + 1 := by simp [hA]
  have hfin : Hid (∀ i, a + 1 ≤ i → i ≤ b → (∀ k, a + 1 ≤ k → k < i → tmA T k < x.time) → (∀ k, i ≤ k → k < b → x.time ≤ tmA T k) → Mrg [x] V (V.take (i - (a + 1)) ++ (x :: V.drop (i - (a + 1))))) := Lib.hid (by
    intro i h1 h2 h3 h4
    have hmr := mrg_one (x := x) (V1 := V.take (i - (a + 1))) (V2 := V.drop (i - (a + 1))) (by rw [List.take_append_drop]; exact hVa) (fun v hv => by
      obtain ⟨k, k1, k2, k3, k4⟩ := part_take (E := D) hA1 hV hv
      rw [← hTV] at k4
      rw [← k4]
      exact h3 k k1 k2) (fun v hv => by
      obtain ⟨k, k1, k2, k4⟩ := part_drop (E := D) hA1 hV h1 hv
      rw [← hTV] at k4
      rw [← k4]
      have := h4 k k1 k2
      omega)
    rwa [List.take_append_drop] at hmr)
  have hmono : Hid (∀ i j, a + 1 ≤ i → i ≤ j → j < b → tmA T i ≤ tmA T j) := Lib.hid (by rw [hTV]; exact part_asc hA1 hV hVa)
  have hTm : ∀ z ∈ T, z.mild := by rw [← hT]; exact hm
  have hT0 := Lib.hid (show T = A ++ ([] ++ (x :: (V ++ D))) by rw [← hT]; rfl)
  rw [hT] at H0
  have wa : IntKind.i64.wrap (((a + 1 : Nat) : Int) - (a : Int)) = 1 := by rw [IntKind.wrap_i64]; omega
  obtain ⟨m, hmm⟩ : ∃ m, a + 1 = m := ⟨_, rfl⟩
  rw [hmm] at wa hfin hmono hb hV ⊢
  have ham : a < m := by omega
  have hbn : b ≤ n := by omega
  clear hT hTV hA1 hm hUa hVa H hU
  unfold cmpV
  go_enter Try.func94, Try.ntmps94
  go_upto_block 1 with (fail)
  go_loopw [10, 11, 12] (fun s u _ wr => ∃ (i j : Nat), s = .int .i64 i ∧ u = .int .i64 j ∧ m ≤ i ∧ i ≤ j ∧ j ≤ b ∧ Hid ((∀ k, m ≤ k → k < i → tmA T k < x.time) ∧ (∀ k, j ≤ k → k < b → x.time ≤ tmA T k)) ∧ St S w wr [Blk g (itms T ++ R).toArray 85]) (fun s u _ _ => (intOf u).toNat - (intOf s).toNat)
  case atStart => exact ⟨m, b, rfl, rfl, Nat.le_refl _, by omega, Nat.le_refl _, Lib.hid ⟨fun k h1 h2 => by omega, fun k h1 h2 => by omega⟩, H0⟩
  case round =>
    clear H0
    obtain ⟨i, j, rfl, rfl, hmi, hij, hjb, hI, HM⟩ := hrel
    by_cases hlt : i < j
    · have hhlt : i ≤ (i + j) / 2 ∧ (i + j) / 2 < j := by omega
      have wh : ((i : Int) + (j : Int)) / 2 = (((i + j) / 2 : Nat) : Int) := by omega
      obtain ⟨h, hh⟩ : ∃ h, (i + j) / 2 = h := ⟨_, rfl⟩
      rw [hh] at hhlt wh
      obtain ⟨z, hz⟩ : ∃ z, T[h]? = some z := ⟨_, List.getElem?_eq_getElem (by omega)⟩
      have kc := clk_cmp z x (hTm z (List.mem_of_getElem? hz)) hxm
      have hzt := Lib.hid (tmA_of hz)
      have hhn : (h : Int) < (n : Int) := by omega
      have hhn' : h < n := by omega
      have han : (a : Int) < (n : Int) := by omega
      have han' : a < n := by omega
      have hhh := Lib.hid hh
      clear hh hfin hT0
      obtain ⟨xk, xy, xt, xv⟩ := x
      obtain ⟨zk, zy, zt, zv⟩ := z
      unfold itmV textV at kc
      simp only at kc hzt hI
      go_upto_region 5 with (fail)
      refine wp_calm (fun w' => St S w w' [Blk g (itms T ++ R).toArray 85]) (by kernel_rfl) (by kernel_rfl) (HM.drew) ?_
      iterate 11 first
        | (apply calm_pass
           · rfl
           intro K hK
           go_simp
           refine hK _ ?_
           clear hK K)
        | (apply calm_step
           · rfl
           · intro w1 h1
             obtain ⟨q0, q1, q2, q3⟩ := blk_itms (h1.blk 0 rfl) hz
             obtain ⟨p0, p1, p2, p3⟩ := blk_itms (h1.blk 0 rfl) hTx
             unfold textV at q1 p1
             simp only at q0 q1 q2 q3 p0 p1 p2 p3
             first
               | (go_simp
                  first
                    | rfl
                    | exact ⟨rfl, h1⟩
                    | (go_at_call 67; with_reducible exact St.callPast (kc w1) h1)
                 )
           intro K hK
           go_simp
           refine hK _ ?_
           clear hK K)
      refine calm_nil ?_
      intro w2 H2
      clear kc HM
      by_cases hlt2 : zt < xt
      · have e3 : zt - xt < 0 := by omega
        go_wp2
        go_roundw
        case rel =>
          refine ⟨h + 1, j, by go_num, rfl, by omega, by omega, hjb, Lib.hid ⟨fun k h1 h2 => ?_, hI.out.2⟩, H2⟩
          have := hmono.out k h h1 (by omega) (by omega)
          have := hzt.out
          omega
        case measure => simp [intOf]; omega
      · have e3 : ¬ (zt - xt < 0) := by omega
        go_wp2
        go_roundw
        case rel =>
          refine ⟨i, h, rfl, by go_num, hmi, by omega, by omega, Lib.hid ⟨hI.out.1, fun k h1 h2 => ?_⟩, H2⟩
          have := hmono.out h k (by omega) h1 h2
          have := hzt.out
          omega
        case measure => simp [intOf]; omega
    · obtain rfl : i = j := by omega
      have hW := Lib.hid (hfin.out i hmi hjb hI.out.1 hI.out.2)
      have hT2 := Lib.hid (show T = A ++ ([] ++ (x :: (V.take (i - m) ++ (V.drop (i - m) ++ D)))) by rw [← List.append_assoc (V.take _), List.take_append_drop]; exact hT0.out)
      have hl1 : (V.take (i - m)).length = i - m := by rw [List.length_take]; omega
      obtain ⟨V1, hV1⟩ : ∃ V1, V.take (i - m) = V1 := ⟨_, rfl⟩
      obtain ⟨V2, hV2⟩ : ∃ V2, V.drop (i - m) = V2 := ⟨_, rfl⟩
      rw [hV1] at hW hT2 hl1
      rw [hV2] at hW hT2
      have wi : IntKind.i64.wrap ((i : Int) - 1) = ((i - 1 : Nat) : Int) := by rw [IntKind.wrap_i64]; omega
      obtain ⟨i1, hi1⟩ : ∃ i1, i - 1 = i1 := ⟨_, rfl⟩
      rw [hi1] at wi
      rw [hT2.out] at HM
      have hi1n : i1 < n := by omega
      have hl1 : a + V1.length = i1 := by omega
      clear hV1 hV2 hI hmono hfin hTm hT0 hxm hTx hTl hT2
      go_upto_block 3 with (fail)
      go_loopw [13] (fun s wr => ∃ (k : Nat) (P Q : List Itm), s = .int .i64 k ∧ a + P.length = k ∧ k ≤ i1 ∧ Hid (V1 = P ++ Q) ∧ St S w wr [Blk g (itms (A ++ (P ++ (x :: (Q ++ (V2 ++ D))))) ++ R).toArray 85]) (fun s _ => i1 - (intOf s).toNat)
      case atStart => exact ⟨a, [], V1, rfl, by simp, by omega, Lib.hid rfl, HM⟩
      case round =>
        clear HM
        obtain ⟨k, P, Q, rfl, hPk, hk, hPQ, HM⟩ := hrel
        have hPQl : P.length + Q.length = V1.length := by rw [hPQ.out, List.length_append]
        cases Q with
        | cons y Q =>
          have hki : k < i1 := by simp at hPQl; omega
          have s := swap2 (B := A ++ P) (E := Q ++ (V2 ++ D)) (k := k) x y (by rw [List.length_append]; omega)
          have eT : (A ++ P) ++ (x :: y :: (Q ++ (V2 ++ D))) = A ++ (P ++ (x :: (y :: Q ++ (V2 ++ D)))) := by simp
          have eN := Lib.hid (show (A ++ P) ++ (y :: x :: (Q ++ (V2 ++ D))) = A ++ ((P ++ [y]) ++ (x :: (Q ++ (V2 ++ D)))) by simp)
          rw [eT] at s
          obtain ⟨s1, s2, s3, _⟩ := s
          rw [eN.out] at s3
          have s3h := Lib.hid s3
          obtain ⟨T', hT'⟩ : ∃ T', A ++ (P ++ (x :: (y :: Q ++ (V2 ++ D)))) = T' := ⟨_, rfl⟩
          rw [hT'] at HM s1 s2 s3h
          clear hT' eT s3 eN
          have hPQ2 := Lib.hid (show V1 = (P ++ [y]) ++ Q by rw [hPQ.out]; simp)
          obtain ⟨xk, xy, xt, xv⟩ := x
          obtain ⟨yk, yy, yt, yv⟩ := y
          obtain ⟨⟨q0, q1, q2, q3⟩, ⟨p0, p1, p2, p3⟩, m1, m2, H4⟩ := swap_pack HM s1 s2
          have a1 := itm_one1 xk xy xt xv
          have a2 := itm_one1 yk yy yt yv
          have hP1 : a + (P ++ [(⟨yk, yy, yt, yv⟩ : Itm)]).length = k + 1 := by simp; omega
          obtain ⟨k1, hk1⟩ : ∃ k1, k + 1 = k1 := ⟨_, rfl⟩
          rw [hk1] at p0 p1 p2 p3 m2 H4 s3h hP1
          have wk : IntKind.i64.wrap ((k : Int) + 1) = (k1 : Int) := by rw [IntKind.wrap_i64]; omega
          have hkn : (k : Int) < (n : Int) := by omega
          have hkn' : k < n := by omega
          have hk1n : (k1 : Int) < (n : Int) := by omega
          have hk1n' : k1 < n := by omega
          have hki2 : (k : Int) < (i1 : Int) := by omega
          have hk1h := Lib.hid hk1
          clear hPQ hPQl s1 s2 HM hk1
          go_upto_region 11 with (fail)
          go_region
          clear q0 q1 q2 q3 p0 p1 p2 p3 m1 m2 a1 a2
          go_wp2
          go_roundw
          case rel =>
            have := hk1h.out
            refine ⟨k1, _, Q, by go_num, hP1, by omega, hPQ2, ?_⟩
            have H5 := H4.out
            rw [s3h.out] at H5
            exact H5
          case measure => have := hk1h.out; simp [intOf]; omega
        | nil =>
          have hki : ¬ (k : Int) < (i1 : Int) := by simp at hPQl; omega
          have hPV : P = V1 := by rw [hPQ.out, List.append_nil]
          subst hPV
          go_wp2
          refine bodyPost_ret (results_none rfl _ _ _) rfl ?_
          refine ⟨rfl, _, hW.out, ?_⟩
          simpa using HM

set_option maxHeartbeats 8000000 in
set_option maxRecDepth 100000 in
theorem sym_last {n cap g a m : Nat} {R : List Value} (hnb : n ≤ 3518437208880) (ham1 : a + 1 < m) : SymOK n cap g R a m (m + 1) := by
  intro A U V D w S hA hU hV hD hm hUa hVa H
  have H0 := St.refl H
  obtain ⟨y, rfl⟩ : ∃ y, V = [y] := by
    match V, hV with
    | [y], _ => exact ⟨y, rfl⟩
    | [], h => simp at h
    | x :: y :: l, h => simp at h
  have hym := hm y (by simp)
  obtain ⟨T, hT⟩ : ∃ T, A ++ (U ++ ([y] ++ D)) = T := ⟨_, rfl⟩
  have hTl : T.length = n := by rw [← hT]; simp; omega
  have hTy : T[m]? = some y := by rw [← hT, ← List.append_assoc, List.getElem?_append_right (by simp; omega)]; simp [hA, hU]
  have hfin : Hid (∀ i, a ≤ i → i ≤ m → (∀ k, a ≤ k → k < i → tmA T k ≤ y.time) → (∀ k, i ≤ k → k < m → y.time < tmA T k) → Mrg U [y] (U.take (i - a) ++ (y :: U.drop (i - a)))) := Lib.hid (by
    intro i h1 h2 h3 h4
    have hmr := mrg_last (y := y) (U1 := U.take (i - a)) (U2 := U.drop (i - a)) (by rw [List.take_append_drop]; exact hUa) (fun v hv => by
      obtain ⟨k, k1, k2, k3, k4⟩ := part_take (E := [y] ++ D) hA hU hv
      rw [hT] at k4
      rw [← k4]
      have := h3 k k1 k2
      omega) (fun v hv => by
      obtain ⟨k, k1, k2, k4⟩ := part_drop (E := [y] ++ D) hA hU h1 hv
      rw [hT] at k4
      rw [← k4]
      exact h4 k k1 k2)
    rwa [List.take_append_drop] at hmr)
  have hmono : Hid (∀ i j, a ≤ i → i ≤ j → j < m → tmA T i ≤ tmA T j) := Lib.hid (by rw [← hT]; exact part_asc hA hU hUa)
  have hTm : ∀ z ∈ T, z.mild := by rw [← hT]; exact hm
  have hT0 := Lib.hid hT
  rw [hT] at H0
  have wa : IntKind.i64.wrap ((m : Int) - (a : Int)) = ((m - a : Nat) : Int) := by rw [IntKind.wrap_i64]; omega
  have wb : IntKind.i64.wrap (((m + 1 : Nat) : Int) - (m : Int)) = 1 := by rw [IntKind.wrap_i64]; omega
  have hma : ¬ ((m - a : Nat) : Int) = 1 := by omega
  obtain ⟨ma, hma0⟩ : ∃ ma, m - a = ma := ⟨_, rfl⟩
  rw [hma0] at wa hma
  clear hma0
  have hma2 : ((ma : Int) == 1) = false := by simp [hma]
  obtain ⟨b, hmm⟩ : ∃ b, m + 1 = b := ⟨_, rfl⟩
  rw [hmm] at wb hD ⊢
  have hmn : m < n := by omega
  clear hT hm hUa hVa H hV
  unfold cmpV
  go_enter Try.func94, Try.ntmps94
  go_upto_block 5 with (fail)
  go_loopw [14, 15, 16] (fun s u _ wr => ∃ (i j : Nat), s = .int .i64 i ∧ u = .int .i64 j ∧ a ≤ i ∧ i ≤ j ∧ j ≤ m ∧ Hid ((∀ k, a ≤ k → k < i → tmA T k ≤ y.time) ∧ (∀ k, j ≤ k → k < m → y.time < tmA T k)) ∧ St S w wr [Blk g (itms T ++ R).toArray 85]) (fun s u _ _ => (intOf u).toNat - (intOf s).toNat)
  case atStart => exact ⟨a, m, rfl, rfl, Nat.le_refl _, by omega, Nat.le_refl _, Lib.hid ⟨fun k h1 h2 => by omega, fun k h1 h2 => by omega⟩, H0⟩
  case round =>
    clear H0
    obtain ⟨i, j, rfl, rfl, hmi, hij, hjb, hI, HM⟩ := hrel
    by_cases hlt : i < j
    · have hhlt : i ≤ (i + j) / 2 ∧ (i + j) / 2 < j := by omega
      have wh : ((i : Int) + (j : Int)) / 2 = (((i + j) / 2 : Nat) : Int) := by omega
      obtain ⟨h, hh⟩ : ∃ h, (i + j) / 2 = h := ⟨_, rfl⟩
      rw [hh] at hhlt wh
      obtain ⟨z, hz⟩ : ∃ z, T[h]? = some z := ⟨_, List.getElem?_eq_getElem (by omega)⟩
      have kc := clk_cmp y z hym (hTm z (List.mem_of_getElem? hz))
      have hzt := Lib.hid (tmA_of hz)
      have hhn : (h : Int) < (n : Int) := by omega
      have hhn' : h < n := by omega
      have han : (m : Int) < (n : Int) := by omega
      have hhh := Lib.hid hh
      clear hh hfin hT0
      obtain ⟨xk, xy, xt, xv⟩ := y
      obtain ⟨zk, zy, zt, zv⟩ := z
      unfold itmV textV at kc
      simp only at kc hzt hI
      go_upto_region 17 with (fail)
      refine wp_calm (fun w' => St S w w' [Blk g (itms T ++ R).toArray 85]) (by kernel_rfl) (by kernel_rfl) (HM.drew) ?_
      iterate 12 first
        | (apply calm_pass
           · rfl
           intro K hK
           go_simp
           refine hK _ ?_
           clear hK K)
        | (apply calm_step
           · rfl
           · intro w1 h1
             obtain ⟨q0, q1, q2, q3⟩ := blk_itms (h1.blk 0 rfl) hz
             obtain ⟨p0, p1, p2, p3⟩ := blk_itms (h1.blk 0 rfl) hTy
             unfold textV at q1 p1
             simp only at q0 q1 q2 q3 p0 p1 p2 p3
             first
               | (go_simp
                  first
                    | rfl
                    | exact ⟨rfl, h1⟩
                    | (go_at_call 67; with_reducible exact St.callPast (kc w1) h1)
                 )
           intro K hK
           go_simp
           refine hK _ ?_
           clear hK K)
      refine calm_nil ?_
      intro w2 H2
      clear kc HM
      by_cases hlt2 : xt < zt
      · have e3 : (!decide (xt - zt < 0)) = false := by simp; omega
        rw [e3]
        clear e3
        go_wp2
        go_roundw
        case rel =>
          refine ⟨i, h, rfl, by go_num, hmi, by omega, by omega, Lib.hid ⟨hI.out.1, fun k h1 h2 => ?_⟩, H2⟩
          have := hmono.out h k (by omega) h1 h2
          have := hzt.out
          omega
        case measure => simp [intOf]; omega
      · have e3 : (!decide (xt - zt < 0)) = true := by simp; omega
        rw [e3]
        clear e3
        go_wp2
        go_roundw
        case rel =>
          refine ⟨h + 1, j, by go_num, rfl, by omega, by omega, hjb, Lib.hid ⟨fun k h1 h2 => ?_, hI.out.2⟩, H2⟩
          have := hmono.out k h h1 (by omega) (by omega)
          have := hzt.out
          omega
        case measure => simp [intOf]; omega
    · obtain rfl : i = j := by omega
      have hW := Lib.hid (hfin.out i hmi hjb hI.out.1 hI.out.2)
      have hl1 : a + (U.take (i - a)).length = i := by rw [List.length_take]; omega
      have hl2 : i + (U.drop (i - a)).length = m := by rw [List.length_drop]; omega
      have hU12 : U = U.take (i - a) ++ U.drop (i - a) := (List.take_append_drop _ _).symm
      obtain ⟨U1, hU1⟩ : ∃ U1, U.take (i - a) = U1 := ⟨_, rfl⟩
      obtain ⟨U2, hU2⟩ : ∃ U2, U.drop (i - a) = U2 := ⟨_, rfl⟩
      rw [hU1] at hW hU12 hl1
      rw [hU2] at hW hU12 hl2
      have hT2 : T = A ++ (U1 ++ (U2 ++ (y :: ([] ++ D)))) := by rw [← hT0.out, hU12]; simp
      rw [hT2] at HM
      clear hU1 hU2 hI hmono hfin hTm hT0 hym hTy hTl hT2 hU12 hU
      go_upto_block 7 with (fail)
      go_loopw [17] (fun s wr => ∃ (k : Nat) (P Q : List Itm), s = .int .i64 k ∧ i + P.length = k ∧ k ≤ m ∧ Hid (U2 = P ++ Q) ∧ St S w wr [Blk g (itms (A ++ (U1 ++ (P ++ (y :: (Q ++ D))))) ++ R).toArray 85]) (fun s _ => (intOf s).toNat)
      case atStart => exact ⟨m, U2, [], rfl, hl2, by omega, Lib.hid (by simp), HM⟩
      case round =>
        clear HM
        obtain ⟨k, P, Q, rfl, hPk, hk, hPQ, HM⟩ := hrel
        rcases List.eq_nil_or_concat P with rfl | ⟨P, x, rfl⟩
        · obtain rfl : k = i := by simpa using hPk.symm
          have hki : ¬ (k : Int) < (k : Int) := by omega
          have hPV : Q = U2 := by rw [hPQ.out, List.nil_append]
          subst hPV
          go_wp2
          refine bodyPost_ret (results_none rfl _ _ _) rfl ?_
          refine ⟨rfl, _, hW.out, ?_⟩
          simpa using HM
        · rw [List.concat_eq_append] at hPk hPQ HM
          obtain ⟨k0, hk0⟩ : ∃ k0, i + P.length = k0 := ⟨_, rfl⟩
          obtain rfl : k = k0 + 1 := by rw [← hPk, ← hk0]; simp; omega
          have s := swap2 (B := A ++ (U1 ++ P)) (E := Q ++ D) (k := k0) x y (by simp; omega)
          have eT : (A ++ (U1 ++ P)) ++ (x :: y :: (Q ++ D)) = A ++ (U1 ++ ((P ++ [x]) ++ (y :: (Q ++ D)))) := by simp
          have eN := Lib.hid (show (A ++ (U1 ++ P)) ++ (y :: x :: (Q ++ D)) = A ++ (U1 ++ (P ++ (y :: ((x :: Q) ++ D)))) by simp)
          rw [eT] at s
          obtain ⟨s1, s2, _, s3⟩ := s
          rw [eN.out] at s3
          have s3h := Lib.hid s3
          obtain ⟨T', hT'⟩ : ∃ T', A ++ (U1 ++ ((P ++ [x]) ++ (y :: (Q ++ D)))) = T' := ⟨_, rfl⟩
          rw [hT'] at HM s1 s2 s3h
          clear hT' eT s3 eN
          have hPQ2 := Lib.hid (show U2 = P ++ (x :: Q) by rw [hPQ.out]; simp)
          obtain ⟨xk, xy, xt, xv⟩ := x
          obtain ⟨yk, yy, yt, yv⟩ := y
          obtain ⟨⟨q0, q1, q2, q3⟩, ⟨p0, p1, p2, p3⟩, m1, m2, H4⟩ := swap_pack HM s2 s1
          have a1 := itm_one1 xk xy xt xv
          have a2 := itm_one1 yk yy yt yv
          obtain ⟨k1, hk1⟩ : ∃ k1, k0 + 1 = k1 := ⟨_, rfl⟩
          have hk0h := Lib.hid hk0
          rw [hk1] at q0 q1 q2 q3 m1 m2 H4 s3h hk ⊢
          have wk : IntKind.i64.wrap ((k1 : Int) - 1) = (k0 : Int) := by rw [IntKind.wrap_i64]; omega
          have hkn : (k0 : Int) < (n : Int) := by omega
          have hkn' : k0 < n := by omega
          have hk1n : (k1 : Int) < (n : Int) := by omega
          have hk1n' : k1 < n := by omega
          have hki2 : (i : Int) < (k1 : Int) := by omega
          have hk1h := Lib.hid hk1
          clear hPQ hPk s1 s2 HM hk1 hk0
          go_upto_region 23 with (fail)
          go_region
          clear q0 q1 q2 q3 p0 p1 p2 p3 m1 m2 a1 a2
          go_wp2
          go_roundw
          case rel =>
            have := hk1h.out
            refine ⟨k0, P, _, by go_num, hk0h.out, by omega, hPQ2, ?_⟩
            have H5 := H4.out
            rw [s3h.out] at H5
            exact H5
          case measure => have := hk1h.out; simp [intOf]; omega
end
end Go.Proofs.Ytoffcoegghigoaa
