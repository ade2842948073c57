/- slices' symMerge at items, in general. Condition: times within bounds, so many items. -/
import Derived.Test.YtoffcoegghigoaaSymB
namespace Go.Proofs.Ytoffcoegghigoaa
open Go.RowKit

theorem sym_fin {A U V D T : List Itm} {a m b s e mid lo hi nn p : Nat} (hA : A.length = a) (hU : a + U.length = m) (hV : m + V.length = b) (hUa : Asc U) (hVa : Asc V) (hT : A ++ (U ++ (V ++ D)) = T)
    (hlo : a ≤ lo) (h1 : lo ≤ s) (h2 : s ≤ hi) (hhi : hi ≤ m) (hnn : mid + m = nn) (hpp : p + 1 = nn) (he : s + e = nn) (hlo0 : lo = a ∨ lo + b = nn) (hhi0 : hi = m ∨ hi = mid) (hem : m ≤ e) (heb : e ≤ b)
    (i1 : ∀ k, lo ≤ k → k < s → tmA T k ≤ tmA T (p - k)) (i2 : ∀ k, s ≤ k → k < hi → tmA T (p - k) < tmA T k)
    {W1 W2 : List Itm} (g1 : Mrg (U.take (s - a)) (V.take (e - m)) W1) (g2 : Mrg (U.drop (s - a)) (V.drop (e - m)) W2) : Mrg U V (W1 ++ W2) := by
  have hA1 : (A ++ U).length = m := by rw [List.length_append]; omega
  have hT1 : (A ++ U) ++ (V ++ D) = T := by rw [← hT, List.append_assoc]
  have u1 : U.take (s - a) ++ U.drop (s - a) = U := List.take_append_drop _ _
  have v1 : V.take (e - m) ++ V.drop (e - m) = V := List.take_append_drop _ _
  have mU := part_asc (E := V ++ D) hA hU hUa
  have mV := part_asc (E := D) hA1 hV hVa
  rw [hT] at mU
  rw [hT1] at mV
  have key := mrg_two (U1 := U.take (s - a)) (U2 := U.drop (s - a)) (V1 := V.take (e - m)) (V2 := V.drop (e - m)) (W1 := W1) (W2 := W2) (by rw [u1]; exact hUa) (by rw [v1]; exact hVa) (fun x hx y hy => by
    obtain ⟨k, k1, k2, k3⟩ := part_drop (E := V ++ D) hA hU (by omega) hx
    obtain ⟨j, j1, j2, j3, j4⟩ := part_take (E := D) hA1 hV hy
    rw [hT] at k3
    rw [hT1] at j4
    rw [← k3, ← j4]
    have hsh : s < hi := by omega
    have q1 := i2 s (Nat.le_refl _) hsh
    have q2 := mU s k (by omega) k1 k2
    have q3 := mV j (p - s) j1 (by omega) (by omega)
    omega) (fun x hx y hy => by
    obtain ⟨k, k1, k2, k3, k4⟩ := part_take (E := V ++ D) hA hU hx
    obtain ⟨j, j1, j2, j3⟩ := part_drop (E := D) hA1 hV (by omega) hy
    rw [hT] at k4
    rw [hT1] at j3
    rw [← k4, ← j3]
    have hsh : lo < s := by omega
    have q1 := i1 (s - 1) (by omega) (by omega)
    have q2 := mU k (s - 1) k1 (by omega) (by omega)
    have q3 := mV (p - (s - 1)) j (by omega) (by omega) (by omega)
    omega) g1 g2
  rwa [u1, v1] at key
theorem or_three {p q r s : Prop} (h : p ∨ q ∨ r) (h1 : p → s) (h2 : q → s) (h3 : r → s) : s := by
  rcases h with h | h | h
  · exact h1 h
  · exact h2 h
  · exact h3 h
theorem mild_turn {A U V D U1 U2 V1 V2 : List Itm} (h : ∀ z ∈ A ++ (U ++ (V ++ D)), z.mild) (hU : U1 ++ U2 = U) (hV : V1 ++ V2 = V) : ∀ z ∈ A ++ (U1 ++ (V1 ++ (U2 ++ (V2 ++ D)))), z.mild := by
  subst hU hV
  intro z hz
  refine h z ?_
  simp only [List.mem_append] at hz ⊢
  rcases hz with hz | hz | hz | hz | hz | hz <;> simp [hz]
theorem mild_mrg {A U V W E : List Itm} (h : ∀ z ∈ A ++ (U ++ (V ++ E)), z.mild) (g : Mrg U V W) : ∀ z ∈ A ++ (W ++ E), z.mild := by
  intro z hz
  refine h z ?_
  rcases List.mem_append.1 hz with hz | hz
  · exact List.mem_append_left _ hz
  · refine List.mem_append_right _ ?_
    rw [← List.append_assoc]
    rcases List.mem_append.1 hz with hz | hz
    · exact List.mem_append_left _ (g.2.1.mem_iff.1 hz)
    · exact List.mem_append_right _ hz

section
attribute [local go_sem ↓] run_storeItm
set_option maxHeartbeats 16000000 in
set_option maxRecDepth 100000 in
theorem sym_gen {n cap g a m b : Nat} {R : List Value} (hnb : n ≤ 3518437208880) (ham : a + 1 < m) (hmb : m + 1 < b)
    (ih : ∀ a' m' b', b' - a' < b - a → a' < m' → m' < b' → SymOK n cap g R a' m' b') : SymOK n cap g R a m b := by
  intro A U V D w S hA hU hV hD hm hUa hVa H
  have H0 := St.refl H
  obtain ⟨T, hT⟩ : ∃ T, A ++ (U ++ (V ++ D)) = T := ⟨_, rfl⟩
  have hTl : T.length = n := by rw [← hT]; simp; omega
  have hTm : ∀ z ∈ T, z.mild := by rw [← hT]; exact hm
  rw [hT] at H0
  -- the numbers
  have wm0 : ((a : Int) + (b : Int)) / 2 = (((a + b) / 2 : Nat) : Int) := by omega
  obtain ⟨mid, hmid⟩ : ∃ mid, (a + b) / 2 = mid := ⟨_, rfl⟩
  rw [hmid] at wm0
  have wn0 : IntKind.i64.wrap ((mid : Int) + (m : Int)) = ((mid + m : Nat) : Int) := by rw [IntKind.wrap_i64]; omega
  obtain ⟨nn, hnn⟩ : ∃ nn, mid + m = nn := ⟨_, rfl⟩
  rw [hnn] at wn0
  have wp0 : IntKind.i64.wrap ((nn : Int) - 1) = ((nn - 1 : Nat) : Int) := by rw [IntKind.wrap_i64]; omega
  obtain ⟨p, hp⟩ : ∃ p, nn - 1 = p := ⟨_, rfl⟩
  rw [hp] at wp0
  have hpp : p + 1 = nn := by omega
  have wa : IntKind.i64.wrap ((m : Int) - (a : Int)) = ((m - a : Nat) : Int) := by rw [IntKind.wrap_i64]; omega
  have wb : IntKind.i64.wrap ((b : Int) - (m : Int)) = ((b - m : Nat) : Int) := by rw [IntKind.wrap_i64]; omega
  have hma : ¬ ((m - a : Nat) : Int) = 1 := by omega
  have hbm : ¬ ((b - m : Nat) : Int) = 1 := by omega
  obtain ⟨ma, hma0⟩ : ∃ ma, m - a = ma := ⟨_, rfl⟩
  obtain ⟨bm, hbm0⟩ : ∃ bm, b - m = bm := ⟨_, rfl⟩
  rw [hma0] at wa hma
  rw [hbm0] at wb hbm
  have hma2 : ((ma : Int) == 1) = false := by simp [hma]
  have hbm2 : ((bm : Int) == 1) = false := by simp [hbm]
  obtain ⟨lo, hi, hlo, hlh, hhi, hhm, hlo0, hhi0, hpc, hgt⟩ : ∃ lo hi, a ≤ lo ∧ lo ≤ hi ∧ hi ≤ m ∧ hi ≤ mid ∧ (lo = a ∨ lo + b = nn) ∧ (hi = m ∨ hi = mid) ∧ (nn ≤ lo + b ∧ hi ≤ mid) ∧ ((mid < m ∧ lo + b = nn ∧ mid = hi) ∨ (m ≤ mid ∧ a = lo ∧ m = hi)) := by
    by_cases h : mid < m
    · exact ⟨nn - b, mid, by omega, by omega, by omega, by omega, by omega, by omega, by omega, Or.inl ⟨h, by omega, rfl⟩⟩
    · exact ⟨a, m, by omega, by omega, by omega, by omega, by omega, by omega, by omega, Or.inr ⟨by omega, rfl, rfl⟩⟩
  have hab : a < mid ∧ mid + 1 < b := by omega
  have hfin : Hid (∀ (s e : Nat), lo ≤ s → s ≤ hi → s + e = nn → m ≤ e → e ≤ b → (∀ k, lo ≤ k → k < s → tmA T k ≤ tmA T (p - k)) → (∀ k, s ≤ k → k < hi → tmA T (p - k) < tmA T k) →
      ∃ (U1 U2 V1 V2 : List Itm), a + U1.length = s ∧ s + U2.length = m ∧ m + V1.length = e ∧ e + V2.length = b ∧ Hid (U1 ++ U2 = U) ∧ Hid (V1 ++ V2 = V) ∧ Asc U1 ∧ Asc U2 ∧ Asc V1 ∧ Asc V2 ∧ Hid (∀ W1 W2, Mrg U1 V1 W1 → Mrg U2 V2 W2 → Mrg U V (W1 ++ W2))) := Lib.hid (by
    intro s e h1 h2 he hme heb i1 i2
    exact ⟨U.take (s - a), U.drop (s - a), V.take (e - m), V.drop (e - m), by rw [List.length_take]; omega, by rw [List.length_drop]; omega, by rw [List.length_take]; omega, by rw [List.length_drop]; omega,
      Lib.hid (List.take_append_drop _ _), Lib.hid (List.take_append_drop _ _), hUa.take _, hUa.drop _, hVa.take _, hVa.drop _, Lib.hid fun W1 W2 g1 g2 => sym_fin hA hU hV hUa hVa hT hlo h1 h2 hhi hnn hpp he hlo0 hhi0 hme heb i1 i2 g1 g2⟩)
  have hmU : Hid (∀ i j, a ≤ i → i ≤ j → j < m → tmA T i ≤ tmA T j) := Lib.hid (by rw [← hT]; exact part_asc hA hU hUa)
  have hmV : Hid (∀ i j, m ≤ i → i ≤ j → j < b → tmA T i ≤ tmA T j) := Lib.hid (by
    rw [← hT, ← List.append_assoc]
    exact part_asc (by rw [List.length_append]; omega) hV hVa)
  have hTh := Lib.hid hT
  have ihh := Lib.hid ih
  have hids := Lib.hid (And.intro hmid (And.intro hnn (And.intro hlo0 hhi0)))
  have hbn : b ≤ n := by omega
  have hn4 : m + mid ≤ p + 1 ∧ p + 1 ≤ m + mid := by omega
  clear hT hUa hVa H hmid hnn hp hma0 hbm0 hlo0 hhi0 ih
  unfold cmpV
  go_enter Try.func94, Try.ntmps94
  rcases hgt with ⟨hg, hl2, hh2⟩ | ⟨hg, hl2, hh2⟩
  case' inl =>
    have wl : IntKind.i64.wrap ((nn : Int) - (b : Int)) = (lo : Int) := by rw [IntKind.wrap_i64]; omega
    have hg2 : (mid : Int) < (m : Int) := by omega
    have hl2h := Lib.hid (rfl : lo = lo)
    have hh2h := Lib.hid hh2
    clear hl2 hh2
    go_upto_block 9 with (fail)
  case' inr =>
    have hg2 : ¬ (mid : Int) < (m : Int) := by omega
    have hl2h := Lib.hid hl2
    have hh2h := Lib.hid hh2
    clear hl2 hh2
    go_upto_block 9 with (fail)
  all_goals
    go_loopw [20, 21, 23] (fun s u _ wr => ∃ (i j : Nat), s = .int .i64 i ∧ u = .int .i64 j ∧ lo ≤ i ∧ i ≤ j ∧ j ≤ hi ∧ Hid ((∀ k, lo ≤ k → k < i → tmA T k ≤ tmA T (p - k)) ∧ (∀ k, j ≤ k → k < hi → tmA T (p - k) < tmA T k)) ∧ St S w wr [Blk g (itms T ++ R).toArray 85]) (fun s u _ _ => (intOf u).toNat - (intOf s).toNat)
    case atStart => exact ⟨lo, hi, by first | rfl | rw [hl2h.out], by first | rfl | rw [hh2h.out], Nat.le_refl _, hlh, Nat.le_refl _, Lib.hid ⟨fun k h1 h2 => by omega, fun k h1 h2 => by omega⟩, H0⟩
    case round =>
      clear H0 hl2h hh2h
      obtain ⟨i, j, rfl, rfl, hmi, hij, hjb, hI, HM⟩ := hrel
      by_cases hlt : i < j
      · have hhlt : i ≤ (i + j) / 2 ∧ (i + j) / 2 < j := by omega
        have wh : ((i : Int) + (j : Int)) / 2 = (((i + j) / 2 : Nat) : Int) := by omega
        obtain ⟨h, hh⟩ : ∃ h, (i + j) / 2 = h := ⟨_, rfl⟩
        rw [hh] at hhlt wh
        have wq : IntKind.i64.wrap ((p : Int) - (h : Int)) = ((p - h : Nat) : Int) := by rw [IntKind.wrap_i64]; omega
        obtain ⟨q, hq⟩ : ∃ q, p - h = q := ⟨_, rfl⟩
        rw [hq] at wq
        obtain ⟨z, hz⟩ : ∃ z, T[h]? = some z := ⟨_, List.getElem?_eq_getElem (by omega)⟩
        obtain ⟨y, hy⟩ : ∃ y, T[q]? = some y := ⟨_, List.getElem?_eq_getElem (by omega)⟩
        have kc := clk_cmp y z (hTm y (List.mem_of_getElem? hy)) (hTm z (List.mem_of_getElem? hz))
        have hzt := Lib.hid (tmA_of hz)
        have hyt := Lib.hid (tmA_of hy)
        have hhn : (h : Int) < (n : Int) := by omega
        have hhn' : h < n := by omega
        have hqn : (q : Int) < (n : Int) := by omega
        have hqn' : q < n := by omega
        have hhh := Lib.hid hh
        have hqh := Lib.hid hq
        clear hh hq
        obtain ⟨yk, yy, yt, yv⟩ := y
        obtain ⟨zk, zy, zt, zv⟩ := z
        unfold itmV textV at kc
        simp only at kc hzt hyt
        go_upto_region 35 with (fail)
        refine wp_calm (fun w' => St S w w' [Blk g (itms T ++ R).toArray 85]) (by kernel_rfl) (by kernel_rfl) (HM.drew) ?_
        iterate 14 first
          | (apply calm_pass
             · rfl
             intro K hK
             go_simp
             refine hK _ ?_
             clear hK K)
          | (apply calm_step
             · rfl
             · intro w1 h1
               obtain ⟨q0, q1, q2, q3⟩ := blk_itms (h1.blk 0 rfl) hz
               obtain ⟨p0, p1, p2, p3⟩ := blk_itms (h1.blk 0 rfl) hy
               unfold textV at q1 p1
               simp only at q0 q1 q2 q3 p0 p1 p2 p3
               first
                 | (go_simp
                    first
                      | rfl
                      | exact ⟨rfl, h1⟩
                      | (go_at_call 67; with_reducible exact St.callPast (kc w1) h1)
                   )
             intro K hK
             go_simp
             refine hK _ ?_
             clear hK K)
        refine calm_nil ?_
        intro w2 H2
        clear kc HM
        by_cases hlt2 : yt < zt
        · have e3 : (!decide (yt - zt < 0)) = false := by simp; omega
          rw [e3]
          clear e3
          go_wp2
          go_roundw
          case rel =>
            refine ⟨i, h, rfl, by go_num, hmi, by omega, by omega, Lib.hid ⟨hI.out.1, fun k h1 h2 => ?_⟩, H2⟩
            have := hqh.out
            have := hids.out
            have := hmU.out h k (by omega) h1 (by omega)
            have := hmV.out (p - k) q (by omega) (by omega) (by omega)
            have := hzt.out
            have := hyt.out
            omega
          case measure => simp [intOf]; omega
        · have e3 : (!decide (yt - zt < 0)) = true := by simp; omega
          rw [e3]
          clear e3
          go_wp2
          go_roundw
          case rel =>
            refine ⟨h + 1, j, by go_num, rfl, by omega, by omega, hjb, Lib.hid ⟨fun k h1 h2 => ?_, hI.out.2⟩, H2⟩
            have := hqh.out
            have := hids.out
            have := hmU.out k h (by omega) (by omega) (by omega)
            have := hmV.out q (p - k) (by omega) (by omega) (by omega)
            have := hzt.out
            have := hyt.out
            omega
          case measure => simp [intOf]; omega
      · obtain rfl : i = j := by omega
        obtain ⟨e, he1, he2, he3, he4⟩ : ∃ e, i + e = nn ∧ m ≤ e ∧ e ≤ b ∧ mid ≤ e := by
          have := hids.out
          exact ⟨nn - i, by omega, by omega, by omega, by omega⟩
        have we : IntKind.i64.wrap ((nn : Int) - (i : Int)) = (e : Int) := by rw [IntKind.wrap_i64]; omega
        obtain ⟨U1, U2, V1, V2, l1, l2, l3, l4, hU12, hV12, aU1, aU2, aV1, aV2, hW⟩ := hfin.out i e hmi hjb he1 he2 he3 hI.out.1 hI.out.2
        have hTT : T = (A ++ U1) ++ (U2 ++ (V1 ++ (V2 ++ D))) := by rw [← hTh.out, ← hU12.out, ← hV12.out]; simp
        have hm2 := Lib.hid (mild_turn hm hU12.out hV12.out)
        have k2 : Hid (a < i → i < mid → SymOK n cap g R a i mid) := Lib.hid fun h1 h2 => ihh.out a i mid (by omega) h1 h2
        have k3 : Hid (mid < e → e < b → SymOK n cap g R mid e b) := Lib.hid fun h1 h2 => ihh.out mid e b (by omega) h1 h2
        have lmid : Hid (i + e = mid + m) := Lib.hid (by have := hids.out; omega)
        rw [hTT] at HM
        clear hTT ihh hids hmU hmV hfin hI hTh hU12 hV12 hTm hm hTl wm0 wp0 wn0 hpp he1
        have hcs : (i < m ∧ m < e) ∨ i = m ∨ (i < m ∧ e = m) := by omega
        rcases hcs with ⟨c1, c2⟩ | c1 | ⟨c1, c2⟩
        case' inl =>
          have f1 : (i : Int) < (m : Int) := by omega
          have f2 : (m : Int) < (e : Int) := by omega
          obtain ⟨S1, K1, G1⟩ := St.call (l1 := [_]) (l2 := []) HM
          have k1 := rotate_range (cap := cap) (a := i) (m := m) (b := e) (P := A ++ U1) (X := U2) (Y := V1) (D := V2 ++ D) (R := R) (w := wr) (S := S1) (n := n) (by rw [List.length_append]; omega) l2 l3 (by rw [List.length_append]; omega) c1 c2 hnb K1
          rw [List.append_assoc A U1] at k1
          unfold cmpV at k1
          clear HM K1
          go_upto_region 41 with (go_at_call 100; go_must (refine k1.mono ?_; rintro e' wr ⟨rfl, H3⟩; have HM : St S w wr [Blk g (itms (A ++ (U1 ++ (V1 ++ (U2 ++ (V2 ++ D))))) ++ R).toArray 85] := G1 _ _ H3; clear H3 k1 G1))
        case' inr.inl =>
          have f1 : ¬ (i : Int) < (m : Int) := by omega
          have hz : U2 = [] := List.eq_nil_of_length_eq_zero (by omega)
          have hq : (A ++ U1) ++ (U2 ++ (V1 ++ (V2 ++ D))) = A ++ (U1 ++ (V1 ++ (U2 ++ (V2 ++ D)))) := by rw [hz]; simp
          rw [hq] at HM
          clear c1 hz hq
          go_upto_region 41 with (fail)
        case' inr.inr =>
          have f1 : (i : Int) < (m : Int) := by omega
          have f2 : ¬ (m : Int) < (e : Int) := by omega
          have hz : V1 = [] := List.eq_nil_of_length_eq_zero (by omega)
          have hq : (A ++ U1) ++ (U2 ++ (V1 ++ (V2 ++ D))) = A ++ (U1 ++ (V1 ++ (U2 ++ (V2 ++ D)))) := by rw [hz]; simp
          rw [hq] at HM
          clear c2 hz hq
          go_upto_region 41 with (fail)
        all_goals
          have hc2 : (a < i ∧ i < mid) ∨ a = i ∨ (a < i ∧ mid ≤ i) := by omega
          refine or_three hc2 ?_ ?_ ?_
          case' _ =>
            rintro ⟨d1, d2⟩
            clear hc2
            have g1 : (a : Int) < (i : Int) := by omega
            have g2 : (i : Int) < (mid : Int) := by omega
            obtain ⟨S1, K1, G1⟩ := St.call (l1 := [_]) (l2 := []) HM
            have k1 := k2.out d1 d2 _ _ _ _ wr S1 hA l1 (by have := lmid.out; omega) (by have := lmid.out; rw [List.length_append, List.length_append]; omega) hm2.out aU1 aV1 K1
            unfold cmpV at k1
            clear HM K1 k2
            go_upto_region 43 with (go_at_call 94; go_must (refine k1.mono ?_; rintro e' wr ⟨rfl, W1, hW1, H3⟩; have HM : St S w wr [Blk g (itms (A ++ (W1 ++ (U2 ++ (V2 ++ D)))) ++ R).toArray 85] := G1 _ _ H3; clear H3 k1 G1))
          rotate_left
          case' _ =>
            intro d1
            clear hc2
            have g1 : ¬ (a : Int) < (i : Int) := by omega
            have hz : U1 = [] := List.eq_nil_of_length_eq_zero (by omega)
            obtain ⟨W1, hW1, hWe⟩ : ∃ W1, Mrg U1 V1 W1 ∧ U1 ++ V1 = W1 := ⟨V1, by rw [hz]; exact Mrg.right aV1, by rw [hz]; rfl⟩
            have hq : A ++ (U1 ++ (V1 ++ (U2 ++ (V2 ++ D)))) = A ++ (W1 ++ (U2 ++ (V2 ++ D))) := by rw [← hWe]; simp
            rw [hq] at HM
            clear d1 k2 hz hWe hq
            go_upto_region 43 with (fail)
          rotate_left
          case' _ =>
            rintro ⟨d1, d2⟩
            clear hc2
            have g1 : (a : Int) < (i : Int) := by omega
            have g2 : ¬ (i : Int) < (mid : Int) := by omega
            have hz : V1 = [] := List.eq_nil_of_length_eq_zero (by have := lmid.out; omega)
            obtain ⟨W1, hW1, hWe⟩ : ∃ W1, Mrg U1 V1 W1 ∧ U1 ++ V1 = W1 := ⟨U1, by rw [hz]; exact Mrg.left aU1, by rw [hz]; simp⟩
            have hq : A ++ (U1 ++ (V1 ++ (U2 ++ (V2 ++ D)))) = A ++ (W1 ++ (U2 ++ (V2 ++ D))) := by rw [← hWe]; simp
            rw [hq] at HM
            clear k2 hz hWe hq
            go_upto_region 43 with (fail)
          all_goals
            have hc3 : (mid < e ∧ e < b) ∨ e = mid ∨ (mid < e ∧ e = b) := by omega
            refine or_three hc3 ?_ ?_ ?_
            case' _ =>
              rintro ⟨d3, d4⟩
              clear hc3
              have g3 : (mid : Int) < (e : Int) := by omega
              have g4 : (e : Int) < (b : Int) := by omega
              obtain ⟨S1, K1, G1⟩ := St.call (l1 := [_]) (l2 := []) HM
              have hlw : W1.length = U1.length + V1.length := by rw [hW1.2.len, List.length_append]
              have hm3 := mild_mrg hm2.out hW1
              rw [← List.append_assoc A W1] at K1 hm3
              have k1 := k3.out d3 d4 _ _ _ _ wr S1 (by have := lmid.out; rw [List.length_append]; omega) (by have := lmid.out; omega) l4 hD hm3 aU2 aV2 K1
              unfold cmpV at k1
              clear HM K1 k3 hm3 hlw
              go_wp2_with (go_at_call 94; go_must (refine k1.mono ?_; rintro e' wr ⟨rfl, W2, hW2, H3⟩; have HM : St S w wr [Blk g (itms ((A ++ W1) ++ (W2 ++ D)) ++ R).toArray 85] := G1 _ _ H3; clear H3 k1 G1))
            rotate_left
            case' _ =>
              intro d3
              clear hc3
              have g3 : ¬ (mid : Int) < (e : Int) := by omega
              have hz : U2 = [] := List.eq_nil_of_length_eq_zero (by have := lmid.out; omega)
              obtain ⟨W2, hW2, hWe⟩ : ∃ W2, Mrg U2 V2 W2 ∧ U2 ++ V2 = W2 := ⟨V2, by rw [hz]; exact Mrg.right aV2, by rw [hz]; rfl⟩
              have hq : A ++ (W1 ++ (U2 ++ (V2 ++ D))) = (A ++ W1) ++ (W2 ++ D) := by rw [← hWe]; simp
              rw [hq] at HM
              clear d3 k3 hz hWe hq
              go_wp2
            rotate_left
            case' _ =>
              rintro ⟨d3, d4⟩
              clear hc3
              have g3 : (mid : Int) < (e : Int) := by omega
              have g4 : ¬ (e : Int) < (b : Int) := by omega
              have hz : V2 = [] := List.eq_nil_of_length_eq_zero (by omega)
              obtain ⟨W2, hW2, hWe⟩ : ∃ W2, Mrg U2 V2 W2 ∧ U2 ++ V2 = W2 := ⟨U2, by rw [hz]; exact Mrg.left aU2, by rw [hz]; simp⟩
              have hq : A ++ (W1 ++ (U2 ++ (V2 ++ D))) = (A ++ W1) ++ (W2 ++ D) := by rw [← hWe]; simp
              rw [hq] at HM
              clear d4 k3 hz hWe hq
              go_wp2
            all_goals
              go_end0
              refine ⟨rfl, W1 ++ W2, hW.out _ _ hW1 hW2, ?_⟩
              simpa using HM
end
end Go.Proofs.Ytoffcoegghigoaa
