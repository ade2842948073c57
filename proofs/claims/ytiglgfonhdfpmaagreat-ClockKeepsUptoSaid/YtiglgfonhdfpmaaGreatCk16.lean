import Derived.Test.YtiglgfonhdfpmaaGreatCk1
import Derived.Test.YtiglgfonhdfpmaaGreatCk2
import Derived.Test.YtiglgfonhdfpmaaGreatCk3
import Derived.Test.YtiglgfonhdfpmaaGreatCk4
import Derived.Test.YtiglgfonhdfpmaaGreatCk5
import Derived.Test.YtiglgfonhdfpmaaGreatCk6
import Derived.Test.YtiglgfonhdfpmaaGreatCk7
import Derived.Test.YtiglgfonhdfpmaaGreatCk14
import Derived.Test.YtiglgfonhdfpmaaGreatCk15
import Derived.Deep.CutBlock
import Derived.Lib.ItoaNum
import Derived.Lib.AtoiAll
import Derived.Lib.Split
import Derived.Lib.SplitLaws
import Derived.Lib.IndexLaws
import Derived.Lib.CountLaws
/- slices' symMerge at items, in general. Condition: times within bounds, so many items. -/
set_option linter.unusedVariables false
set_option linter.unusedSimpArgs false
namespace Go.Proofs.YtiglgfonhdfpmaaGreat
open Go.RowKit

theorem sym_fin {A U V D T : List Itm} {a m b s e mid lo hi nn p : Nat} (hA : A.length = a) (hU : a + U.length = m) (hV : m + V.length = b) (hUa : Asc U) (hVa : Asc V) (hT : A ++ (U ++ (V ++ D)) = T)
    (hlo : a ≤ lo) (h1 : lo ≤ s) (h2 : s ≤ hi) (hhi : hi ≤ m) (hnn : mid + m = nn) (hpp : p + 1 = nn) (he : s + e = nn) (hlo0 : lo = a ∨ lo + b = nn) (hhi0 : hi = m ∨ hi = mid) (hem : m ≤ e) (heb : e ≤ b)
    (i1 : ∀ k, lo ≤ k → k < s → tmA T k ≤ tmA T (p - k)) (i2 : ∀ k, s ≤ k → k < hi → tmA T (p - k) < tmA T k)
    {W1 W2 : List Itm} (g1 : Mrg (U.take (s - a)) (V.take (e - m)) W1) (g2 : Mrg (U.drop (s - a)) (V.drop (e - m)) W2) : Mrg U V (W1 ++ W2) := by
  have hA1 : (A ++ U).length = m := by rw [List.length_append]; omega
  have hT1 : (A ++ U) ++ (V ++ D) = T := by rw [← hT, List.append_assoc]
  have u1 : U.take (s - a) ++ U.drop (s - a) = U := List.take_append_drop _ _
  have v1 : V.take (e - m) ++ V.drop (e - m) = V := List.take_append_drop _ _
  have mU := part_asc (E := V ++ D) hA hU hUa
  have mV := part_asc (E := D) hA1 hV hVa
  rw [hT] at mU
  rw [hT1] at mV
  have key := mrg_two (U1 := U.take (s - a)) (U2 := U.drop (s - a)) (V1 := V.take (e - m)) (V2 := V.drop (e - m)) (W1 := W1) (W2 := W2) (by rw [u1]; exact hUa) (by rw [v1]; exact hVa) (fun x hx y hy => by
    obtain ⟨k, k1, k2, k3⟩ := part_drop (E := V ++ D) hA hU (by omega) hx
    obtain ⟨j, j1, j2, j3, j4⟩ := part_take (E := D) hA1 hV hy
    rw [hT] at k3
    rw [hT1] at j4
    rw [← k3, ← j4]
    have hsh : s < hi := by omega
    have q1 := i2 s (Nat.le_refl _) hsh
    have q2 := mU s k (by omega) k1 k2
    have q3 := mV j (p - s) j1 (by omega) (by omega)
    omega) (fun x hx y hy => by
    obtain ⟨k, k1, k2, k3, k4⟩ := part_take (E := V ++ D) hA hU hx
    obtain ⟨j, j1, j2, j3⟩ := part_drop (E := D) hA1 hV (by omega) hy
    rw [hT] at k4
    rw [hT1] at j3
    rw [← k4, ← j3]
    have hsh : lo < s := by omega
    have q1 := i1 (s - 1) (by omega) (by omega)
    have q2 := mU k (s - 1) k1 (by omega) (by omega)
    have q3 := mV (p - (s - 1)) j (by omega) (by omega) (by omega)
    omega) g1 g2
  rwa [u1, v1] at key
theorem or_three {p q r s : Prop} (h : p ∨ q ∨ r) (h1 : p → s) (h2 : q → s) (h3 : r → s) : s := by
  rcases h with h | h | h
  · exact h1 h
  · exact h2 h
  · exact h3 h
theorem mild_turn {A U V D U1 U2 V1 V2 : List Itm} (h : ∀ z ∈ A ++ (U ++ (V ++ D)), z.mild) (hU : U1 ++ U2 = U) (hV : V1 ++ V2 = V) : ∀ z ∈ A ++ (U1 ++ (V1 ++ (U2 ++ (V2 ++ D)))), z.mild := by
  subst hU hV
  intro z hz
  refine h z ?_
  simp only [List.mem_append] at hz ⊢
  rcases hz with hz | hz | hz | hz | hz | hz <;> simp [hz]
theorem mild_mrg {A U V W E : List Itm} (h : ∀ z ∈ A ++ (U ++ (V ++ E)), z.mild) (g : Mrg U V W) : ∀ z ∈ A ++ (W ++ E), z.mild := by
  intro z hz
  refine h z ?_
  rcases List.mem_append.1 hz with hz | hz
  · exact List.mem_append_left _ hz
  · refine List.mem_append_right _ ?_
    rw [← List.append_assoc]
    rcases List.mem_append.1 hz with hz | hz
    · exact List.mem_append_left _ (g.2.1.mem_iff.1 hz)
    · exact List.mem_append_right _ hz

section
attribute [local go_sem ↓] run_storeItm
set_option maxHeartbeats 16000000 in
set_option maxRecDepth 100000 in
theorem sym_gen {n cap g a m b : Nat} {R : List Value} (hnb : n ≤ 3518437208880) (ham : a + 1 < m) (hmb : m + 1 < b)
    (ih : ∀ a' m' b', b' - a' < b - a → a' < m' → m' < b' → SymOK n cap g R a' m' b') : SymOK n cap g R a m b := by
  intro A U V D w S hA hU hV hD hm hUa hVa H
  have H0 := St.refl H
  obtain ⟨T, hT⟩ : ∃ T, A ++ (U ++ (V ++ D)) = T := ⟨_, rfl⟩
  have hTl : T.length = n := by rw [← hT]; simp; omega
  have hTm : ∀ z ∈ T, z.mild := by rw [← hT]; exact hm
  rw [hT] at H0
  -- the numbers
  have wm0 : ((a : Int) + (b : Int)) / 2 = (((a + b) / 2 : Nat) : Int) := by omega
  obtain ⟨mid, hmid⟩ : ∃ mid, (a + b) / 2 = mid := ⟨_, rfl⟩
  rw [hmid] at wm0
  have wn0 : IntKind.i64.wrap ((mid : Int) + (m : Int)) = ((mid + m : Nat) : Int) := by rw [IntKind.wrap_i64]; omega
  obtain ⟨nn, hnn⟩ : ∃ nn, mid + m = nn := ⟨_, rfl⟩
  rw [hnn] at wn0
  have wp0 : IntKind.i64.wrap ((nn : Int) - 1) = ((nn - 1 : Nat) : Int) := by rw [IntKind.wrap_i64]; omega
  obtain ⟨p, hp⟩ : ∃ p, nn - 1 = p := ⟨_, rfl⟩
  rw [hp] at wp0
  have hpp : p + 1 = nn := by omega
  have wa : IntKind.i64.wrap ((m : Int) - (a : Int)) = ((m - a : Nat) : Int) := by rw [IntKind.wrap_i64]; omega
  have wb : IntKind.i64.wrap ((b : Int) - (m : Int)) = ((b - m : Nat) : Int) := by rw [IntKind.wrap_i64]; omega
  have hma : ¬ ((m - a : Nat) : Int) = 1 := by omega
  have hbm : ¬ ((b - m : Nat) : Int) = 1 := by omega
  obtain ⟨ma, hma0⟩ : ∃ ma, m - a = ma := ⟨_, rfl⟩
  obtain ⟨bm, hbm0⟩ : ∃ bm, b - m = bm := ⟨_, rfl⟩
  rw [hma0] at wa hma
  rw [hbm0] at wb hbm
  have hma2 : ((ma : Int) == 1) = false := by simp [hma]
  have hbm2 : ((bm : Int) == 1) = false := by simp [hbm]
  obtain ⟨lo, hi, hlo, hlh, hhi, hhm, hlo0, hhi0, hpc, hgt⟩ : ∃ lo hi, a ≤ lo ∧ lo ≤ hi ∧ hi ≤ m ∧ hi ≤ mid ∧ (lo = a ∨ lo + b = nn) ∧ (hi = m ∨ hi = mid) ∧ (nn ≤ lo + b ∧ hi ≤ mid) ∧ ((mid < m ∧ lo + b = nn ∧ mid = hi) ∨ (m ≤ mid ∧ a = lo ∧ m = hi)) := by
    by_cases h : mid < m
    · exact ⟨nn - b, mid, by omega, by omega, by omega, by omega, by omega, by omega, by omega, Or.inl ⟨h, by omega, rfl⟩⟩
    · exact ⟨a, m, by omega, by omega, by omega, by omega, by omega, by omega, by omega, Or.inr ⟨by omega, rfl, rfl⟩⟩
  have hab : a < mid ∧ mid + 1 < b := by omega
  have hfin : Hid (∀ (s e : Nat), lo ≤ s → s ≤ hi → s + e = nn → m ≤ e → e ≤ b → (∀ k, lo ≤ k → k < s → tmA T k ≤ tmA T (p - k)) → (∀ k, s ≤ k → k < hi → tmA T (p - k) < tmA T k) →
      ∃ (U1 U2 V1 V2 : List Itm), a + U1.length = s ∧ s + U2.length = m ∧ m + V1.length = e ∧ e + V2.length = b ∧ Hid (U1 ++ U2 = U) ∧ Hid (V1 ++ V2 = V) ∧ Asc U1 ∧ Asc U2 ∧ Asc V1 ∧ Asc V2 ∧ Hid (∀ W1 W2, Mrg U1 V1 W1 → Mrg U2 V2 W2 → Mrg U V (W1 ++ W2))) := Lib.hid (by
    intro s e h1 h2 he hme heb i1 i2
    exact ⟨U.take (s - a), U.drop (s - a), V.take (e - m), V.drop (e - m), by rw [List.length_take]; omega, by rw [List.length_drop]; omega, by rw [List.length_take]; omega, by rw [List.length_drop]; omega,
      Lib.hid (List.take_append_drop _ _), Lib.hid (List.take_append_drop _ _), hUa.take _, hUa.drop _, hVa.take _, hVa.drop _, Lib.hid fun W1 W2 g1 g2 => sym_fin hA hU hV hUa hVa hT hlo h1 h2 hhi hnn hpp he hlo0 hhi0 hme heb i1 i2 g1 g2⟩)
  have hmU : Hid (∀ i j, a ≤ i → i ≤ j → j < m → tmA T i ≤ tmA T j) := Lib.hid (by rw [← hT]; exact part_asc hA hU hUa)
  have hmV : Hid (∀ i j, m ≤ i → i ≤ j → j < b → tmA T i ≤ tmA T j) := Lib.hid (by
    rw [← hT, ← List.append_assoc]
    exact part_asc (by rw [List.length_append]; omega) hV hVa)
  have hTh := Lib.hid hT
  have ihh := Lib.hid ih
  have hids := Lib.hid (And.intro hmid (And.intro hnn (And.intro hlo0 hhi0)))
  have hbn : b ≤ n := by omega
  have hn4 : m + mid ≤ p + 1 ∧ p + 1 ≤ m + mid := by omega
  clear hT hUa hVa H hmid hnn hp hma0 hbm0 hlo0 hhi0 ih
  unfold cmpV
  go_enter Tryz.func207, Tryz.ntmps207
  rcases hgt with ⟨hg, hl2, hh2⟩ | ⟨hg, hl2, hh2⟩
  case' inl =>
    have wl : IntKind.i64.wrap ((nn : Int) - (b : Int)) = (lo : Int) := by rw [IntKind.wrap_i64]; omega
    have hg2 : (mid : Int) < (m : Int) := by omega
    have hl2h := Lib.hid (rfl : lo = lo)
    have hh2h := Lib.hid hh2
    clear hl2 hh2
    go_upto_block 9 with (fail)
  case' inr =>
    have hg2 : ¬ (mid : Int) < (m : Int) := by omega
    have hl2h := Lib.hid hl2
    have hh2h := Lib.hid hh2
    clear hl2 hh2
    go_upto_block 9 with (fail)
  all_goals
    go_loopw [20, 21, 23] (fun s u _ wr => ∃ (i j : Nat), s = .int .i64 i ∧ u = .int .i64 j ∧ lo ≤ i ∧ i ≤ j ∧ j ≤ hi ∧ Hid ((∀ k, lo ≤ k → k < i → tmA T k ≤ tmA T (p - k)) ∧ (∀ k, j ≤ k → k < hi → tmA T (p - k) < tmA T k)) ∧ St S w wr [Blk g (itms T ++ R).toArray 56]) (fun s u _ _ => (intOf u).toNat - (intOf s).toNat)
    case atStart => exact ⟨lo, hi, by first | rfl | rw [hl2h.out], by first | rfl | rw [hh2h.out], Nat.le_refl _, hlh, Nat.le_refl _, Lib.hid ⟨fun k h1 h2 => by omega, fun k h1 h2 => by omega⟩, H0⟩
    case round =>
      clear H0 hl2h hh2h
      obtain ⟨i, j, rfl, rfl, hmi, hij, hjb, hI, HM⟩ := hrel
      by_cases hlt : i < j
      · have hhlt : i ≤ (i + j) / 2 ∧ (i + j) / 2 < j := by omega
        have wh : ((i : Int) + (j : Int)) / 2 = (((i + j) / 2 : Nat) : Int) := by omega
        obtain ⟨h, hh⟩ : ∃ h, (i + j) / 2 = h := ⟨_, rfl⟩
        rw [hh] at hhlt wh
        have wq : IntKind.i64.wrap ((p : Int) - (h : Int)) = ((p - h : Nat) : Int) := by rw [IntKind.wrap_i64]; omega
        obtain ⟨q, hq⟩ : ∃ q, p - h = q := ⟨_, rfl⟩
        rw [hq] at wq
        obtain ⟨z, hz⟩ : ∃ z, T[h]? = some z := ⟨_, List.getElem?_eq_getElem (by omega)⟩
        obtain ⟨y, hy⟩ : ∃ y, T[q]? = some y := ⟨_, List.getElem?_eq_getElem (by omega)⟩
        have kc := clk_cmp y z (hTm y (List.mem_of_getElem? hy)) (hTm z (List.mem_of_getElem? hz))
        have hzt := Lib.hid (tmA_of hz)
        have hyt := Lib.hid (tmA_of hy)
        have hhn : (h : Int) < (n : Int) := by omega
        have hhn' : h < n := by omega
        have hqn : (q : Int) < (n : Int) := by omega
        have hqn' : q < n := by omega
        have hhh := Lib.hid hh
        have hqh := Lib.hid hq
        clear hh hq
        obtain ⟨yk, yy, yt, yv⟩ := y
        obtain ⟨zk, zy, zt, zv⟩ := z
        unfold itmV textV at kc
        simp only at kc hzt hyt
        go_upto_region 35 with (fail)
        refine wp_calm (fun w' => St S w w' [Blk g (itms T ++ R).toArray 56]) (by kernel_rfl) (by kernel_rfl) (HM.drew) ?_
        iterate 14 first
          | (apply calm_pass
             · rfl
             intro K hK
             go_simp
             refine hK _ ?_
             clear hK K)
          | (apply calm_step
             · rfl
             · intro w1 h1
               obtain ⟨q0, q1, q2, q3⟩ := blk_itms (h1.blk 0 rfl) hz
               obtain ⟨p0, p1, p2, p3⟩ := blk_itms (h1.blk 0 rfl) hy
               unfold textV at q1 p1
               simp only at q0 q1 q2 q3 p0 p1 p2 p3
               first
                 | (go_simp
                    first
                      | rfl
                      | exact ⟨rfl, h1⟩
                      | (go_at_call 94; with_reducible exact St.callPast (kc w1) h1)
                   )
             intro K hK
             go_simp
             refine hK _ ?_
             clear hK K)
        refine calm_nil ?_
        intro w2 H2
        clear kc HM
        by_cases hlt2 : yt < zt
        · have e3 : (!decide (yt - zt < 0)) = false := by simp; omega
          rw [e3]
          clear e3
          go_wp2
          go_roundw
          case rel =>
            refine ⟨i, h, rfl, by go_num, hmi, by omega, by omega, Lib.hid ⟨hI.out.1, fun k h1 h2 => ?_⟩, H2⟩
            have := hqh.out
            have := hids.out
            have := hmU.out h k (by omega) h1 (by omega)
            have := hmV.out (p - k) q (by omega) (by omega) (by omega)
            have := hzt.out
            have := hyt.out
            omega
          case measure => simp [intOf]; omega
        · have e3 : (!decide (yt - zt < 0)) = true := by simp; omega
          rw [e3]
          clear e3
          go_wp2
          go_roundw
          case rel =>
            refine ⟨h + 1, j, by go_num, rfl, by omega, by omega, hjb, Lib.hid ⟨fun k h1 h2 => ?_, hI.out.2⟩, H2⟩
            have := hqh.out
            have := hids.out
            have := hmU.out k h (by omega) (by omega) (by omega)
            have := hmV.out q (p - k) (by omega) (by omega) (by omega)
            have := hzt.out
            have := hyt.out
            omega
          case measure => simp [intOf]; omega
      · obtain rfl : i = j := by omega
        obtain ⟨e, he1, he2, he3, he4⟩ : ∃ e, i + e = nn ∧ m ≤ e ∧ e ≤ b ∧ mid ≤ e := by
          have := hids.out
          exact ⟨nn - i, by omega, by omega, by omega, by omega⟩
        have we : IntKind.i64.wrap ((nn : Int) - (i : Int)) = (e : Int) := by rw [IntKind.wrap_i64]; omega
        obtain ⟨U1, U2, V1, V2, l1, l2, l3, l4, hU12, hV12, aU1, aU2, aV1, aV2, hW⟩ := hfin.out i e hmi hjb he1 he2 he3 hI.out.1 hI.out.2
        have hTT : T = (A ++ U1) ++ (U2 ++ (V1 ++ (V2 ++ D))) := by rw [← hTh.out, ← hU12.out, ← hV12.out]; simp
        have hm2 := Lib.hid (mild_turn hm hU12.out hV12.out)
        have k2 : Hid (a < i → i < mid → SymOK n cap g R a i mid) := Lib.hid fun h1 h2 => ihh.out a i mid (by omega) h1 h2
        have k3 : Hid (mid < e → e < b → SymOK n cap g R mid e b) := Lib.hid fun h1 h2 => ihh.out mid e b (by omega) h1 h2
        have lmid : Hid (i + e = mid + m) := Lib.hid (by have := hids.out; omega)
        rw [hTT] at HM
        clear hTT ihh hids hmU hmV hfin hI hTh hU12 hV12 hTm hm hTl wm0 wp0 wn0 hpp he1
        have hcs : (i < m ∧ m < e) ∨ i = m ∨ (i < m ∧ e = m) := by omega
        rcases hcs with ⟨c1, c2⟩ | c1 | ⟨c1, c2⟩
        case' inl =>
          have f1 : (i : Int) < (m : Int) := by omega
          have f2 : (m : Int) < (e : Int) := by omega
          obtain ⟨S1, K1, G1⟩ := St.call (l1 := [_]) (l2 := []) HM
          have k1 := rotate_range (cap := cap) (a := i) (m := m) (b := e) (P := A ++ U1) (X := U2) (Y := V1) (D := V2 ++ D) (R := R) (w := wr) (S := S1) (n := n) (by rw [List.length_append]; omega) l2 l3 (by rw [List.length_append]; omega) c1 c2 hnb K1
          rw [List.append_assoc A U1] at k1
          unfold cmpV at k1
          clear HM K1
          go_upto_region 41 with (go_at_call 259; go_must (refine k1.mono ?_; rintro e' wr ⟨rfl, H3⟩; have HM : St S w wr [Blk g (itms (A ++ (U1 ++ (V1 ++ (U2 ++ (V2 ++ D))))) ++ R).toArray 56] := G1 _ _ H3; clear H3 k1 G1))
        case' inr.inl =>
          have f1 : ¬ (i : Int) < (m : Int) := by omega
          have hz : U2 = [] := List.eq_nil_of_length_eq_zero (by omega)
          have hq : (A ++ U1) ++ (U2 ++ (V1 ++ (V2 ++ D))) = A ++ (U1 ++ (V1 ++ (U2 ++ (V2 ++ D)))) := by rw [hz]; simp
          rw [hq] at HM
          clear c1 hz hq
          go_upto_region 41 with (fail)
        case' inr.inr =>
          have f1 : (i : Int) < (m : Int) := by omega
          have f2 : ¬ (m : Int) < (e : Int) := by omega
          have hz : V1 = [] := List.eq_nil_of_length_eq_zero (by omega)
          have hq : (A ++ U1) ++ (U2 ++ (V1 ++ (V2 ++ D))) = A ++ (U1 ++ (V1 ++ (U2 ++ (V2 ++ D)))) := by rw [hz]; simp
          rw [hq] at HM
          clear c2 hz hq
          go_upto_region 41 with (fail)
        all_goals
          have hc2 : (a < i ∧ i < mid) ∨ a = i ∨ (a < i ∧ mid ≤ i) := by omega
          refine or_three hc2 ?_ ?_ ?_
          case' _ =>
            rintro ⟨d1, d2⟩
            clear hc2
            have g1 : (a : Int) < (i : Int) := by omega
            have g2 : (i : Int) < (mid : Int) := by omega
            obtain ⟨S1, K1, G1⟩ := St.call (l1 := [_]) (l2 := []) HM
            have k1 := k2.out d1 d2 _ _ _ _ wr S1 hA l1 (by have := lmid.out; omega) (by have := lmid.out; rw [List.length_append, List.length_append]; omega) hm2.out aU1 aV1 K1
            unfold cmpV at k1
            clear HM K1 k2
            go_upto_region 43 with (go_at_call 207; go_must (refine k1.mono ?_; rintro e' wr ⟨rfl, W1, hW1, H3⟩; have HM : St S w wr [Blk g (itms (A ++ (W1 ++ (U2 ++ (V2 ++ D)))) ++ R).toArray 56] := G1 _ _ H3; clear H3 k1 G1))
          rotate_left
          case' _ =>
            intro d1
            clear hc2
            have g1 : ¬ (a : Int) < (i : Int) := by omega
            have hz : U1 = [] := List.eq_nil_of_length_eq_zero (by omega)
            obtain ⟨W1, hW1, hWe⟩ : ∃ W1, Mrg U1 V1 W1 ∧ U1 ++ V1 = W1 := ⟨V1, by rw [hz]; exact Mrg.right aV1, by rw [hz]; rfl⟩
            have hq : A ++ (U1 ++ (V1 ++ (U2 ++ (V2 ++ D)))) = A ++ (W1 ++ (U2 ++ (V2 ++ D))) := by rw [← hWe]; simp
            rw [hq] at HM
            clear d1 k2 hz hWe hq
            go_upto_region 43 with (fail)
          rotate_left
          case' _ =>
            rintro ⟨d1, d2⟩
            clear hc2
            have g1 : (a : Int) < (i : Int) := by omega
            have g2 : ¬ (i : Int) < (mid : Int) := by omega
            have hz : V1 = [] := List.eq_nil_of_length_eq_zero (by have := lmid.out; omega)
            obtain ⟨W1, hW1, hWe⟩ : ∃ W1, Mrg U1 V1 W1 ∧ U1 ++ V1 = W1 := ⟨U1, by rw [hz]; exact Mrg.left aU1, by rw [hz]; simp⟩
            have hq : A ++ (U1 ++ (V1 ++ (U2 ++ (V2 ++ D)))) = A ++ (W1 ++ (U2 ++ (V2 ++ D))) := by rw [← hWe]; simp
            rw [hq] at HM
            clear k2 hz hWe hq
            go_upto_region 43 with (fail)
          all_goals
            have hc3 : (mid < e ∧ e < b) ∨ e = mid ∨ (mid < e ∧ e = b) := by omega
            refine or_three hc3 ?_ ?_ ?_
            case' _ =>
              rintro ⟨d3, d4⟩
              clear hc3
              have g3 : (mid : Int) < (e : Int) := by omega
              have g4 : (e : Int) < (b : Int) := by omega
              obtain ⟨S1, K1, G1⟩ := St.call (l1 := [_]) (l2 := []) HM
              have hlw : W1.length = U1.length + V1.length := by rw [hW1.2.len, List.length_append]
              have hm3 := mild_mrg hm2.out hW1
              rw [← List.append_assoc A W1] at K1 hm3
              have k1 := k3.out d3 d4 _ _ _ _ wr S1 (by have := lmid.out; rw [List.length_append]; omega) (by have := lmid.out; omega) l4 hD hm3 aU2 aV2 K1
              unfold cmpV at k1
              clear HM K1 k3 hm3 hlw
              go_wp2_with (go_at_call 207; go_must (refine k1.mono ?_; rintro e' wr ⟨rfl, W2, hW2, H3⟩; have HM : St S w wr [Blk g (itms ((A ++ W1) ++ (W2 ++ D)) ++ R).toArray 56] := G1 _ _ H3; clear H3 k1 G1))
            rotate_left
            case' _ =>
              intro d3
              clear hc3
              have g3 : ¬ (mid : Int) < (e : Int) := by omega
              have hz : U2 = [] := List.eq_nil_of_length_eq_zero (by have := lmid.out; omega)
              obtain ⟨W2, hW2, hWe⟩ : ∃ W2, Mrg U2 V2 W2 ∧ U2 ++ V2 = W2 := ⟨V2, by rw [hz]; exact Mrg.right aV2, by rw [hz]; rfl⟩
              have hq : A ++ (W1 ++ (U2 ++ (V2 ++ D))) = (A ++ W1) ++ (W2 ++ D) := by rw [← hWe]; simp
              rw [hq] at HM
              clear d3 k3 hz hWe hq
              go_wp2
            rotate_left
            case' _ =>
              rintro ⟨d3, d4⟩
              clear hc3
              have g3 : (mid : Int) < (e : Int) := by omega
              have g4 : ¬ (e : Int) < (b : Int) := by omega
              have hz : V2 = [] := List.eq_nil_of_length_eq_zero (by omega)
              obtain ⟨W2, hW2, hWe⟩ : ∃ W2, Mrg U2 V2 W2 ∧ U2 ++ V2 = W2 := ⟨U2, by rw [hz]; exact Mrg.left aU2, by rw [hz]; simp⟩
              have hq : A ++ (W1 ++ (U2 ++ (V2 ++ D))) = (A ++ W1) ++ (W2 ++ D) := by rw [← hWe]; simp
              rw [hq] at HM
              clear d4 k3 hz hWe hq
              go_wp2
            all_goals
              go_end0
              refine ⟨rfl, W1 ++ W2, hW.out _ _ hW1 hW2, ?_⟩
              simpa using HM
end
end Go.Proofs.YtiglgfonhdfpmaaGreat

/- slices' stable sort at items; clock's Sorted. Condition: times within bounds, at most 10^9 items. -/
set_option linter.unusedVariables false
set_option linter.unusedSimpArgs false
namespace Go.Proofs.YtiglgfonhdfpmaaGreat
open Go.RowKit

theorem sym_all {n cap g : Nat} {R : List Value} (hnb : n ≤ 3518437208880) : ∀ (N a m b : Nat), b - a ≤ N → a < m → m < b → SymOK n cap g R a m b
  | 0, a, m, b, h, h1, h2 => absurd h1 (by omega)
  | N + 1, a, m, b, h, h1, h2 => by
    by_cases k1 : a + 1 = m
    · subst k1
      exact sym_one hnb h2
    · by_cases k2 : m + 1 = b
      · subst k2
        exact sym_last hnb (by omega)
      · exact sym_gen hnb (by omega) (by omega) fun a' m' b' h3 h4 h5 => sym_all hnb N a' m' b' (by omega) h4 h5

theorem srt_app {P E : List Itm} {a i : Nat} (hP : P.length = a) (hi : a ≤ i) : srt (P ++ E) a i = P ++ ((isr (E.take (i - a))).reverse ++ E.drop (i - a)) := by
  unfold srt
  rw [List.take_append_of_le_length (by omega), List.take_of_length_le (by omega), List.drop_append, List.drop_append, List.drop_of_length_le (by omega), List.drop_of_length_le (l := P) (by omega), List.nil_append, List.nil_append, hP, Nat.sub_self, List.drop_zero]
theorem fsame_ins {P E L : List Itm} (k : Nat) (h : FSame (P ++ E) L) : FSame ((P ++ (isr (E.take k)).reverse) ++ E.drop k) L := by
  refine FSame.trans ?_ h
  rw [List.append_assoc]
  refine (FSame.refl P).app ?_
  conv => rhs; rw [← List.take_append_drop k E]
  exact (isr_fsame _).app (FSame.refl _)
theorem fsame_mrg {P U V W D L : List Itm} (h : FSame (P ++ (U ++ (V ++ D))) L) (g : Mrg U V W) : FSame ((P ++ W) ++ D) L := by
  refine FSame.trans ?_ h
  rw [List.append_assoc, ← List.append_assoc U]
  exact (FSame.refl P).app (g.2.app (FSame.refl D))

set_option maxHeartbeats 16000000 in
set_option maxRecDepth 100000 in
theorem stable_all {g n cap : Nat} {L : List Itm} {R : List Value} {w : World} {S : Nat → Prop} (hn : L.length = n) (hnb : n ≤ 3518437208880) (hm : ∀ z ∈ L, z.mild) (H : Sep w [Blk g (itms L ++ R).toArray 56] S) :
    Calls Tryz.prog 155 #[.slice (some ⟨g, 0, none⟩) n cap, .int .i64 n, cmpV] w fun e w' => e = .returned (.tuple #[]) ∧ St S w w' [Blk g (itms (isr L).reverse ++ R).toArray 56] := by
  have H0 := St.refl H
  have ki : Hid (∀ (M : List Itm) (S' : Nat → Prop) (w' : World) (a b : Nat), FSame M L → a ≤ b → b ≤ n → Sep w' [Blk g (itms M ++ R).toArray 56] S' → _) := Lib.hid fun M S' w' a b h1 h2 h3 K => ins_sort (cap := cap) (a := a) (b := b) (L := M) (h1.len.trans hn) hnb (h1.all hm) h2 h3 K
  have kp : Hid (∀ (a m b : Nat), a < m → m < b → SymOK n cap g R a m b) := Lib.hid fun a m b h1 h2 => sym_all hnb (b - a) a m b (Nat.le_refl _) h1 h2
  have hmh := Lib.hid hm
  have hfin : Hid (∀ M, Asc M → FSame M L → M = (isr L).reverse) := Lib.hid fun M h1 h2 => asc_unique h1 (isr_asc L) (h2.trans (isr_fsame L).symm)
  have hln : Hid (∀ M, FSame M L → M.length = n) := Lib.hid fun M h => h.len.trans hn
  have hL0 := Lib.hid (FSame.refl L)
  clear hm H hn
  unfold cmpV at ki ⊢
  go_enter Tryz.func155, Tryz.ntmps155
  go_upto_block 1 with (fail)
  go_loopw [7, 8] (fun s7 s8 wr => ∃ (j a b : Nat) (P E : List Itm), s7 = .int .i64 a ∧ s8 = .int .i64 b ∧ Hid (b = a + 20 ∧ P.length = a ∧ a = j * 20 ∧ a ≤ n) ∧ Hid (Chunks 20 P) ∧ Hid (FSame (P ++ E) L) ∧ St S w wr [Blk g (itms (P ++ E) ++ R).toArray 56]) (fun s7 _ _ => n - (intOf s7).toNat)
  case atStart => exact ⟨0, 0, 20, [], L, rfl, rfl, Lib.hid ⟨rfl, rfl, by omega, by omega⟩, Lib.hid (chunks_one List.Pairwise.nil), hL0, H0⟩
  case round =>
    clear H0 hL0
    obtain ⟨j, a, b, P, E, rfl, rfl, hab, hP, hF, HM⟩ := hrel
    obtain ⟨S1, K1, G1⟩ := St.call (l1 := [_]) (l2 := []) HM
    have hle : P.length + E.length = n := by rw [← List.length_append]; exact hln.out _ hF.out
    by_cases hc : b ≤ n
    · have hci : (b : Int) ≤ (n : Int) := by omega
      have k1 := ki.out (P ++ E) S1 wr a b hF.out (by have := hab.out; omega) hc K1
      have hs := srt_app (E := E) (i := b) hab.out.2.1 (by have := hab.out; omega)
      have hb0 := hab.out
      rw [hs, show b - a = 20 by omega] at k1
      have hF2 := Lib.hid (fsame_ins 20 hF.out)
      have hl2 : (isr (E.take 20)).reverse.length = 20 := by rw [List.length_reverse, isr_len, List.length_take]; omega
      have hP2 := Lib.hid (chunks_app hP.out (by rw [hb0.2.1]; exact hb0.2.2.1) (chunks_one (c := 20) (isr_asc (E.take 20))))
      obtain ⟨P', hP'⟩ : ∃ P', P ++ (isr (E.take 20)).reverse = P' := ⟨_, rfl⟩
      obtain ⟨E', hE'⟩ : ∃ E', E.drop 20 = E' := ⟨_, rfl⟩
      rw [← List.append_assoc, hP', hE'] at k1
      rw [hP', hE'] at hF2
      rw [hP'] at hP2
      have hl3 : Hid (P'.length = b) := Lib.hid (by rw [← hP', List.length_append, hl2]; omega)
      have hj : Hid (b = (j + 1) * 20) := Lib.hid (by omega)
      clear hP' hE' hl2 hs hF hP K1 HM hb0
      go_upto_region 4 with (go_at_call 206; go_must (refine k1.mono ?_; rintro e w1 ⟨rfl, H1⟩; have H2 : St S w w1 [Blk g (itms (P' ++ E') ++ R).toArray 56] := G1 _ _ H1; clear H1 G1 k1))
      go_wp2
      go_roundw
      case rel => exact ⟨j + 1, b, b + 20, P', E', rfl, by go_num, Lib.hid ⟨rfl, hl3.out, hj.out, hc⟩, hP2, hF2, H2⟩
      case measure => have := hab.out; simp [intOf]; omega
    · have hci : ¬ (b : Int) ≤ (n : Int) := by omega
      have hb0 := hab.out
      have k1 := ki.out (P ++ E) S1 wr a n hF.out hb0.2.2.2 (Nat.le_refl _) K1
      have hs := srt_app (E := E) (i := n) hab.out.2.1 hb0.2.2.2
      rw [hs] at k1
      have hF2 := Lib.hid (fsame_ins (n - a) hF.out)
      have hP2 := Lib.hid (chunks_app hP.out (by rw [hb0.2.1]; exact hb0.2.2.1) (chunks_one (c := 20) (isr_asc (E.take (n - a)))))
      have hE0 : E.drop (n - a) = [] := List.drop_of_length_le (by omega)
      rw [hE0, List.append_nil] at hF2 k1
      obtain ⟨M, hM⟩ : ∃ M, P ++ (isr (E.take (n - a))).reverse = M := ⟨_, rfl⟩
      rw [hM] at k1 hF2 hP2
      clear hM hs hF hP K1 HM hE0 hle hb0
      go_upto_block 3 with (go_at_call 206; go_must (refine k1.mono ?_; rintro e w1 ⟨rfl, H1⟩; have H2 : St S w w1 [Blk g (itms M ++ R).toArray 56] := G1 _ _ H1; clear H1 G1 k1))
      go_loopw [6, 7, 8, 9] (fun s6 _ _ _ wr => ∃ (c : Nat) (M : List Itm), s6 = .int .i64 c ∧ Hid (20 ≤ c ∧ c ≤ 7036874417760) ∧ Hid (Chunks c M) ∧ Hid (FSame M L) ∧ St S w wr [Blk g (itms M ++ R).toArray 56]) (fun s6 _ _ _ _ => n - (intOf s6).toNat)
      case atStart => exact ⟨20, M, rfl, Lib.hid ⟨by omega, by omega⟩, hP2, hF2, H2⟩
      case round =>
        clear H2 hP2 hF2 hab hci hc
        clear M P E
        obtain ⟨c, M, rfl, hc, hP, hF, HM⟩ := hrel
        have hMl := hln.out _ hF.out
        have hc0 := hc.out
        by_cases hcn : c < n
        · have hcni : (c : Int) < (n : Int) := by omega
          have wc : IntKind.i64.wrap (2 * (c : Int)) = ((2 * c : Nat) : Int) := by rw [IntKind.wrap_i64]; omega
          have wc2 : IntKind.i64.wrap ((c : Int) * 2) = ((2 * c : Nat) : Int) := by rw [IntKind.wrap_i64]; omega
          obtain ⟨d, hd⟩ : ∃ d, 2 * c = d := ⟨_, rfl⟩
          rw [hd] at wc wc2
          have hdh := Lib.hid hd
          clear hd
          go_upto_block 5 with (fail)
          go_loopw [7, 8] (fun s7 s8 wr => ∃ (j a b : Nat) (P E : List Itm), s7 = .int .i64 a ∧ s8 = .int .i64 b ∧ Hid (b = a + d ∧ P.length = a ∧ a = j * d ∧ a ≤ n) ∧ Hid (Chunks d P) ∧ Hid (Chunks c E) ∧ Hid (FSame (P ++ E) L) ∧ St S w wr [Blk g (itms (P ++ E) ++ R).toArray 56]) (fun s7 _ _ => n - (intOf s7).toNat)
          case atStart => exact ⟨0, 0, d, [], M, rfl, by go_num, Lib.hid ⟨by omega, rfl, by omega, by omega⟩, Lib.hid (chunks_one List.Pairwise.nil), hP, hF, HM⟩
          case round =>
            clear HM hP hF hMl
            clear M
            obtain ⟨j, a, b, P, E, rfl, rfl, hab, hP, hE, hF, HM⟩ := hrel
            obtain ⟨S1, K1, G1⟩ := St.call (l1 := [_]) (l2 := []) HM
            have hle : P.length + E.length = n := by rw [← List.length_append]; exact hln.out _ hF.out
            have hd0 := hdh.out
            have hb0 := hab.out
            have wac : IntKind.i64.wrap ((a : Int) + (c : Int)) = ((a + c : Nat) : Int) := by rw [IntKind.wrap_i64]; omega
            obtain ⟨m, hmm⟩ : ∃ m, a + c = m := ⟨_, rfl⟩
            rw [hmm] at wac
            have hmmh := Lib.hid hmm
            clear hmm
            by_cases hcn2 : b ≤ n
            · have hci : (b : Int) ≤ (n : Int) := by omega
              have wbd : IntKind.i64.wrap ((b : Int) + (d : Int)) = ((b + d : Nat) : Int) := by rw [IntKind.wrap_i64]; omega
              have hU := hE.out.first
              have hV := hE.out 1
              rw [Nat.one_mul] at hV
              have hsp : P ++ E = P ++ (E.take c ++ ((E.drop c).take c ++ E.drop d)) := by
                have e1 : E.drop d = (E.drop c).drop c := by rw [List.drop_drop]; congr 1; omega
                rw [e1, List.take_append_drop, List.take_append_drop]
              have lU : a + (E.take c).length = m := by have := hmmh.out; rw [List.length_take]; omega
              have lV : m + ((E.drop c).take c).length = b := by have := hmmh.out; rw [List.length_take, List.length_drop]; omega
              have lD : b + (E.drop d).length = n := by rw [List.length_drop]; omega
              have hE2 : Hid (Chunks c (E.drop d)) := Lib.hid (by have := hE.out.drop (j := 2); rwa [hd0] at this)
              obtain ⟨U, hU0⟩ : ∃ U, E.take c = U := ⟨_, rfl⟩
              obtain ⟨V, hV0⟩ : ∃ V, (E.drop c).take c = V := ⟨_, rfl⟩
              obtain ⟨D, hD0⟩ : ∃ D, E.drop d = D := ⟨_, rfl⟩
              rw [hU0] at hU hsp lU
              rw [hV0] at hV hsp lV
              rw [hD0] at hsp lD hE2
              rw [hsp] at K1 hF
              have k1 := kp.out a m b (by have := hmmh.out; omega) (by have := hmmh.out; omega) P U V D wr S1 hb0.2.1 lU lV lD (hF.out.all hmh.out) hU hV K1
              have hj : Hid (b = (j + 1) * d) := Lib.hid (by rw [Nat.add_mul, Nat.one_mul, ← hb0.2.2.1]; exact hb0.1)
              have hlb : Hid (∀ W, Mrg U V W → (P ++ W).length = b ∧ Chunks d (P ++ W) ∧ FSame ((P ++ W) ++ D) L) := Lib.hid fun W g => ⟨by rw [List.length_append, g.2.len, List.length_append]; omega, chunks_app hP.out (by rw [hb0.2.1]; exact hb0.2.2.1) (chunks_one g.1), fsame_mrg hF.out g⟩
              unfold cmpV at k1
              clear hU0 hV0 hD0 hsp K1 HM hb0 hU hV lU lV lD hF hP hE hle hd0
              go_upto_region 11 with (go_at_call 207; go_must (refine k1.mono ?_; rintro e w1 ⟨rfl, W, hW, H1⟩; have H2 : St S w w1 [Blk g (itms (P ++ (W ++ D)) ++ R).toArray 56] := G1 _ _ H1; clear H1 G1 k1))
              go_wp2
              go_roundw
              case rel =>
                obtain ⟨q1, q2, q3⟩ := hlb.out W hW
                exact ⟨j + 1, b, b + d, P ++ W, D, rfl, by go_num, Lib.hid ⟨rfl, q1, hj.out, hcn2⟩, Lib.hid q2, hE2, Lib.hid q3, by rw [List.append_assoc]; exact H2⟩
              case measure => have := hab.out; have := hdh.out; simp [intOf]; omega
            · have hci : ¬ (b : Int) ≤ (n : Int) := by omega
              by_cases hmn : m < n
              · have hmni : (m : Int) < (n : Int) := by omega
                have hU := hE.out.first
                have hV := hE.out 1
                rw [Nat.one_mul] at hV
                have hsp : P ++ E = P ++ (E.take c ++ ((E.drop c).take c ++ [])) := by
                  have e1 : (E.drop c).take c = E.drop c := List.take_of_length_le (by rw [List.length_drop]; omega)
                  rw [e1, List.append_nil, List.take_append_drop]
                have lU : a + (E.take c).length = m := by have := hmmh.out; rw [List.length_take]; omega
                have lV : m + ((E.drop c).take c).length = n := by have := hmmh.out; rw [List.length_take, List.length_drop]; omega
                obtain ⟨U, hU0⟩ : ∃ U, E.take c = U := ⟨_, rfl⟩
                obtain ⟨V, hV0⟩ : ∃ V, (E.drop c).take c = V := ⟨_, rfl⟩
                rw [hU0] at hU hsp lU
                rw [hV0] at hV hsp lV
                rw [hsp] at K1 hF
                have k1 := kp.out a m n (by have := hmmh.out; omega) hmn P U V [] wr S1 hb0.2.1 lU lV (by simp) (hF.out.all hmh.out) hU hV K1
                have hlb : Hid (∀ W, Mrg U V W → Chunks d (P ++ (W ++ [])) ∧ FSame (P ++ (W ++ [])) L) := Lib.hid fun W g => ⟨by rw [List.append_nil]; exact chunks_app hP.out (by rw [hb0.2.1]; exact hb0.2.2.1) (chunks_one g.1), by rw [← List.append_assoc]; exact fsame_mrg hF.out g⟩
                unfold cmpV at k1
                clear hU0 hV0 hsp K1 HM hb0 hU hV lU lV hF hP hE hle hd0
                go_upto_region 16 with (go_at_call 207; go_must (refine k1.mono ?_; rintro e w1 ⟨rfl, W, hW, H1⟩; have H2 : St S w w1 [Blk g (itms (P ++ (W ++ [])) ++ R).toArray 56] := G1 _ _ H1; clear H1 G1 k1))
                go_wp2
                go_roundw
                case rel =>
                  obtain ⟨q2, q3⟩ := hlb.out W hW
                  exact ⟨d, _, by go_num, Lib.hid (by have := hdh.out; have := hc.out; omega), Lib.hid q2, Lib.hid q3, H2⟩
                case measure => have := hc.out; have := hdh.out; simp [intOf]; omega
              · have hmni : ¬ (m : Int) < (n : Int) := by omega
                have hCh : Hid (Chunks d (P ++ E)) := Lib.hid (chunks_app hP.out (by rw [hb0.2.1]; exact hb0.2.2.1) (chunks_one (hE.out.whole (by have := hmmh.out; omega))))
                clear K1 hb0 hP hE hle hd0 G1
                go_wp2
                go_roundw
                case rel => exact ⟨d, _, by go_num, Lib.hid (by have := hdh.out; have := hc.out; omega), hCh, hF, HM⟩
                case measure => have := hc.out; have := hdh.out; simp [intOf]; omega
        · have hcni : ¬ (c : Int) < (n : Int) := by omega
          have he := hfin.out M (hP.out.whole (by omega)) hF.out
          go_wp2
          go_end0
          rw [← he]
          exact ⟨rfl, HM⟩
end Go.Proofs.YtiglgfonhdfpmaaGreat

/- clock's Sorted in general. Condition: at most 10^9 items. -/
set_option linter.unusedVariables false
set_option linter.unusedSimpArgs false
namespace Go.Proofs.YtiglgfonhdfpmaaGreat
open Go.RowKit

set_option maxHeartbeats 4000000 in
set_option maxRecDepth 100000 in
theorem insI_nil {ao : Option Addr} {cap : Nat} {w0 w : World} {S : Nat → Prop} {l : List SP} (H : St S w0 w l) :
    Calls Tryz.prog 206 #[.slice ao 0 cap, .int .i64 0, .int .i64 0, cmpV] w fun e w' => e = .returned (.tuple #[]) ∧ St S w0 w' l := by
  unfold cmpV
  go_enter Tryz.func206, Tryz.ntmps206
  go_upto_block 1 with (fail)
  go_loopw [8] (fun s8 wr => s8 = .int .i64 1 ∧ St S w0 wr l) (fun _ _ => 0)
  case atStart => exact ⟨by go_num, H⟩
  case round =>
    obtain ⟨rfl, HL⟩ := hrel
    go_wp2
    go_end0
    exact ⟨rfl, HL⟩
set_option maxHeartbeats 4000000 in
set_option maxRecDepth 100000 in
theorem stable_nil {ao : Option Addr} {cap : Nat} {w0 w : World} {S : Nat → Prop} {l : List SP} (H : St S w0 w l) :
    Calls Tryz.prog 155 #[.slice ao 0 cap, .int .i64 0, cmpV] w fun e w' => e = .returned (.tuple #[]) ∧ St S w0 w' l := by
  have k1 := insI_nil (ao := ao) (cap := cap) H
  unfold cmpV at k1 ⊢
  go_enter Tryz.func155, Tryz.ntmps155
  go_upto_block 1 with (fail)
  go_loopw [7, 8] (fun s7 s8 wr => s7 = .int .i64 0 ∧ s8 = .int .i64 20 ∧ wr = w) (fun _ _ _ => 0)
  case atStart => exact ⟨rfl, rfl, rfl⟩
  case round =>
    obtain ⟨rfl, rfl, rfl⟩ := hrel
    go_upto_block 3 with (go_at_call 206; go_must (refine k1.mono ?_; rintro e w1 ⟨rfl, H1⟩))
    clear k1
    go_loopw [6] (fun s6 wr => s6 = .int .i64 20 ∧ wr = w1) (fun _ _ => 0)
    case atStart => exact ⟨rfl, rfl⟩
    case round =>
      obtain ⟨rfl, rfl⟩ := hrel
      go_wp2
      go_end0
      exact ⟨rfl, H1⟩

set_option maxHeartbeats 1000000 in
set_option maxRecDepth 100000 in
theorem sort_all {v : Value} {L : List Itm} {w : World} {S : Nat → Prop} (hnb : L.length ≤ 3518437208880) (hm : ∀ z ∈ L, z.mild) (H : Sep w [Row 56 4 v L.length (itms L)] S) :
    Calls Tryz.prog 93 #[v, cmpV] w fun e w' => e = .returned (.tuple #[]) ∧ St S w w' [Row 56 4 v L.length (itms (isr L).reverse)] := by
  by_cases hn0 : L = []
  · subst hn0
    obtain ⟨ao, cap, rfl, _, _⟩ := slice_form' ((St.refl H).row 0 rfl)
    have k1 := stable_nil (ao := ao) (cap := cap) (St.refl H)
    unfold cmpV at k1 ⊢
    go_enter Tryz.func93, Tryz.ntmps93
    go_wp2_with (go_at_call 155; go_must (refine k1.mono ?_; rintro e w1 ⟨rfl, H1⟩))
    go_end0
    exact ⟨rfl, H1⟩
  · obtain ⟨g, cap, R, rfl, hnc, hcm, hxl, hcs, HB⟩ := (St.refl H).row_blk 0 rfl (by intro h; exact hn0 (List.eq_nil_of_length_eq_zero h))
    have HB : St S w w [Blk g (itms L ++ R).toArray 56] := HB
    obtain ⟨S1, K1, G1⟩ := St.call (l1 := [_]) (l2 := []) HB
    have k1 := stable_all (cap := cap) rfl hnb hm K1
    have hend : ∀ w', St S w w' [Blk g (itms (isr L).reverse ++ R).toArray 56] → St S w w' [Row 56 4 (.slice (some ⟨g, 0, none⟩) L.length cap) L.length (itms (isr L).reverse)] := fun w' H' => by
      have hl2 : (itms (isr L).reverse).length = L.length * 4 := by rw [itms_len, List.length_reverse, isr_len]
      exact H'.blk_row 0 (e := 56) (size := 4) (cap := cap) (n := L.length) (xs := itms (isr L).reverse) rfl hnc hcm (by
        rw [List.length_append, hl2, ← hxl, ← List.length_append]; exact hcs) (by
        rw [List.take_append_of_le_length (by omega), List.take_of_length_le (by omega)])
    unfold cmpV at k1 ⊢
    clear H HB
    go_enter Tryz.func93, Tryz.ntmps93
    go_wp2_with (go_at_call 155; go_must (refine k1.mono ?_; rintro e w1 ⟨rfl, H1⟩; have H2 := G1 _ _ H1))
    go_end0
    exact ⟨rfl, hend _ H2⟩

set_option maxHeartbeats 1000000 in
set_option maxRecDepth 100000 in
theorem clk_sorted {v : Value} {l : List Itm} {w : World} (hv : ItmsRO w v l) (hl : l.length ≤ 3518437208880) :
    Calls Tryz.prog 50 #[v] w fun e w' => ∃ v', e = .returned v' ∧ St (fun _ => False) w w' [Row 56 4 v' (l.filter Itm.counts).length (itms (isr (l.filter Itm.counts)).reverse)] := by
  have ke := clk_events hv hl
  have hm : ∀ z ∈ l.filter Itm.counts, z.mild := fun z hz => by
    obtain ⟨_, h1, h2⟩ := counts_time (List.mem_filter.1 hz).2
    exact ⟨by omega, h2⟩
  have hfl : (l.filter Itm.counts).length ≤ 3518437208880 := by
    have := List.length_filter_le Itm.counts l
    omega
  have ks := fun (S' : Nat → Prop) (w' : World) (v' : Value) (K : Sep w' [Row 56 4 v' (l.filter Itm.counts).length (itms (l.filter Itm.counts))] S') => sort_all hfl hm K
  unfold cmpV at ks
  go_enter Tryz.func50, Tryz.ntmps50
  go_wp2_with (first
    | (go_at_call 92; go_must (refine ke.mono ?_; rintro e w2 ⟨ve, rfl, H4⟩; obtain ⟨ea, ec, rfl, hec, hea⟩ := slice_form' (H4.row 0 rfl); obtain ⟨S1, K1, G1⟩ := St.call (l1 := [_]) (l2 := []) H4))
    | (go_at_call 93; go_must (refine (ks _ _ _ K1).mono ?_; rintro e w3 ⟨rfl, H5⟩; have H6 := G1 _ _ H5)))
  go_ret
  exact ⟨_, rfl, H6⟩
end Go.Proofs.YtiglgfonhdfpmaaGreat

/- batch.Late where nothing is late; ClockKeeps' walk. Conditions: the items can be read; so many, with names not too long. (Printed by a program of mine.) -/
set_option linter.unusedVariables false
set_option linter.unusedSimpArgs false
namespace Go.Proofs.YtiglgfonhdfpmaaGreat
open Go.RowKit

theorem see_nonneg {c : Clk} {t : Int} (h : (c.see t).2.2 = true) : 0 ≤ (c.see t).2.1 := by
  unfold Clk.see at h ⊢
  by_cases h1 : timeOk t = false
  · rw [if_pos h1] at h
    exact absurd h (by simp)
  · rw [if_neg h1] at h ⊢
    by_cases h2 : max c.top t - c.slack < 0 ∨ (0 ≤ c.last ∧ max c.top t - c.slack < c.last + c.step)
    · rw [if_pos h2] at h
      exact absurd h (by simp)
    · rw [if_neg h2]
      simp only
      omega
theorem see_mark {c : Clk} (h : c.ok) {t : Int} (hb : (c.see t).2.2 = true) : 0 ≤ (c.see t).2.1 ∧ (c.see t).2.1 ≤ 1099511627776 := by
  refine ⟨see_nonneg hb, ?_⟩
  have h1 := (see_ok h t).2.2.2.2
  have e : (c.see t).2.1 = (c.see t).1.last := by
    unfold Clk.see at hb ⊢
    by_cases e1 : timeOk t = false
    · rw [if_pos e1] at hb; exact absurd hb (by simp)
    · rw [if_neg e1] at hb ⊢
      by_cases e2 : max c.top t - c.slack < 0 ∨ (0 ≤ c.last ∧ max c.top t - c.slack < c.last + c.step)
      · rw [if_pos e2] at hb; exact absurd hb (by simp)
      · rw [if_neg e2]
  omega
theorem weave_fits : ∀ (l : List Itm) (c : Clk), c.ok → (∀ x ∈ l, x.fits) → ∀ x ∈ c.weave l, x.fits
  | [], c, _, _ => by intro x hx; simp [Clk.weave] at hx
  | y :: l, c, h, hl => by
    intro x hx
    have ih := weave_fits l (c.see y.time).1 (see_ok h y.time) (fun z hz => hl z (by simp [hz]))
    simp only [Clk.weave, List.mem_cons, List.mem_append] at hx
    rcases hx with rfl | hx | hx
    · exact hl _ (by simp)
    · cases hb : (c.see y.time).2.2 with
      | false => rw [hb] at hx; simp at hx
      | true =>
        obtain ⟨m1, m2⟩ := see_mark h hb
        rw [hb] at hx
        simp only [if_true, List.mem_singleton] at hx
        subst hx
        exact ⟨by simp only; omega, by simp, ⟨by simp only; omega, by simp only; omega⟩, by simp only; omega⟩
    · exact ih x hx

set_option maxHeartbeats 4000000 in
set_option maxRecDepth 100000 in
theorem bat_late {v : Value} {l : List Ot} (w : World) (hv : OtsRO w v l) (hl : l.length ≤ 1073741824) (hn : NoLate l) :
    Calls Tryz.prog 49 #[v] w fun e w' => e = .returned (.slice none 0 0) ∧ Below w.heap.size w w' := by
  obtain ⟨ms, hm, hic0, -⟩ := hv
  obtain ⟨ao, cap, rfl, hcap, hic⟩ := hic0
  have hml : ms.length ≤ 1073741824 := by rw [← hm, List.length_map] at hl; exact hl
  have hno : ∀ m ∈ ms, m.o.late = false := fun m h => hn m.o (by rw [← hm]; exact List.mem_map_of_mem h)
  have hich := Lib.hid hic
  have hnoh := Lib.hid hno
  clear hic hno hm hn hl
  go_enter Tryz.func49, Tryz.ntmps49
  go_upto_block 1 with (fail)
  go_loopw [3, 5, 8] (fun u3 _ u8 wr => ∃ (i : Nat), i ≤ ms.length ∧ u3 = .slice none 0 0 ∧ u8 = .int .i64 i ∧ St (fun _ => False) w wr []) (fun _ _ u8 _ => ms.length - (intOf u8).toNat)
  case atStart => exact ⟨0, by omega, rfl, rfl, St.nil _ w⟩
  case round =>
    obtain ⟨i, hi, rfl, rfl, HM⟩ := hrel
    by_cases hlt : i < ms.length
    · obtain ⟨b, o, rfl, hb, hc⟩ := hich.out (by intro e; rw [e] at hlt; simp at hlt)
      obtain ⟨x, hx⟩ : ∃ x, ms[i]? = some x := ⟨_, List.getElem?_eq_getElem hlt⟩
      obtain ⟨q0, q1, q2, q3, q4, q5, q6, q7, q8, q9⟩ := ot_cells (hc i x hx) (HM.kept.block b hb id)
      have hxl := hnoh.out x (List.mem_of_getElem? hx)
      rw [hxl] at q0
      have hi2 : (i : Int) < (ms.length : Int) := by omega
      clear hx hc hxl
      obtain ⟨⟨xl, ⟨xk, xy, xt, xv⟩, ⟨yk, yf, yt⟩, xr, vv⟩, xa, xc⟩ := x
      unfold textV at q2 q5
      unfold Om.hd at q9
      simp only at q0 q1 q2 q3 q4 q5 q6 q7 q8 q9
      have HA : St (fun _ => False) w _ (_ :: _) := HM.allocAt rfl #[.bool false, .int .i64 xk, .string ⟨xy.toArray⟩, .int .i64 xt, .int .i64 xv, .string ⟨yk.toArray⟩, .int .i64 yf, .int .i64 yt, .int .i64 xr, .slice xa vv.length xc] 63
      go_upto_region 5 with (fail)
      obtain ⟨wb, hwb⟩ : ∃ wb, wr.alloc (.cells #[.bool false, .int .i64 xk, .string ⟨xy.toArray⟩, .int .i64 xt, .int .i64 xv, .string ⟨yk.toArray⟩, .int .i64 yf, .int .i64 yt, .int .i64 xr, .slice xa vv.length xc] 63) = wb := ⟨_, rfl⟩
      obtain ⟨eb, heb⟩ : ∃ z, wr.heap.size = z := ⟨_, rfl⟩
      rw [hwb, heb] at HA
      try rw [hwb]
      try simp only [heb]
      have HB : St (fun _ => False) w wb [Blk eb #[.bool false, .int .i64 xk, .string ⟨xy.toArray⟩, .int .i64 xt, .int .i64 xv, .string ⟨yk.toArray⟩, .int .i64 yf, .int .i64 yt, .int .i64 xr, .slice xa vv.length xc] 63] := HA
      clear hwb heb q0 q1 q2 q3 q4 q5 q6 q7 q8 q9 HM HA
      have c0 := HB.cell 0 0 rfl rfl
      go_wp2
      go_roundw
      case rel => exact ⟨i + 1, by omega, rfl, by go_num, HB.pick []⟩
      case measure => simp [intOf]; omega
    · obtain rfl : i = ms.length := by omega
      go_wp2
      go_ret
      exact ⟨rfl, HM.below (Nat.le_refl _) (fun _ h => h.elim)⟩

theorem bat_grow (q : Qry) : ∀ (l : List Itm) (r : RunR), (batM q l r).outs.length ≤ r.outs.length + 256 * l.length
  | [], r => by simp [batM]
  | x :: l, r => by
    rw [bat_cons]
    have ih := bat_grow q l (batS q r x)
    have h1 : (batS q r x).outs.length ≤ r.outs.length + 256 := by
      unfold batS
      split
      · have := step_outs q r.s x
        rw [List.length_append]
        omega
      · omega
    rw [List.length_cons]
    omega
theorem marks_drop {L : List Itm} {i : Nat} {x : Itm} {m : Int} (h : L[i]? = some x) : marksUp m (L.drop i) = if x.kind = 2 then decide (m < x.time) && marksUp x.time (L.drop (i + 1)) else marksUp m (L.drop (i + 1)) := by
  obtain ⟨hlt, hx⟩ := List.getElem?_eq_some_iff.1 h
  rw [List.drop_eq_getElem_cons hlt, hx, marksUp]

set_option maxHeartbeats 8000000 in
set_option maxRecDepth 100000 in
theorem keeps_walk (q : Qry) (step : Int) (hst : -9223372036854775808 ≤ step ∧ step ≤ 9223372036854775807) (l : List Itm) {iv : Value} (w : World) (hi : ItmsRO w iv l) (hil : l.length ≤ 1048576) (hs : wt5 l ≤ 4611686018427387904) :
    Calls Tryz.prog 9 #[qyV q, .int .i64 step, iv] w fun e w' => e = .returned (.bool true) ∧ Below w.heap.size w w' := by
  have kf := fun w' => first28 w'
  have kg := fun w' (hk : Kept (fun _ => False) w w') => great5 w' (hi.later hk) hs (by omega)
  have kq := fun w' => doc_qright q w'
  have kd := fun w' (hk : Kept (fun _ => False) w w') => clk_disorder (w := w') (hi.later hk) (by omega)
  have ks := fun w' (hk : Kept (fun _ => False) w w') => clk_sorted (w := w') (hi.later hk) (by omega)
  have hifit : ∀ x ∈ l, x.fits := by obtain ⟨_, _, _, _, h, _⟩ := hi; exact h
  have hEc : ∀ x ∈ l.filter Itm.counts, x.counts = true := fun x hx => (List.mem_filter.1 hx).2
  have hdb := (disF_le hEc).2
  have hEl : (l.filter Itm.counts).length ≤ 1048576 := Nat.le_trans (List.length_filter_le _ _) hil
  have hsd := sorted_dis l
  have hsfit : ∀ x ∈ (isr (l.filter Itm.counts)).reverse, x.fits := fun x hx => isr_all (p := Itm.fits) (fun z hz => hifit z (List.mem_filter.1 hz).1) x (List.mem_reverse.1 hx)
  have hsl : (isr (l.filter Itm.counts)).reverse.length ≤ 1048576 := by rw [List.length_reverse, isr_len]; exact hEl
  have hsl0 : (isr (l.filter Itm.counts)).reverse.length = (l.filter Itm.counts).length := by rw [List.length_reverse, isr_len]
  have kd2 := fun w' v' (h : ItmsRO w' v' (isr (l.filter Itm.counts)).reverse) => clk_disorder (w := w') h (by omega)
  rw [hsd] at kd2
  have hall := fun (hg : clkGood (disF (l.filter Itm.counts)).2 step = true) => keeps_all (q := q) (l := l) hg
  have hwfit := fun (hg : clkGood (disF (l.filter Itm.counts)).2 step = true) => weave_fits (l.filter Itm.counts) _ (newClk_ok hg) (fun x hx => hifit x (List.mem_filter.1 hx).1)
  have hwl := weave_len (l.filter Itm.counts) (newClk (disF (l.filter Itm.counts)).2 step)
  have kw := fun w' (hk : Kept (fun _ => False) w w') (hg : clkGood (disF (l.filter Itm.counts)).2 step = true) => clk_weave (w := w') hg (hi.later hk) (by omega)
  have kb := fun w' v' (hg : clkGood (disF (l.filter Itm.counts)).2 step = false) => clk_weave_bad (v := v') hg w'
  obtain ⟨ia, ic, rfl, -, -, -⟩ := id hi
  obtain ⟨SO, hSO⟩ : ∃ z, (isr (l.filter Itm.counts)).reverse = z := ⟨_, rfl⟩
  rw [hSO] at hsfit hsl hsl0
  simp only [hSO, ← hsl0] at ks
  simp only [hSO] at kd2
  obtain ⟨W, hW⟩ : ∃ z, (newClk (disF (l.filter Itm.counts)).2 step).weave (l.filter Itm.counts) = z := ⟨_, rfl⟩
  simp only [hW] at hall hwfit hwl kw
  obtain ⟨sl, hsk⟩ : ∃ z, (disF (l.filter Itm.counts)).2 = z := ⟨_, rfl⟩
  simp only [hsk] at kd hdb hall hwfit kw kb
  clear hW hsk hSO hsd hEc hsl0
  have hallh := Lib.hid hall
  have hwfith := Lib.hid hwfit
  have hsfith := Lib.hid hsfit
  have hih := Lib.hid hi
  have hifh := Lib.hid hifit
  have kwh := Lib.hid kw
  have kbh := Lib.hid kb
  have kd2h := Lib.hid kd2
  clear hall hwfit hsfit kw kb kd2 hifit hi
  have hWl : W.length ≤ 2097152 := by omega
  have kbo := Lib.hid (fun w' v' (h : ItmsRO w' v' W) => bat_outs q W w' h (by omega))
  unfold qyV qyC at kq kbo
  unfold qyV qyC
  have H0 : St (fun _ => False) w _ [_] := (St.nil _ w).allocAt rfl #[.int .i64 q.kind, .int .i64 q.size, .int .i64 q.slide, .int .i64 q.late, .int .i64 q.agg, .int .i64 q.k] 23
  go_enter Tryz.func9, Tryz.ntmps9
  go_upto_region 1 with (fail)
  obtain ⟨qb, hqb⟩ : ∃ b, w.heap.size = b := ⟨_, rfl⟩
  obtain ⟨wa, hwa⟩ : ∃ z, w.alloc (.cells #[.int .i64 q.kind, .int .i64 q.size, .int .i64 q.slide, .int .i64 q.late, .int .i64 q.agg, .int .i64 q.k] 23) = z := ⟨_, rfl⟩
  rw [hwa, hqb] at H0
  try rw [hwa]
  try simp only [hqb]
  have H1 : St (fun _ => False) w wa [Blk qb #[.int .i64 q.kind, .int .i64 q.size, .int .i64 q.slide, .int .i64 q.late, .int .i64 q.agg, .int .i64 q.k] 23] := H0
  have hqbh := Lib.hid hqb
  clear hwa hqb H0
  go_upto_region 2 with (go_at_call 46; go_must (refine (St.callPast (kf _) H1).mono ?_; rintro e wb ⟨rfl, H2⟩))
  clear H1 kf
  have d0 := H2.cell 0 0 rfl rfl
  have d1 := H2.cell 0 1 rfl rfl
  have d2 := H2.cell 0 2 rfl rfl
  have d3 := H2.cell 0 3 rfl rfl
  have d4 := H2.cell 0 4 rfl rfl
  have d5 := H2.cell 0 5 rfl rfl
  have hfin : ∀ e : Ending, ∀ w' : World, e = .returned (.bool true) → St (fun _ => False) w w' [] → e = .returned (.bool true) ∧ Below w.heap.size w w' := fun e w' h1 h2 => ⟨h1, h2.below (Nat.le_refl _) (fun _ h => h.elim)⟩
  by_cases hgt : 1200 < wt5 l
  · have z : decide ((1200 : Int) < (wt5 l : Int)) = true := by simpa using (by omega : (1200 : Int) < (wt5 l : Int))
    go_wp2_with (go_at_call 20; go_must (refine (St.callPast (kg _ H2.kept) H2).mono ?_; rintro e wc ⟨rfl, H3⟩))
    go_ret
    exact hfin _ _ rfl (H3.pick [])
  have z : decide ((1200 : Int) < (wt5 l : Int)) = false := by simpa using (by omega : ¬ (1200 : Int) < (wt5 l : Int))
  by_cases hq : q.right = true
  case neg =>
    have hq2 : q.right = false := by simpa using hq
    rw [hq2] at kq
    clear hq hq2
    go_wp2_with (first
      | (go_at_call 20; go_must (refine (St.callPast (kg _ H2.kept) H2).mono ?_; rintro e wc ⟨rfl, H3⟩; clear d0 d1 d2 d3 d4 d5; have d0 := H3.cell 0 0 rfl rfl; have d1 := H3.cell 0 1 rfl rfl; have d2 := H3.cell 0 2 rfl rfl; have d3 := H3.cell 0 3 rfl rfl; have d4 := H3.cell 0 4 rfl rfl; have d5 := H3.cell 0 5 rfl rfl))
      | (go_at_call 16; go_must (refine (St.callPast (kq _) H3).mono ?_; rintro e wd ⟨rfl, H4⟩)))
    go_ret
    exact hfin _ _ rfl (H4.pick [])
  case pos =>
    rw [hq] at kq
    clear hq
    go_upto_region 6 with (first
      | (go_at_call 20; go_must (refine (St.callPast (kg _ H2.kept) H2).mono ?_; rintro e wc ⟨rfl, H3⟩; clear d0 d1 d2 d3 d4 d5; have d0 := H3.cell 0 0 rfl rfl; have d1 := H3.cell 0 1 rfl rfl; have d2 := H3.cell 0 2 rfl rfl; have d3 := H3.cell 0 3 rfl rfl; have d4 := H3.cell 0 4 rfl rfl; have d5 := H3.cell 0 5 rfl rfl))
      | (go_at_call 16; go_must (refine (St.callPast (kq _) H3).mono ?_; rintro e wd ⟨rfl, H4⟩))
      | (go_at_call 47; go_must (refine (St.callPast (kd _ H4.kept) H4).mono ?_; rintro e we ⟨rfl, H5⟩)))
    clear d0 d1 d2 d3 d4 d5 H2 H3 H4 kg kq kd z
    by_cases hg : clkGood sl step = true
    case neg =>
      have hg2 : clkGood sl step = false := by simpa using hg
      have kb := kbh.out we (.slice ia l.length ic) hg2
      have h3 : (1073741824 < sl) ∨ (¬ 1073741824 < sl ∧ step < 1) ∨ (¬ 1073741824 < sl ∧ ¬ step < 1 ∧ 1073741824 < step) := by
        refine Classical.byContradiction fun h => hg ?_
        unfold clkGood
        simp only [Bool.and_eq_true, decide_eq_true_eq]
        omega
      clear hg hg2 kwh kbh hallh hwfith
      rcases h3 with h3 | ⟨h3, h4⟩ | ⟨h3, h4, h5⟩
      case' inl => have z1 : decide (1073741824 < sl) = true := by simpa using h3
      case' inr.inl => have z1 : decide (1073741824 < sl) = false := by simpa using h3
      case' inr.inl => have z2 : decide (step < 1) = true := by simpa using h4
      case' inr.inr => have z1 : decide (1073741824 < sl) = false := by simpa using h3
      case' inr.inr => have z2 : decide (step < 1) = false := by simpa using h4
      case' inr.inr => have z3 : decide (1073741824 < step) = true := by simpa using h5
      all_goals
        go_wp2_with (go_at_call 48; go_must (refine kb.mono ?_; rintro e wf ⟨rfl, rfl⟩))
        go_ret
        exact hfin _ _ rfl (H5.pick [])
    case pos =>
      have kw := kwh.out we H5.kept hg
      obtain ⟨hnl, hup⟩ := hallh.out hg
      have hWf := hwfith.out hg
      have hnlh := Lib.hid hnl
      have hup0 : marksUp (-1) (W.drop 0) = true := hup
      have huph := Lib.hid hup0
      have hWfh := Lib.hid hWf
      clear hg kwh kbh hallh hwfith hnl hup hup0 hWf
      go_upto_region 8 with (go_at_call 48; go_must (refine kw.mono ?_; rintro e wf ⟨wv, rfl, G1⟩; obtain ⟨wa9, wsc, rfl, -, hwa⟩ := slice_form' (G1.row 0 rfl); have H6 : St (fun _ => False) w wf [Row 56 4 (.slice wa9 W.length wsc) W.length (itms W), Blk qb #[.int .i64 q.kind, .int .i64 q.size, .int .i64 q.slide, .int .i64 q.late, .int .i64 q.agg, .int .i64 q.k] 23] := H5.call0 G1))
      have hwah := Lib.hid hwa
      clear hwa G1 H5 kw
      go_upto_block 1 with (fail)
      go_loopw [10, 12, 48] (fun u10 _ u48 wr => ∃ (i : Nat) (m : Int), i ≤ W.length ∧ u10 = .int .i64 m ∧ u48 = .int .i64 i ∧ Hid (marksUp m (W.drop i) = true) ∧ St (fun _ => False) w wr [Row 56 4 (.slice wa9 W.length wsc) W.length (itms W), Blk qb #[.int .i64 q.kind, .int .i64 q.size, .int .i64 q.slide, .int .i64 q.late, .int .i64 q.agg, .int .i64 q.k] 23]) (fun _ _ u48 _ => W.length - (intOf u48).toNat)
      case atStart => exact ⟨0, -1, by omega, rfl, rfl, huph, H6⟩
      case round =>
        clear H6 huph
        obtain ⟨i, m, hi, rfl, rfl, hup, HM⟩ := hrel
        by_cases hlt : i < W.length
        · obtain ⟨gw, rfl⟩ := hwah.out (by omega)
          obtain ⟨x, hx⟩ : ∃ x, W[i]? = some x := ⟨_, List.getElem?_eq_getElem hlt⟩
          obtain ⟨q0, q1, q2, q3⟩ := row_itms (HM.row 0 rfl) hx
          have hup2 := hup.out
          rw [marks_drop hx] at hup2
          have hi2 : (i : Int) < (W.length : Int) := by omega
          have hup2h := Lib.hid hup2
          clear hx hup2
          obtain ⟨xk, xy, xt, xv⟩ := x
          unfold textV at q1
          simp only at q0 q1 q2 q3 hup2h
          have HA : St (fun _ => False) w _ (_ :: _) := HM.allocAt rfl #[.int .i64 xk, .string ⟨xy.toArray⟩, .int .i64 xt, .int .i64 xv] 56
          go_upto_region 13 with (fail)
          obtain ⟨wb9, hwb⟩ : ∃ z, wr.alloc (.cells #[.int .i64 xk, .string ⟨xy.toArray⟩, .int .i64 xt, .int .i64 xv] 56) = z := ⟨_, rfl⟩
          obtain ⟨xb, hxb⟩ : ∃ z, wr.heap.size = z := ⟨_, rfl⟩
          rw [hwb, hxb] at HA
          try rw [hwb]
          try simp only [hxb]
          have HB : St (fun _ => False) w wb9 [Blk xb #[.int .i64 xk, .string ⟨xy.toArray⟩, .int .i64 xt, .int .i64 xv] 56, Row 56 4 (.slice (some ⟨gw, 0, none⟩) W.length wsc) W.length (itms W), Blk qb #[.int .i64 q.kind, .int .i64 q.size, .int .i64 q.slide, .int .i64 q.late, .int .i64 q.agg, .int .i64 q.k] 23] := HA
          clear hwb hxb q0 q1 q2 q3 HM HA
          have c0 := HB.cell 0 0 rfl rfl
          have c2 := HB.cell 0 2 rfl rfl
          by_cases hk : xk = 2
          · have hup3 := hup2h.out
            rw [if_pos hk, Bool.and_eq_true, decide_eq_true_eq] at hup3
            obtain ⟨hlt3, hup4⟩ := hup3
            have hup4h := Lib.hid hup4
            have z1 : (xk != 2) = false := by simpa using hk
            have z2 : decide (xt ≤ m) = false := by simpa using hlt3
            clear hup4 hup2h hk hlt3
            go_wp2
            go_roundw
            case rel => exact ⟨i + 1, xt, by omega, rfl, by go_num, hup4h, HB.pick [1, 2]⟩
            case measure => simp [intOf]; omega
          · have hup3 := hup2h.out
            rw [if_neg hk] at hup3
            have hup4h := Lib.hid hup3
            have z1 : (xk != 2) = true := by simpa using hk
            clear hup3 hup2h hk
            go_wp2
            go_roundw
            case rel => exact ⟨i + 1, m, by omega, rfl, by go_num, hup4h, HB.pick [1, 2]⟩
            case measure => simp [intOf]; omega
        · have d0 := HM.cell 1 0 rfl rfl
          have d1 := HM.cell 1 1 rfl rfl
          have d2 := HM.cell 1 2 rfl rfl
          have d3 := HM.cell 1 3 rfl rfl
          have d4 := HM.cell 1 4 rfl rfl
          have d5 := HM.cell 1 5 rfl rfl
          have ko := kbo.out wr _ (itms_own (HM.row 0 rfl) hWfh.out)
          unfold BatOk at ko
          obtain ⟨r, hr⟩ : ∃ z, batM q W ⟨stt0, [], 0, 0⟩ = z := ⟨_, rfl⟩
          rw [hr] at hnlh
          simp only [hr] at ko
          have hrl : r.outs.length ≤ 1073741824 := by rw [← hr]; have := bat_grow q W ⟨stt0, [], 0, 0⟩; simp only [List.length_nil] at this; omega
          clear hr hup
          go_upto_region 19 with (go_at_call 45; go_must (refine ko.mono ?_; rintro e w4 ⟨ho, os, H9, rfl, hos, hoo, G1⟩; have hosh := Lib.hid hos; have hooh := Lib.hid hoo; clear hos hoo; obtain ⟨oa, oc, rfl, -, -⟩ := slice_form' (G1.row 0 rfl); have H7 : St (fun _ => False) w w4 [Row 63 10 (.slice oa os.length oc) os.length (encO.all os), Pool H9, Row 56 4 (.slice wa9 W.length wsc) W.length (itms W), Blk qb #[.int .i64 q.kind, .int .i64 q.size, .int .i64 q.slide, .int .i64 q.late, .int .i64 q.agg, .int .i64 q.k] 23] := HM.call0 G1))
          have hro : OtsRO w4 (.slice oa os.length oc) r.outs := by
            rw [← hosh.out]
            exact H7.otsRO 0 1 rfl rfl hooh.out
          have kl := bat_late w4 hro hrl hnlh.out
          clear hro d0 d1 d2 d3 d4 d5 HM G1 ko
          go_wp2_with (first
            | (go_at_call 49; go_must (refine (St.callPast kl H7).mono ?_; rintro e w5 ⟨rfl, H8⟩))
            | (go_at_call 50; go_must (refine (ks _ H8.kept).mono ?_; rintro e w6 ⟨v6, rfl, G2⟩; have H10 : St (fun _ => False) w w6 (Row 56 4 v6 SO.length (itms SO) :: [Row 63 10 (.slice oa os.length oc) os.length (encO.all os), Pool H9, Row 56 4 (.slice wa9 W.length wsc) W.length (itms W), Blk qb #[.int .i64 q.kind, .int .i64 q.size, .int .i64 q.slide, .int .i64 q.late, .int .i64 q.agg, .int .i64 q.k] 23]) := H8.call0 G2; have hsr : ItmsRO w6 v6 SO := itms_own (H10.row 0 rfl) hsfith.out))
            | (go_at_call 47; go_must (refine (St.callPast (kd2h.out w6 _ hsr) H10).mono ?_; rintro e w7 ⟨rfl, H11⟩)))
          go_ret
          exact hfin _ _ rfl (H11.pick [])

end Go.Proofs.YtiglgfonhdfpmaaGreat

/- A query that comes in, read by its type. Plain laws. -/
set_option linter.unusedVariables false
set_option linter.unusedSimpArgs false
namespace Go.Proofs.YtiglgfonhdfpmaaGreat
open Go.RowKit

theorem qry_read {w : World} {cs : List Value} (h : R Tryz.prog w 23 cs) : ∃ q : Qry, cs = (qyC q).toList := by
  have hl : cs.length = 6 := (R.struct Tryz.underlying23 h).1.trans (by kernel_rfl)
  obtain ⟨c0, c1, c2, c3, c4, c5, rfl⟩ : ∃ a b c d e f, cs = [a, b, c, d, e, f] := by
    match cs, hl with
    | [a, b, c, d, e, f], _ => exact ⟨a, b, c, d, e, f, rfl⟩
  have r0 : R Tryz.prog w 3 [c0] := R.field Tryz.underlying23 h 0 rfl (o := 0) (n := 1) rfl rfl (by kernel_rfl)
  have r1 : R Tryz.prog w 3 [c1] := R.field Tryz.underlying23 h 1 rfl (o := 1) (n := 1) rfl rfl (by kernel_rfl)
  have r2 : R Tryz.prog w 3 [c2] := R.field Tryz.underlying23 h 2 rfl (o := 2) (n := 1) rfl rfl (by kernel_rfl)
  have r3 : R Tryz.prog w 3 [c3] := R.field Tryz.underlying23 h 3 rfl (o := 3) (n := 1) rfl rfl (by kernel_rfl)
  have r4 : R Tryz.prog w 3 [c4] := R.field Tryz.underlying23 h 4 rfl (o := 4) (n := 1) rfl rfl (by kernel_rfl)
  have r5 : R Tryz.prog w 3 [c5] := R.field Tryz.underlying23 h 5 rfl (o := 5) (n := 1) rfl rfl (by kernel_rfl)
  obtain ⟨n0, e0, _⟩ := R.int Tryz.underlying3 r0
  obtain ⟨n1, e1, _⟩ := R.int Tryz.underlying3 r1
  obtain ⟨n2, e2, _⟩ := R.int Tryz.underlying3 r2
  obtain ⟨n3, e3, _⟩ := R.int Tryz.underlying3 r3
  obtain ⟨n4, e4, _⟩ := R.int Tryz.underlying3 r4
  obtain ⟨n5, e5, _⟩ := R.int Tryz.underlying3 r5
  simp only [List.cons.injEq, and_true] at e0 e1 e2 e3 e4 e5
  subst e0 e1 e2 e3 e4 e5
  exact ⟨⟨n0, n1, n2, n3, n4, n5⟩, rfl⟩
theorem qry_agg {w : World} {v : Value} (h : R Tryz.prog w 23 v.cells.toList) (hs : ∃ cs, v = .agg cs) : ∃ q : Qry, v = qyV q := by
  obtain ⟨cs, rfl⟩ := hs
  obtain ⟨q, e⟩ := qry_read h
  refine ⟨q, ?_⟩
  have : cs = qyC q := by
    apply Array.ext'
    exact e
  rw [this]

end Go.Proofs.YtiglgfonhdfpmaaGreat
