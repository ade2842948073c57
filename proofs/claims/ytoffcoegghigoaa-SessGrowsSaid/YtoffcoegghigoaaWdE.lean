/- slices.Insert of one window into a row of the call's own. -/
import Derived.Test.YtoffcoegghigoaaWdD
import Derived.Test.YtoffcoegghigoaaInsL
namespace Go.Proofs.Ytoffcoegghigoaa
open Go.RowKit

theorem splice_mid {A B C V : List Value} {a : Nat} (ha : A.length = a) (hb : B.length = V.length) : splice (A ++ (B ++ C)) a V = A ++ (V ++ C) := by
  subst ha
  unfold splice
  rw [List.take_append_of_le_length (Nat.le_refl _), List.take_length, List.drop_append, List.drop_of_length_le (by omega), List.nil_append, Nat.add_sub_cancel_left, List.drop_append, List.drop_of_length_le (by omega), List.nil_append, hb, Nat.sub_self, List.drop_zero]
  try rw [List.append_assoc]
theorem cut_two {Z : List Value} {c d : Nat} (h : c + d ≤ Z.length) : ∃ Z1 Z2 Z3, Z = Z1 ++ (Z2 ++ Z3) ∧ Z1.length = c ∧ Z2.length = d := by
  refine ⟨Z.take c, (Z.drop c).take d, (Z.drop c).drop d, ?_, by rw [List.length_take]; omega, by rw [List.length_take, List.length_drop]; omega⟩
  rw [List.take_append_drop, List.take_append_drop]
theorem ins_new {T Z X D : List Value} {a b c : Nat} (hT : T.length = a) (hb : a + X.length = b) (hc : b + D.length = c) (hZ : c ≤ (T ++ Z).length) : (splice (splice (T ++ Z) a X) b D).take c = T ++ (X ++ D) ∧ (splice (splice (T ++ Z) a X) b D).length = (T ++ Z).length := by
  rw [List.length_append] at hZ
  obtain ⟨Z1, Z2, Z3, rfl, h1, h2⟩ := cut_two (Z := Z) (c := X.length) (d := D.length) (by omega)
  rw [splice_mid hT h1, ← List.append_assoc, splice_mid (by rw [List.length_append]; omega) h2]
  refine ⟨?_, by simp; omega⟩
  rw [← List.append_assoc, List.take_append_of_le_length (by simp; omega), List.take_of_length_le (by simp; omega), List.append_assoc]
theorem ins_old {T R X D : List Value} {a b c : Nat} (hT : T.length = a) (hb : a + X.length = b) (hc : b + D.length = c) (hR : c ≤ (T ++ (D ++ R)).length) : (splice (splice (T ++ (D ++ R)) b D) a X).take c = T ++ (X ++ D) ∧ (splice (splice (T ++ (D ++ R)) b D) a X).length = (T ++ (D ++ R)).length := by
  have hl : (T ++ (D ++ R)).length = T.length + (D ++ R).length := List.length_append
  obtain ⟨Z1, Z2, Z3, h0, h1, h2⟩ := cut_two (Z := D ++ R) (c := X.length) (d := D.length) (by omega)
  rw [h0, ← List.append_assoc, splice_mid (by rw [List.length_append]; omega) h2, List.append_assoc, splice_mid hT h1]
  refine ⟨?_, by simp; omega⟩
  rw [← List.append_assoc, ← List.append_assoc, List.take_append_of_le_length (by simp; omega), List.take_of_length_le (by simp; omega), List.append_assoc]
theorem blk_add {w : World} {g : Nat} {cs : Array Value} {t : TypeId} (h : w.heap[g]? = some (.cells cs t (0, 0))) : ∀ ad, some (⟨g, 0, none⟩ : Addr) = some ad → ∀ j u, cs.toList[j]? = some u → w.cell? (ad.add j) = some u := by
  intro ad e j u hj
  cases e
  rw [Addr.add_lit, Nat.zero_add]
  exact cell_blk' h (by simpa using hj)
theorem wds_cut (l : List Wd) (k : Nat) : wds l = wds (l.take k) ++ wds (l.drop k) := by rw [← wds_app, List.take_append_drop]
theorem overlaps_apart {w : World} {g g2 o o2 n c n2 c2 : Nat} {ca cb : Array Value} {ta tb : TypeId} (hne : g ≠ g2) (ha : w.heap[g]? = some (.cells ca ta (0, 0))) (hb : w.heap[g2]? = some (.cells cb tb (0, 0))) :
    (callFunc 78 #[.slice (some ⟨g, o, none⟩) n c, .slice (some ⟨g2, o2, none⟩) n2 c2]).run Try.prog w = .ok (.value (.bool false)) w := by
  rw [run_callFunc_extern Try.func78 (by kernel_rfl) (by kernel_rfl) (by kernel_rfl) (e := Extern.SlicesOverlaps.overlaps #[39, 39] #[4]) (by kernel_rfl),
    run_apart w (t := 39) (e := 41) (size := 3) Try.underlying39 (by kernel_rfl) hne ha hb]
  rfl

set_option maxHeartbeats 4000000 in
set_option maxRecDepth 100000 in
theorem wds_insert {v : Value} {l : List Wd} {x : Wd} {k g2 : Nat} {w : World} {S : Nat → Prop} (hk : k ≤ l.length) (hl : l.length + 1 ≤ 4398046511104) (H : Sep w [Row 41 3 v l.length (wds l), Blk g2 (wdC x) 41] S) :
    Calls Try.prog 61 #[v, .int .i64 k, .slice (some ⟨g2, 0, none⟩) 1 1] w fun e w' => ∃ v', e = .returned v' ∧ St S w w' [Row 41 3 v' (l.length + 1) (wds (l.take k ++ x :: l.drop k)), Blk g2 (wdC x) 41] := by
  have H0 := St.refl H
  clear H
  have hlT : (wds (l.take k)).length = k * 3 := by rw [wds_len, List.length_take]; omega
  have hlD : (wds (l.drop k)).length = (l.length - k) * 3 := by rw [wds_len, List.length_drop]
  have hlL := wds_len l
  have hcut0 := wds_cut l k
  have hTk0 : (wds l).take (k * 3) = wds (l.take k) := by rw [hcut0, List.take_append_of_le_length (by omega), List.take_of_length_le (by omega)]
  have hres0 : wds (l.take k ++ x :: l.drop k) = wds (l.take k) ++ ((wdC x).toList ++ wds (l.drop k)) := by rw [wds_app]; simp [wds]
  have h1 : ∀ u ∈ (wdC x).toList, u.oneCell' = true := by have := wds_one1 [x]; simpa [wds] using this
  have h1d := wds_one1 (l.drop k)
  obtain ⟨res, hr⟩ : ∃ r, wds (l.take k ++ x :: l.drop k) = r := ⟨_, rfl⟩
  obtain ⟨T, hT⟩ : ∃ T, wds (l.take k) = T := ⟨_, rfl⟩
  obtain ⟨D, hD⟩ : ∃ D, wds (l.drop k) = D := ⟨_, rfl⟩
  obtain ⟨L, hL⟩ : ∃ L, wds l = L := ⟨_, rfl⟩
  obtain ⟨n, hn⟩ : ∃ n, l.length = n := ⟨_, rfl⟩
  rw [hr, hT, hD] at hres0
  rw [hT, hD, hL] at hcut0
  rw [hT] at hlT
  rw [hL, hT] at hTk0
  rw [hD, hn] at hlD
  rw [hD] at h1d
  rw [hL] at hlL H0
  rw [hn] at hl hk H0 hlL ⊢
  rw [hr]
  have hres := Lib.hid hres0
  have hcut := Lib.hid hcut0
  have hTk := Lib.hid hTk0
  have hlLh := Lib.hid hlL
  clear hr hT hD hL hres0 hcut0 hTk0 hlL hn
  have hsp := own_shape (H0.row 0 rfl)
  have hadd := blk_add (H0.blk 1 rfl)
  by_cases hkn : k = n
  · subst hkn
    have hD0 : D = [] := List.eq_nil_of_length_eq_zero (by omega)
    have hresA := Lib.hid (show res = L ++ (wdC x).toList by rw [hres.out, hcut.out, hD0]; simp)
    have hb : (k + 1) * 32 ≤ 140737488355328 := by omega
    rcases hsp with ⟨rfl, rfl⟩ | ⟨g, cap, rfl, hc, hg⟩
    · go_enter Try.func61, Try.ntmps61
      go_wp2_with (at_builtin; go_must (refine St.list_add H0 0 rfl rfl (.tmp 23) (.tmp 24) 39 rfl Try.underlying39 Try.info41 (by decide) rfl (wdC x).toList rfl rfl (by intro h; cases h) hadd h1 hb ?_; intro v' w1 H1 hz))
      go_ret
      rw [hresA.out]
      exact ⟨v', rfl, H1⟩
    · have hc1 : (k : Int) ≤ (cap : Int) := by omega
      go_enter Try.func61, Try.ntmps61
      go_wp2_with (at_builtin; go_must (refine St.list_add H0 0 rfl rfl (.tmp 23) (.tmp 24) 39 rfl Try.underlying39 Try.info41 (by decide) rfl (wdC x).toList rfl rfl (by intro h; cases h) hadd h1 hb ?_; intro v' w1 H1 hz))
      all_goals
        go_ret
        rw [hresA.out]
        exact ⟨v', rfl, H1⟩
  · have hkl : k < n := by omega
    rcases hsp with ⟨rfl, hz0⟩ | ⟨g, cap, rfl, hc, hg⟩
    · omega
    obtain ⟨n1, hn1⟩ : ∃ n1, n + 1 = n1 := ⟨_, rfl⟩
    obtain ⟨k1, hk1⟩ : ∃ k1, k + 1 = k1 := ⟨_, rfl⟩
    have hw1 : IntKind.i64.wrap ((n : Int) + 1) = (n1 : Int) := by rw [IntKind.wrap_i64]; omega
    have hw2 : IntKind.i64.wrap ((k : Int) + 1) = (k1 : Int) := by rw [IntKind.wrap_i64]; omega
    have z1 : ((k : Int) == (n : Int)) = false := by simp; omega
    have z1' : (k == n) = false := by simp; omega
    have c1 : (n : Int) ≤ (cap : Int) := by omega
    have c2 : (k : Int) ≤ (n : Int) := by omega
    have c3 : (k : Int) ≤ (cap : Int) := by omega
    have c3' : k ≤ cap := by omega
    have c4 : (k : Int) ≤ (n1 : Int) := by omega
    have c4' : k ≤ n1 := by omega
    have c5 : (k1 : Int) ≤ (n1 : Int) := by omega
    have c5' : k1 ≤ n1 := by omega
    have n1c : ¬ cap = k := by omega
    by_cases hcap : cap < n1
    · obtain ⟨d, hd⟩ : ∃ d : Nat, k + d = n1 := ⟨n1 - k, by omega⟩
      have hw3 : IntKind.i64.wrap ((n1 : Int) - (k : Int)) = (d : Int) := by rw [IntKind.wrap_i64]; omega
      have z2 : decide ((cap : Int) < (n1 : Int)) = true := by simp; omega
      go_enter Try.func61, Try.ntmps61
      go_upto_region 10 with (at_builtin; go_must (refine St.list_zeros H0 0 rfl rfl (.tmp 34) (.tmp 39) 39 3 rfl Try.underlying39 Try.underlying3 Try.info41 (by decide) (k := k) (m := d) hd rfl rfl hk (by omega) hcap (by omega) (by omega) ?_; intro G C Z w1 H1 hZ hC hCm hz))
      rw [hTk.out] at H1 hZ
      have n2c : ¬ C = k := by omega
      have n3c : ¬ C = k1 := by omega
      have c6 : (n1 : Int) ≤ (C : Int) := by omega
      have c7 : (k : Int) ≤ (C : Int) := by omega
      have c7' : k ≤ C := by omega
      have c8 : (k1 : Int) ≤ (C : Int) := by omega
      have c8' : k1 ≤ C := by omega
      have hmin : Nat.min 1 (n1 - k) = 1 := by show min 1 (n1 - k) = 1; omega
      have hX : (wdC x).toList.length = Nat.min 1 (n1 - k) * 3 := by rw [hmin]; exact (rfl : #[textV x.key, Value.int .i64 x.frm, .int .i64 x.to].toList.length = 3)
      have hZl : (T ++ Z).length = C * 3 := hZ
      go_upto_region 11 with ((with_reducible show Go.wpList _ _ _ (Oper.mk (some 45) _ _ _ _ _ :: _) _ _); go_must (refine St.list_copyK H1 0 rfl rfl (.tmp 43) (.tmp 44) 39 rfl (elem := 41) (size := 3) Try.underlying39 (by kernel_rfl) rfl rfl (wdC x).toList hX (blk_add (H1.blk 2 rfl) _ rfl) h1 (by rw [hZl]; show k * 3 + 3 ≤ _; omega) ?_; intro w2 H2 hz2))
      clear H1 hadd hz
      have hZ2 : (splice (T ++ Z) (k * 3) (wdC x).toList).length = C * 3 := by
        unfold splice
        have e3 : (wdC x).toList.length = 3 := rfl
        simp only [List.length_append, List.length_take, List.length_drop, e3] at hZl ⊢
        omega
      have hminD : Nat.min (n - k) (n1 - k1) = n - k := by show min (n - k) (n1 - k1) = n - k; omega
      refine wp_calm_tail 8 (fun w' => St S w w' [Blk G (splice (T ++ Z) (k * 3) (wdC x).toList).toArray 41, Row 41 3 (.slice (some ⟨g, 0, none⟩) n cap) n L, Blk g2 (wdC x) 41]) (by kernel_rfl) (by kernel_rfl) (H2.drew) ?_
      simp only [List.take_succ_cons, List.take_zero, List.drop_succ_cons, List.drop_zero]
      iterate 8 first
        | (apply calm_pass
           · rfl
           intro K hK
           go_simp
           refine hK _ ?_
           clear hK K)
        | (apply calm_step
           · rfl
           · intro w1 h1
             first
               | (go_simp
                  first
                    | rfl
                    | exact ⟨rfl, h1⟩
                 )
           intro K hK
           go_simp
           refine hK _ ?_
           clear hK K)
      refine calm_nil ?_
      intro w3 H3
      have hcp := fun j u (hj : D[j]? = some u) => own_cell (H3.row 1 rfl) (show L[k * 3 + j]? = some u by rw [hcut.out, List.getElem?_append_right (by omega), hlT, Nat.add_sub_cancel_left]; exact hj)
      go_wp2_with ((with_reducible show Go.wpList _ _ _ (Oper.mk (some 54) _ _ _ _ _ :: _) _ _); go_must (refine St.list_copyK H3 0 rfl rfl (.tmp 50) (.tmp 53) 39 rfl (elem := 41) (size := 3) Try.underlying39 (by kernel_rfl) rfl rfl D (by rw [hminD]; exact hlD) (fun j u hj => by rw [Addr.add_mid]; exact hcp j u hj) h1d (by rw [hZ2, hlD]; omega) ?_; intro w4 H4 hz4))
      go_ret
      have hfin := ins_new (T := T) (Z := Z) (X := (wdC x).toList) (D := D) (a := k * 3) (b := k1 * 3) (c := n1 * 3) hlT (by show k * 3 + 3 = k1 * 3; omega) (by rw [hlD]; omega) (by rw [hZl]; omega)
      have H5 := H4.blk_row 0 (e := 41) (size := 3) (cap := C) (n := n1) (xs := res) rfl hC hCm (by rw [hfin.2, hZl]) (by rw [hfin.1, hres.out])
      exact ⟨_, rfl, H5.pick [0, 2]⟩
    · obtain ⟨g', cap', R, hv, hnc, hcm, hxl, hcs, HB⟩ := H0.row_blk 0 rfl (by omega)
      obtain ⟨rfl, rfl⟩ : g = g' ∧ cap = cap' := by injection hv with h1 _ h2; injection h1 with h1; injection h1 with h1; exact ⟨h1, h2⟩
      rw [hcut.out] at HB hcs
      have HB : St S w w [Blk g (T ++ D ++ R).toArray 41, Blk g2 (wdC x) 41] := HB
      rw [List.append_assoc] at HB hcs
      clear hv hxl H0 hadd
      have z2 : decide ((cap : Int) < (n1 : Int)) = false := by simp; omega
      have z2' : decide (cap < n1) = false := by simp; omega
      have c6 : (n1 : Int) ≤ (cap : Int) := by omega
      have c6' : n1 ≤ cap := by omega
      have c8 : (k1 : Int) ≤ (cap : Int) := by omega
      have c8' : k1 ≤ cap := by omega
      have n3c : ¬ cap = k1 := by omega
      have hne : g2 ≠ g := fun e => by
        subst e
        obtain ⟨S1, hs1, hs2, S2, hs3, hs4, _⟩ := HB.sep
        exact (hs4 g2 ((hs3.2 g2).2 rfl)).2 ((hs1.2 g2).2 rfl)
      have hov := fun n' c' o2 n2 c2 => overlaps_apart (w := w) (o := 0) (n := n') (c := c') (o2 := o2) (n2 := n2) (c2 := c2) hne (HB.blk 1 rfl) (HB.blk 0 rfl)
      have hminD : Nat.min (n1 - k) (n1 - k1) = n - k := by show min (n1 - k) (n1 - k1) = n - k; omega
      have hmin : Nat.min 1 (n1 - k) = 1 := by show min 1 (n1 - k) = 1; omega
      have hX : (wdC x).toList.length = Nat.min 1 (n1 - k) * 3 := by rw [hmin]; exact (rfl : #[textV x.key, Value.int .i64 x.frm, .int .i64 x.to].toList.length = 3)
      go_enter Try.func61, Try.ntmps61
      go_upto_region 15 with (fail)
      refine wp_calm_tail 8 (fun w' => St S w w' [Blk g (T ++ (D ++ R)).toArray 41, Blk g2 (wdC x) 41]) (by kernel_rfl) (by kernel_rfl) (HB.drew) ?_
      simp only [List.take_succ_cons, List.take_zero, List.drop_succ_cons, List.drop_zero]
      iterate 8 first
        | (apply calm_pass
           · rfl
           intro K hK
           go_simp
           refine hK _ ?_
           clear hK K)
        | (apply calm_step
           · rfl
           · intro w1 h1
             first
               | (go_simp
                  first
                    | rfl
                    | exact ⟨rfl, h1⟩
                 )
           intro K hK
           go_simp
           refine hK _ ?_
           clear hK K)
      refine calm_nil ?_
      intro w3 H3
      have hcp := fun j u (hj : D[j]? = some u) => cell_blk' (H3.blk 0 rfl) (show (T ++ (D ++ R)).toArray[k * 3 + j]? = some u by rw [List.getElem?_toArray, List.getElem?_append_right (by omega), hlT, Nat.add_sub_cancel_left, List.getElem?_append_left (List.getElem?_eq_some_iff.1 hj).1]; exact hj)
      go_upto_region 16 with ((with_reducible show Go.wpList _ _ _ (Oper.mk (some 77) _ _ _ _ _ :: _) _ _); go_must (refine St.list_copyK H3 0 rfl rfl (.tmp 73) (.tmp 76) 39 rfl (elem := 41) (size := 3) Try.underlying39 (by kernel_rfl) rfl rfl D (by rw [hminD]; exact hlD) (fun j u hj => by rw [Addr.add_mid]; exact hcp j u hj) h1d (by rw [hcs, hlD]; omega) ?_; intro w4 H4 hz4))
      have hsl : (splice (T ++ (D ++ R)) (k1 * 3) D).length = cap * 3 := by
        rw [← hcs]
        unfold splice
        simp only [List.length_append, List.length_take, List.length_drop] at hcs ⊢
        omega
      go_wp2_with ((with_reducible show Go.wpList _ _ _ (Oper.mk (some 82) _ _ _ _ _ :: _) _ _); go_must (refine St.list_copyK H4 0 rfl rfl (.tmp 80) (.tmp 81) 39 rfl (elem := 41) (size := 3) Try.underlying39 (by kernel_rfl) rfl rfl (wdC x).toList hX (blk_add (H4.blk 1 rfl) _ rfl) h1 (by rw [hsl]; show k * 3 + 3 ≤ _; omega) ?_; intro w5 H5 hz5))
      go_ret
      have hfin := ins_old (T := T) (R := R) (X := (wdC x).toList) (D := D) (a := k * 3) (b := k1 * 3) (c := n1 * 3) hlT (by show k * 3 + 3 = k1 * 3; omega) (by rw [hlD]; omega) (by rw [hcs]; omega)
      exact ⟨_, rfl, H5.blk_row 0 (e := 41) (size := 3) (cap := cap) (n := n1) (xs := res) rfl c6' hcm (by rw [hfin.2, hcs]) (by rw [hfin.1, hres.out])⟩
end Go.Proofs.Ytoffcoegghigoaa
