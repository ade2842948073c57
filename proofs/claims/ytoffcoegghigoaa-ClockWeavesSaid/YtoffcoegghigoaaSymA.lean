/- Two parts of a row of items exchanged: swapRange, rotate. Condition: so many items. -/
import Derived.Test.YtoffcoegghigoaaSrtM
namespace Go.Proofs.Ytoffcoegghigoaa
open Go.RowKit

/-- What a swap of two items wants and leaves. -/
theorem swap_pack {S : Nat → Prop} {w w1 : World} {g : Nat} {T : List Itm} {R : List Value} {t : TypeId} (H : St S w w1 [Blk g (itms T ++ R).toArray t]) {i j : Nat} {xk xt xv yk yt yv : Int} {xy yy : List UInt8} (hi : T[i]? = some ⟨xk, xy, xt, xv⟩) (hj : T[j]? = some ⟨yk, yy, yt, yv⟩) :
    (w1.cell? ⟨g, i * 4, none⟩ = some (.int .i64 xk) ∧ w1.cell? ⟨g, i * 4 + 1, none⟩ = some (.string ⟨xy.toArray⟩) ∧ w1.cell? ⟨g, i * 4 + 2, none⟩ = some (.int .i64 xt) ∧ w1.cell? ⟨g, i * 4 + 3, none⟩ = some (.int .i64 xv)) ∧
    (w1.cell? ⟨g, j * 4, none⟩ = some (.int .i64 yk) ∧ w1.cell? ⟨g, j * 4 + 1, none⟩ = some (.string ⟨yy.toArray⟩) ∧ w1.cell? ⟨g, j * 4 + 2, none⟩ = some (.int .i64 yt) ∧ w1.cell? ⟨g, j * 4 + 3, none⟩ = some (.int .i64 yv)) ∧
    mayCells w1 g (i * 4) 4 = true ∧ mayCells (w1.drew.setCells g (i * 4) [.int .i64 yk, .string ⟨yy.toArray⟩, .int .i64 yt, .int .i64 yv]) g (j * 4) 4 = true ∧
    Hid (St S w ((w1.drew.setCells g (i * 4) [.int .i64 yk, .string ⟨yy.toArray⟩, .int .i64 yt, .int .i64 yv]).setCells g (j * 4) [.int .i64 xk, .string ⟨xy.toArray⟩, .int .i64 xt, .int .i64 xv]) [Blk g (itms ((T.set i ⟨yk, yy, yt, yv⟩).set j ⟨xk, xy, xt, xv⟩) ++ R).toArray t]) := by
  have hil := (List.getElem?_eq_some_iff.1 hi).1
  have hjl := (List.getElem?_eq_some_iff.1 hj).1
  have q := blk_itms (H.blk 0 rfl) hi
  have p := blk_itms (H.blk 0 rfl) hj
  have H3 : St S w _ [Blk g (itms (T.set i ⟨yk, yy, yt, yv⟩) ++ R).toArray t] := H.drew.setItm 0 rfl i hil ⟨yk, yy, yt, yv⟩
  have H4 : St S w _ [Blk g (itms ((T.set i ⟨yk, yy, yt, yv⟩).set j ⟨xk, xy, xt, xv⟩) ++ R).toArray t] := H3.setItm 0 rfl j (by rw [List.length_set]; exact hjl) ⟨xk, xy, xt, xv⟩
  refine ⟨q, p, mayCells_blk (H.blk 0 rfl) ?_, mayCells_blk (H3.blk 0 rfl) ?_, Lib.hid H4⟩
  · have := itms_len T
    simp only [List.size_toArray, List.length_append]
    omega
  · have := itms_len (T.set i ⟨yk, yy, yt, yv⟩)
    simp only [List.size_toArray, List.length_append, List.length_set] at this ⊢
    omega
theorem itm_one1 (xk : Int) (xy : List UInt8) (xt xv : Int) : allOne #[.int .i64 xk, .string ⟨xy.toArray⟩, .int .i64 xt, .int .i64 xv] = true := by simp [allOne, Value.oneCell']

/-- The first i of Y, then the rest of X. -/
def mixl (Y X : List Itm) (i : Nat) : List Itm := Y.take i ++ X.drop i
theorem mixl_len {X Y : List Itm} {i : Nat} (h : X.length = Y.length) : (mixl Y X i).length = X.length := by
  unfold mixl
  rw [List.length_append, List.length_take, List.length_drop]
  omega
theorem mixl_get {X Y : List Itm} {i : Nat} {x : Itm} (h : X.length = Y.length) (hx : X[i]? = some x) : (mixl Y X i)[i]? = some x := by
  have hi := (List.getElem?_eq_some_iff.1 hx).1
  unfold mixl
  rw [List.getElem?_append_right (by rw [List.length_take]; omega), List.length_take, show i - min i Y.length = 0 by omega, List.getElem?_drop, Nat.add_zero]
  exact hx
theorem mixl_set {X Y : List Itm} {i : Nat} {y : Itm} (h : X.length = Y.length) (hy : Y[i]? = some y) : (mixl Y X i).set i y = mixl Y X (i + 1) := by
  have hi := (List.getElem?_eq_some_iff.1 hy).1
  unfold mixl
  rw [take_snoc' hy, List.set_append_right _ _ (by rw [List.length_take]; omega), List.length_take, show i - min i Y.length = 0 by omega, List.drop_eq_getElem_cons (by omega : i < X.length), List.set_cons_zero, List.append_assoc]
  rfl
theorem mixl_zero (X Y : List Itm) : mixl Y X 0 = X := by simp [mixl]
theorem mixl_all {X Y : List Itm} (h : X.length = Y.length) : mixl Y X X.length = Y := by
  unfold mixl
  rw [List.take_of_length_le (by omega), List.drop_of_length_le (by omega), List.append_nil]
def swT (P X Q Y D : List Itm) (i : Nat) : List Itm := P ++ (mixl Y X i ++ (Q ++ (mixl X Y i ++ D)))
theorem swT_step {P X Q Y D : List Itm} {a b c n i : Nat} {x y : Itm} (hP : P.length = a) (hX : X.length = c) (hQ : a + c + Q.length = b) (hY : Y.length = c) (hn : b + c + D.length = n) (hx : X[i]? = some x) (hy : Y[i]? = some y) :
    (swT P X Q Y D i)[a + i]? = some x ∧ (swT P X Q Y D i)[b + i]? = some y ∧ ((swT P X Q Y D i).set (a + i) y).set (b + i) x = swT P X Q Y D (i + 1) ∧ (swT P X Q Y D i).length = n := by
  have hi := (List.getElem?_eq_some_iff.1 hx).1
  have l1 : (mixl Y X i).length = c := by rw [mixl_len (by omega), hX]
  have l2 : (mixl X Y i).length = c := by rw [mixl_len (by omega), hY]
  have l3 : (mixl Y X (i + 1)).length = c := by rw [mixl_len (by omega), hX]
  unfold swT
  refine ⟨?_, ?_, ?_, ?_⟩
  · rw [List.getElem?_append_right (by omega), hP, show a + i - a = i by omega, List.getElem?_append_left (by omega)]
    exact mixl_get (by omega) hx
  · rw [List.getElem?_append_right (by omega), hP, List.getElem?_append_right (by omega), l1, List.getElem?_append_right (by omega), show b + i - a - c - Q.length = i by omega, List.getElem?_append_left (by omega)]
    exact mixl_get (by omega) hy
  · have e1 : (P ++ (mixl Y X i ++ (Q ++ (mixl X Y i ++ D)))).set (a + i) y = P ++ (mixl Y X (i + 1) ++ (Q ++ (mixl X Y i ++ D))) := by
      rw [List.set_append_right _ _ (by omega), hP, show a + i - a = i by omega, List.set_append_left _ _ (by omega), mixl_set (by omega) hy]
    rw [e1, List.set_append_right _ _ (by omega), hP, List.set_append_right _ _ (by omega), l3, List.set_append_right _ _ (by omega), show b + i - a - c - Q.length = i by omega, List.set_append_left _ _ (by omega), mixl_set (by omega) hx]
  · simp only [List.length_append]
    omega

section
attribute [local go_sem ↓] run_storeItm
set_option maxHeartbeats 4000000 in
set_option maxRecDepth 100000 in
theorem swap_range {g n cap a b c : Nat} {P X Q Y D : List Itm} {R : List Value} {w : World} {S : Nat → Prop} (hP : P.length = a) (hX : X.length = c) (hQ : a + c + Q.length = b) (hY : Y.length = c) (hn : b + c + D.length = n) (hnb : n ≤ 3518437208880)
    (H : Sep w [Blk g (itms (P ++ (X ++ (Q ++ (Y ++ D)))) ++ R).toArray 85] S) :
    Calls Try.prog 102 #[.slice (some ⟨g, 0, none⟩) n cap, .int .i64 a, .int .i64 b, .int .i64 c, cmpV] w fun e w' => e = .returned (.tuple #[]) ∧ St S w w' [Blk g (itms (P ++ (Y ++ (Q ++ (X ++ D)))) ++ R).toArray 85] := by
  have hstep := fun (i : Nat) (x y : Itm) => swT_step (i := i) (x := x) (y := y) hP hX hQ hY hn
  have h0 : St S w w [Blk g (itms (swT P X Q Y D 0) ++ R).toArray 85] := by
    unfold swT
    rw [mixl_zero, mixl_zero]
    exact St.refl H
  have hend : Hid (swT P X Q Y D c = P ++ (Y ++ (Q ++ (X ++ D)))) := Lib.hid (by
    have e1 := mixl_all (X := X) (Y := Y) (by omega)
    have e2 := mixl_all (X := Y) (Y := X) (by omega)
    rw [hX] at e1
    rw [hY] at e2
    unfold swT
    rw [e1, e2])
  obtain ⟨T, hT⟩ : ∃ T, swT P X Q Y D = T := ⟨_, rfl⟩
  simp only [hT] at hstep h0 hend
  have hac : a + c ≤ b := by omega
  have hbn : b + c ≤ n := by omega
  clear hT hP hQ hn H
  unfold cmpV
  go_enter Try.func102, Try.ntmps102
  go_upto_block 1 with (fail)
  go_loopw [10] (fun s wr => ∃ i : Nat, i ≤ c ∧ s = .int .i64 i ∧ St S w wr [Blk g (itms (T i) ++ R).toArray 85]) (fun s _ => c - (intOf s).toNat)
  case atStart => exact ⟨0, by omega, rfl, h0⟩
  case round =>
    clear h0
    obtain ⟨i, hic, rfl, HM⟩ := hrel
    by_cases hi : i < c
    · obtain ⟨x, hx⟩ : ∃ x, X[i]? = some x := ⟨_, List.getElem?_eq_getElem (by omega)⟩
      obtain ⟨y, hy⟩ : ∃ y, Y[i]? = some y := ⟨_, List.getElem?_eq_getElem (by omega)⟩
      obtain ⟨s1, s2, s3, s4⟩ := hstep i x y hx hy
      have s3h := Lib.hid s3
      clear hstep s3 hx hy hX hY hend
      obtain ⟨p, hp⟩ : ∃ p, a + i = p := ⟨_, rfl⟩
      obtain ⟨q, hq⟩ : ∃ q, b + i = q := ⟨_, rfl⟩
      rw [hp] at s1 s3h
      rw [hq] at s2 s3h
      have w1 : IntKind.i64.wrap ((a : Int) + (i : Int)) = (p : Int) := by rw [IntKind.wrap_i64]; omega
      have w2 : IntKind.i64.wrap ((b : Int) + (i : Int)) = (q : Int) := by rw [IntKind.wrap_i64]; omega
      have hpn : (p : Int) < (n : Int) := by omega
      have hqn : (q : Int) < (n : Int) := by omega
      have hpn' : p < n := by omega
      have hqn' : q < n := by omega
      obtain ⟨xk, xy, xt, xv⟩ := x
      obtain ⟨yk, yy, yt, yv⟩ := y
      obtain ⟨⟨q0, q1, q2, q3⟩, ⟨p0, p1, p2, p3⟩, m1, m2, H4⟩ := swap_pack HM s1 s2
      have a1 := itm_one1 xk xy xt xv
      have a2 := itm_one1 yk yy yt yv
      have hph := Lib.hid hp
      have hqh := Lib.hid hq
      clear HM hp hq s1 s2 s4
      go_upto_region 3 with (fail)
      go_region
      clear q0 q1 q2 q3 p0 p1 p2 p3 m1 m2 a1 a2
      go_wp2
      go_roundw
      case rel =>
        refine ⟨i + 1, by omega, by go_num, ?_⟩
        have H5 := H4.out
        rw [s3h.out] at H5
        exact H5
      case measure => simp [intOf]; omega
    · obtain rfl : i = c := by omega
      go_wp2
      go_end0
      rw [← hend.out]
      exact ⟨rfl, HM⟩
end

set_option maxHeartbeats 4000000 in
set_option maxRecDepth 100000 in
theorem rotate_range {g n cap a m b : Nat} {P X Y D : List Itm} {R : List Value} {w : World} {S : Nat → Prop} (hP : P.length = a) (hX : a + X.length = m) (hY : m + Y.length = b) (hn : b + D.length = n) (hX0 : a < m) (hY0 : m < b) (hnb : n ≤ 3518437208880)
    (H : Sep w [Blk g (itms (P ++ (X ++ (Y ++ D))) ++ R).toArray 85] S) :
    Calls Try.prog 100 #[.slice (some ⟨g, 0, none⟩) n cap, .int .i64 a, .int .i64 m, .int .i64 b, cmpV] w fun e w' => e = .returned (.tuple #[]) ∧ St S w w' [Blk g (itms (P ++ (Y ++ (X ++ D))) ++ R).toArray 85] := by
  obtain ⟨F, hF⟩ : ∃ F, P ++ (Y ++ (X ++ D)) = F := ⟨_, rfl⟩
  obtain ⟨T, hT⟩ : ∃ T, P ++ (X ++ (Y ++ D)) = T := ⟨_, rfl⟩
  have H0 := St.refl H
  rw [hT] at H0
  rw [hF]
  have hinv : ∃ (P' X' Y' D' : List Itm), Hid (T = P' ++ (X' ++ (Y' ++ D'))) ∧ Hid (F = P' ++ (Y' ++ (X' ++ D'))) ∧ P'.length + (m - a) = m ∧ X'.length = m - a ∧ Y'.length = b - m ∧ m + (b - m) + D'.length = n :=
    ⟨P, X, Y, D, Lib.hid hT.symm, Lib.hid hF.symm, by omega, by omega, by omega, by omega⟩
  have w1 : IntKind.i64.wrap ((m : Int) - (a : Int)) = ((m - a : Nat) : Int) := by rw [IntKind.wrap_i64]; omega
  have w2 : IntKind.i64.wrap ((b : Int) - (m : Int)) = ((b - m : Nat) : Int) := by rw [IntKind.wrap_i64]; omega
  obtain ⟨i0, hi0⟩ : ∃ i0, m - a = i0 := ⟨_, rfl⟩
  obtain ⟨j0, hj0⟩ : ∃ j0, b - m = j0 := ⟨_, rfl⟩
  rw [hi0] at w1 hinv
  rw [hj0] at w2 hinv
  have hi00 : 0 < i0 := by omega
  have hj00 : 0 < j0 := by omega
  have hbig : i0 + j0 ≤ n := by omega
  clear hF hT hP hX hY hn H hi0 hj0 hX0 hY0
  unfold cmpV
  go_enter Try.func100, Try.ntmps100
  go_upto_block 1 with (fail)
  go_loopw [10, 11] (fun s t wr => ∃ (i j : Nat) (T : List Itm), s = .int .i64 i ∧ t = .int .i64 j ∧ 0 < i ∧ 0 < j ∧ i + j ≤ n ∧ (∃ (P' X' Y' D' : List Itm), Hid (T = P' ++ (X' ++ (Y' ++ D'))) ∧ Hid (F = P' ++ (Y' ++ (X' ++ D'))) ∧ P'.length + i = m ∧ X'.length = i ∧ Y'.length = j ∧ m + j + D'.length = n) ∧ St S w wr [Blk g (itms T ++ R).toArray 85]) (fun s t _ => (intOf s).toNat + (intOf t).toNat)
  case atStart => exact ⟨i0, j0, T, by go_num, by go_num, hi00, hj00, hbig, hinv, H0⟩
  case round =>
    clear hinv H0 w1 w2 hi00 hj00 hbig
    obtain ⟨i, j, T', rfl, rfl, hi, hj, hij, ⟨P', X', Y', D', hT, hF, hP, hX, hY, hD⟩, HM⟩ := hrel
    obtain ⟨S1, K1, G1⟩ := St.call (l1 := [_]) (l2 := []) HM
    have wd : IntKind.i64.wrap ((m : Int) - (i : Int)) = ((m - i : Nat) : Int) := by rw [IntKind.wrap_i64]; omega
    obtain ⟨p, hp⟩ : ∃ p, m - i = p := ⟨_, rfl⟩
    rw [hp] at wd
    rw [hT.out] at K1
    rcases Nat.lt_trichotomy j i with hlt | rfl | hlt
    · have k1 := swap_range (cap := cap) (a := p) (b := m) (c := j) (P := P') (X := X'.take j) (Q := X'.drop j) (Y := Y') (D := D') (R := R) (w := wr) (S := S1) (n := n) (by omega) (by rw [List.length_take]; omega) (by rw [List.length_drop]; omega) hY hD hnb (by
        rw [← List.append_assoc (X'.take j), List.take_append_drop]; exact K1)
      have hn2 : ∃ (P'' X'' Y'' D'' : List Itm), Hid (P' ++ (Y' ++ (X'.drop j ++ (X'.take j ++ D'))) = P'' ++ (X'' ++ (Y'' ++ D''))) ∧ Hid (F = P'' ++ (Y'' ++ (X'' ++ D''))) ∧ P''.length + (i - j) = m ∧ X''.length = i - j ∧ Y''.length = j ∧ m + j + D''.length = n := by
        refine ⟨P' ++ Y', X'.drop j, X'.take j, D', Lib.hid (by simp), Lib.hid ?_, by rw [List.length_append]; omega, by rw [List.length_drop]; omega, by rw [List.length_take]; omega, hD⟩
        rw [hF.out, ← List.append_assoc (X'.take j), List.take_append_drop, List.append_assoc]
      have hne : ¬ ((i : Int) = (j : Int)) := by omega
      have hgt : (j : Int) < (i : Int) := by omega
      have ws : IntKind.i64.wrap ((i : Int) - (j : Int)) = ((i - j : Nat) : Int) := by rw [IntKind.wrap_i64]; omega
      unfold cmpV at k1
      clear K1 hT hF
      go_wp2_with (go_at_call 102; go_must (refine k1.mono ?_; rintro e w3 ⟨rfl, H3⟩; have H4 := G1 _ _ H3))
      go_roundw
      case rel => exact ⟨i - j, j, _, by go_num, rfl, by omega, hj, by omega, hn2, H4⟩
      case measure => simp [intOf]; omega
    · have k1 := swap_range (cap := cap) (a := p) (b := m) (c := j) (P := P') (X := X') (Q := []) (Y := Y') (D := D') (R := R) (w := wr) (S := S1) (n := n) (by omega) hX (by simp; omega) hY hD hnb (by simpa using K1)
      unfold cmpV at k1
      have hfin := Lib.hid (show P' ++ (Y' ++ ([] ++ (X' ++ D'))) = F by rw [hF.out]; rfl)
      clear K1 hT hF
      go_wp2_with (go_at_call 102; go_must (refine k1.mono ?_; rintro e w3 ⟨rfl, H3⟩; have H4 := G1 _ _ H3))
      go_end0
      rw [← hfin.out]
      exact ⟨rfl, H4⟩
    · have wm : IntKind.i64.wrap ((m : Int) + (j : Int)) = ((m + j : Nat) : Int) := by rw [IntKind.wrap_i64]; omega
      obtain ⟨mj, hmj⟩ : ∃ mj, m + j = mj := ⟨_, rfl⟩
      rw [hmj] at wm
      have wq : IntKind.i64.wrap ((mj : Int) - (i : Int)) = ((mj - i : Nat) : Int) := by rw [IntKind.wrap_i64]; omega
      obtain ⟨q, hq⟩ : ∃ q, mj - i = q := ⟨_, rfl⟩
      rw [hq] at wq
      have k1 := swap_range (cap := cap) (a := p) (b := q) (c := i) (P := P') (X := X') (Q := Y'.take (j - i)) (Y := Y'.drop (j - i)) (D := D') (R := R) (w := wr) (S := S1) (n := n) (by omega) hX (by rw [List.length_take]; omega) (by rw [List.length_drop]; omega) (by omega) hnb (by
        rw [← List.append_assoc (Y'.take (j - i)), List.take_append_drop]; exact K1)
      have hn2 : ∃ (P'' X'' Y'' D'' : List Itm), Hid (P' ++ (Y'.drop (j - i) ++ (Y'.take (j - i) ++ (X' ++ D'))) = P'' ++ (X'' ++ (Y'' ++ D''))) ∧ Hid (F = P'' ++ (Y'' ++ (X'' ++ D''))) ∧ P''.length + i = m ∧ X''.length = i ∧ Y''.length = j - i ∧ m + (j - i) + D''.length = n := by
        refine ⟨P', Y'.drop (j - i), Y'.take (j - i), X' ++ D', Lib.hid rfl, Lib.hid ?_, by omega, by rw [List.length_drop]; omega, by rw [List.length_take]; omega, by rw [List.length_append]; omega⟩
        rw [hF.out, ← List.append_assoc (Y'.take (j - i)), List.take_append_drop]
      have hne : ¬ ((i : Int) = (j : Int)) := by omega
      have hgt : ¬ (j : Int) < (i : Int) := by omega
      have ws : IntKind.i64.wrap ((j : Int) - (i : Int)) = ((j - i : Nat) : Int) := by rw [IntKind.wrap_i64]; omega
      unfold cmpV at k1
      clear K1 hT hF
      go_wp2_with (go_at_call 102; go_must (refine k1.mono ?_; rintro e w3 ⟨rfl, H3⟩; have H4 := G1 _ _ H3))
      go_roundw
      case rel => exact ⟨i, j - i, _, rfl, by go_num, hi, by omega, by omega, hn2, H4⟩
      case measure => simp [intOf]; omega
end Go.Proofs.Ytoffcoegghigoaa
