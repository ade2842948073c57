/- The walk of the document's Seek. Condition: so many records. -/
import Derived.Test.YtbikjhmdpgoofaaIdxU
import Derived.Test.YtbikjhmdpgoofaaIdxV
namespace Go.Proofs.Ytbikjhmdpgoofaa
open Go.RowKit

/-- The document's Of at any width and any list. -/
theorem ref_of_any {l : List Rcd} {v : Value} (width : Int) (w : World) (hv : RcsRO w v l) (hll : l.length ≤ 1000000) (hN : (l.map fun r => r.items.length).sum ≤ 1000000000) :
    Calls Try.prog 30 #[.int .i64 width, v] w fun e w' => ∃ v' vals rows, e = .returned v' ∧ Cover vals rows (ofS width l) ∧ St (fun _ => False) w w' [SP.all rows, Row 67 1 v' vals.length vals] := by
  unfold ofS
  by_cases hg : (2 ≤ width ∧ width ≤ 64) ∧ l ≠ []
  · rw [if_pos hg]
    obtain ⟨n, rfl⟩ : ∃ n : Nat, width = n := ⟨width.toNat, by omega⟩
    exact ref_of n w hv hg.2 hll hN (by omega)
  · rw [if_neg hg]
    have H0 : St (fun _ => False) w w [SP.all [], Row 67 1 (.slice none 0 0) 0 []] := St.all_iff.2 ((St.nil (fun _ => False) w).row_nil 67 1)
    obtain ⟨ao, cap, rfl, _⟩ := hv
    go_enter Try.func30, Try.ntmps30
    by_cases h1 : width < 2
    · have z1 : decide (width < 2) = true := by simpa using h1
      go_wp2
      go_ret
      first
        | exact ⟨_, [], [], rfl, ⟨rfl, fun k v s h => by simp at h⟩, H0⟩
        | exact ⟨_, rfl, [], [], ⟨rfl, fun k v s h => by simp at h⟩, H0⟩
    · have z1 : decide (width < 2) = false := by simpa using h1
      by_cases h2 : 64 < width
      · have z2 : decide (64 < width) = true := by simpa using h2
        go_wp2
        go_ret
        first
        | exact ⟨_, [], [], rfl, ⟨rfl, fun k v s h => by simp at h⟩, H0⟩
        | exact ⟨_, rfl, [], [], ⟨rfl, fun k v s h => by simp at h⟩, H0⟩
      · have z2 : decide (64 < width) = false := by simpa using h2
        have hl : l = [] := Decidable.byContradiction fun h => hg ⟨by omega, h⟩
        subst hl
        go_wp2
        go_ret
        first
        | exact ⟨_, [], [], rfl, ⟨rfl, fun k v s h => by simp at h⟩, H0⟩
        | exact ⟨_, rfl, [], [], ⟨rfl, fun k v s h => by simp at h⟩, H0⟩
/-- What Seek finds at a level. -/
def atS (lv : List (List Str)) (a b : Int) (kk : Nat) : List Str := if kk = 0 then (lv.getD 0 []).filter (fun x => meetsS x a b) else []
def inS (s : List Str) (a b : Int) (k i : Nat) : List Str := if k = 0 then (s.take i).filter (fun x => meetsS x a b) else []
theorem inS_step {s : List Str} {x : Str} (a b : Int) (k : Nat) {i : Nat} (h : s[i]? = some x) : inS s a b k (i + 1) = if k = 0 ∧ meetsS x a b = true then inS s a b k i ++ [x] else inS s a b k i := by
  unfold inS
  by_cases hk : k = 0
  · rw [if_pos hk, if_pos hk, take_snoc' h, List.filter_append]
    by_cases hm : meetsS x a b = true
    · rw [if_pos ⟨hk, hm⟩]; simp [hm]
    · rw [if_neg (fun h => hm h.2)]; simp [hm]
  · rw [if_neg hk, if_neg hk, if_neg (fun h => hk h.1)]
theorem inS_len (s : List Str) (a b : Int) (k i : Nat) : (inS s a b k i).length ≤ i := by
  unfold inS
  split
  · have := List.length_filter_le (fun x => meetsS x a b) (s.take i)
    rw [List.length_take] at this
    omega
  · simp
theorem looks_le (lv : List (List Str)) (w : Nat) (a b : Int) (k : Nat) : ∀ n, looksS lv w a b k n ≤ n
  | 0 => Nat.le_refl _
  | n + 1 => by
    have := looks_le lv w a b k n
    unfold looksS at this ⊢
    rw [sumN]
    split <;> omega
theorem ofS_tall {l : List Rcd} {width : Int} (h : ofS width l ≠ []) : ∃ wn : Nat, width = wn ∧ 2 ≤ wn ∧ wn ≤ 64 ∧ Tall wn ((ofS width l).getD 0 []) (ofS width l) ((ofS width l).length - 1) := by
  unfold ofS at h ⊢
  by_cases hg : (2 ≤ width ∧ width ≤ 64) ∧ l ≠ []
  · rw [if_pos hg] at h ⊢
    obtain ⟨n, rfl⟩ : ∃ n : Nat, width = n := ⟨width.toNat, by omega⟩
    refine ⟨n, rfl, by omega, by omega, ?_⟩
    simp only [Int.toNat_natCast]
    have := climb_tall n l.length (l.map fun r => oneS r.seq r.items)
    exact ⟨rfl, this.2⟩
  · rw [if_neg hg] at h
    exact absurd rfl h

set_option maxHeartbeats 4000000 in
set_option maxRecDepth 100000 in
theorem ref_seek {l : List Rcd} {v : Value} (width t0 t1 : Int) (w : World) (hv : RcsRO w v l) (hll : l.length ≤ 1000) (hN : (l.map fun r => r.items.length).sum ≤ 1000000000) :
    Calls Try.prog 33 #[.int .i64 width, v, .int .i64 t0, .int .i64 t1] w fun e w' => ∃ v', e = .returned (.tuple #[v', .int .i64 ((sumN (fun j => looksS (ofS width l) width.toNat t0 t1 j ((ofS width l).getD j []).length) (ofS width l).length : Nat) : Int)]) ∧
      St (fun _ => False) w w' [Row 76 4 v' (atS (ofS width l) t0 t1 0).length (strs (atS (ofS width l) t0 t1 0))] := by
  have ko := ref_of_any width w hv (by omega) hN
  obtain ⟨hf1, hf2, _, hf4⟩ := ofS_facts (width := width) hll
  have htall := @ofS_tall l width
  have hbig : sumN (fun j => looksS (ofS width l) width.toNat t0 t1 j ((ofS width l).getD j []).length) (ofS width l).length ≤ 1001000 := Nat.le_trans (sumN_le (fun i => looks_le _ _ _ _ _ _) _) hf4
  obtain ⟨lv, hlv⟩ : ∃ lv, ofS width l = lv := ⟨_, rfl⟩
  rw [hlv] at ko hf1 hf2 htall hbig ⊢
  have hl3 : lv.length ≤ 2000 := by
    rw [← hlv]
    unfold ofS
    split
    · have := (climb_len width.toNat l.length (l.map fun r => oneS r.seq r.items)).1
      omega
    · simp
  clear hlv hf4
  obtain ⟨ao, cap, rfl, _⟩ := id hv
  obtain ⟨C, hC⟩ : ∃ C : Nat → Nat, (fun j => looksS lv width.toNat t0 t1 j (lv.getD j []).length) = C := ⟨_, rfl⟩
  rw [hC] at hbig ⊢
  have hCe := Lib.hid (show ∀ j, C j = looksS lv width.toNat t0 t1 j (lv.getD j []).length from fun j => by rw [← hC])
  clear hC
  obtain ⟨NN, hNN⟩ : ∃ NN, sumN C lv.length = NN := ⟨_, rfl⟩
  rw [hNN] at hbig ⊢
  have hNh := Lib.hid hNN
  clear hNN
  go_enter Try.func33, Try.ntmps33
  go_upto_region 2 with (go_at_call 30; go_must (refine ko.mono ?_; rintro e w1 ⟨lvv, vals, rows, rfl, hcov, K1⟩; rw [hcov.1] at K1; obtain ⟨oa, oc, rfl, _, hog⟩ := slice_form' (K1.row 1 rfl)))
  have hwm : IntKind.i64.wrap ((lv.length : Int) - 1) = (lv.length : Int) - 1 := by rw [IntKind.wrap_i64]; omega
  have H1 : St (fun _ => False) w w1 [Row 76 4 (.slice none 0 0) 0 (strs []), SP.all rows, Row 67 1 (.slice oa lv.length oc) lv.length vals] := K1.row_nil 76 4
  have hlev : ∀ (k : Nat) (s : List Str), lv[k]? = some s → ∃ a c, vals[k]? = some (.slice a s.length c) ∧ Row 76 4 (.slice a s.length c) s.length (strs s) ∈ rows := fun k s hs => by
    obtain ⟨u, hu⟩ : ∃ u, vals[k]? = some u := ⟨_, List.getElem?_eq_getElem (by rw [hcov.1]; exact (List.getElem?_eq_some_iff.1 hs).1)⟩
    have hm := hcov.2 k u s hu hs
    obtain ⟨a, c, rfl, _, _⟩ := slice_form' (rows_get K1 hm)
    exact ⟨a, c, hu, hm⟩
  clear ko K1 hcov
  go_upto_block 1 with (fail)
  go_loopw [11, 12, 13] (fun u n j wr => ∃ (kk N : Nat), kk ≤ lv.length ∧ j = .int .i64 ((kk : Int) - 1) ∧ n = .int .i64 N ∧ Hid (N + sumN C kk = NN) ∧ N ≤ 1001000 ∧ St (fun _ => False) w wr [Row 76 4 u (atS lv t0 t1 kk).length (strs (atS lv t0 t1 kk)), SP.all rows, Row 67 1 (.slice oa lv.length oc) lv.length vals]) (fun _ _ j _ => (intOf j + 1).toNat)
  case atStart =>
    refine ⟨lv.length, 0, by omega, rfl, rfl, Lib.hid (by rw [hNh.out]; omega), by omega, ?_⟩
    have : atS lv t0 t1 lv.length = [] := by
      unfold atS
      split
      · rename_i h
        rw [List.eq_nil_of_length_eq_zero h]; rfl
      · rfl
    rw [this]
    exact H1
  case round =>
    clear H1
    obtain ⟨kk, N, hkk, rfl, rfl, hNk, hNl, HL⟩ := hrel
    rcases Nat.eq_zero_or_pos kk with h0 | h0
    · subst h0
      have hfin := Lib.hid (show N = NN by have := hNk.out; simpa [sumN] using this)
      clear hNk
      obtain ⟨ua, uc, rfl, _, _⟩ := slice_form' (HL.row 0 rfl)
      go_wp2
      go_ret2
      rw [hfin.out]
      exact ⟨_, rfl, HL.pick [0]⟩
    · obtain ⟨k, rfl⟩ : ∃ k, kk = k + 1 := ⟨kk - 1, by omega⟩
      obtain ⟨s, hs⟩ : ∃ s, lv[k]? = some s := ⟨_, List.getElem?_eq_getElem (by omega)⟩
      have hgd : lv.getD k [] = s := by rw [List.getD_eq_getElem?_getD, hs]; rfl
      obtain ⟨wn, rfl, hw1, hw2, ht⟩ := htall (by rintro rfl; simp at hs)
      have hsl := hf1 s (List.mem_of_getElem? hs)
      have hk1 : ((k + 1 : Nat) : Int) - 1 = (k : Int) := by omega
      have hkz : (k : Int) + 1 - 1 = (k : Int) := by omega
      have hNs := Lib.hid (show N + looksS lv wn t0 t1 k s.length + sumN C k = NN by
        have := hNk.out
        rw [sumN, hCe.out k, hgd] at this
        simp only [Int.toNat_natCast] at this
        omega)
      have hNl2 : N + s.length ≤ 100000000 := by omega
      have hHM : St (fun _ => False) w wr [Row 76 4 u11 (inS s t0 t1 k 0).length (strs (inS s t0 t1 k 0)), SP.all rows, Row 67 1 (.slice oa lv.length oc) lv.length vals] := by
        have e1 : atS lv t0 t1 (k + 1) = [] := rfl
        have e2 : inS s t0 t1 k 0 = [] := by unfold inS; split <;> rfl
        rw [e1] at HL
        rw [e2]
        exact HL
      obtain ⟨b, rfl⟩ := hog (by omega)
      obtain ⟨ad', cap', hvk, hmem⟩ := hlev k s hs
      have c0 := HL.rowCell 2 k rfl hvk
      have hkl : k < lv.length := by omega
      rw [hk1]
      clear HL hNk hkk
      go_upto_block 3 with (fail)
      clear c0
      go_loopw [11, 12, 34] (fun u n j wr => ∃ (i : Nat), i ≤ s.length ∧ j = .int .i64 i ∧ n = .int .i64 ((N + looksS lv wn t0 t1 k i : Nat) : Int) ∧ St (fun _ => False) w wr [Row 76 4 u (inS s t0 t1 k i).length (strs (inS s t0 t1 k i)), SP.all rows, Row 67 1 (.slice (some ⟨b, 0, none⟩) lv.length oc) lv.length vals]) (fun _ _ j _ => s.length - (intOf j).toNat)
      case atStart => exact ⟨0, by omega, rfl, rfl, hHM⟩
      case round =>
        clear hHM
        obtain ⟨i, hi, rfl, rfl, HM⟩ := hrel
        by_cases hlt : i < s.length
        · obtain ⟨x, hx⟩ : ∃ x, s[i]? = some x := ⟨_, List.getElem?_eq_getElem hlt⟩
          obtain ⟨_, _, e1, _, e2⟩ := (str_row (rows_get (HM.pick [1]) hmem)).1
          obtain ⟨fb, fo, rfl, _, hfc⟩ := e2 (by rintro rfl; simp at hlt)
          cases e1
          obtain ⟨q0, q1, q2, q3⟩ := str_cells (hfc i x hx) rfl
          have hin := Lib.hid (inS_step t0 t1 k hx)
          have hil := inS_len s t0 t1 k i
          have hlo := looks_le lv wn t0 t1 k i
          have hln := Lib.hid (show looksS lv wn t0 t1 k (i + 1) = looksS lv wn t0 t1 k i + (if seenS lv wn t0 t1 k i (lv.length - 1 - k) then 1 else 0) from rfl)
          have hup := Lib.hid (fun n (hn : k + n < lv.length) => up_in (show 0 < wn by omega) ht (k := k) (i := i) (by rw [hgd]; exact hlt) n hn)
          have kmx := fun w' => ref_meets x t0 t1 w'
          obtain ⟨mx, hmx⟩ : ∃ mx, meetsS x t0 t1 = mx := ⟨_, rfl⟩
          rw [hmx] at hin kmx
          obtain ⟨Q, hQ⟩ : ∃ Q, inS s t0 t1 k i = Q := ⟨_, rfl⟩
          rw [hQ] at hin hil HM
          obtain ⟨T, hT⟩ : ∃ T, looksS lv wn t0 t1 k i = T := ⟨_, rfl⟩
          rw [hT] at hln hlo ⊢
          obtain ⟨NT, hNT⟩ : ∃ NT, N + T = NT := ⟨_, rfl⟩
          rw [hNT]
          have hln2 := Lib.hid (show N + looksS lv wn t0 t1 k (i + 1) = NT + (if seenS lv wn t0 t1 k i (lv.length - 1 - k) then 1 else 0) by rw [hln.out, ← hNT]; omega)
          have hNTl : NT ≤ 200000000 := by omega
          clear hNT hln hlo
          clear hx hfc e2 hgd hQ hmx hs hT
          obtain ⟨xf, xt, xl, xg⟩ := x
          unfold strV at kmx
          simp only at q0 q1 q2 q3 hin kmx
          have HA : St (fun _ => False) w _ [_, _, _, _] := HM.allocAt rfl #[.int .i64 xf, .int .i64 xt, .int .i64 xl, .int .i64 xg] 76
          go_upto_region 10 with (fail)
          obtain ⟨wa, hwa⟩ : ∃ wa, wr.alloc (.cells #[.int .i64 xf, .int .i64 xt, .int .i64 xl, .int .i64 xg] 76) = wa := ⟨_, rfl⟩
          obtain ⟨ob, hob⟩ : ∃ ob, wr.heap.size = ob := ⟨_, rfl⟩
          rw [hwa, hob] at HA
          try rw [hwa]
          try simp only [hob]
          clear hwa hob q0 q1 q2 q3 HM
          have hwk1 : IntKind.i64.wrap ((k : Int) + 1) = ((k + 1 : Nat) : Int) := by rw [IntKind.wrap_i64]; omega
          go_upto_block 5 with (fail)
          clear hwk1
          go_loopw [16, 17, 18] (fun sn av up wr => ∃ (m : Nat), k + 1 ≤ m ∧ m ≤ lv.length ∧ up = .int .i64 m ∧ sn = .bool (seenS lv wn t0 t1 k i (m - (k + 1))) ∧ av = .int .i64 ((i / wn ^ (m - (k + 1)) : Nat) : Int) ∧ St (fun _ => False) w wr [Blk ob #[.int .i64 xf, .int .i64 xt, .int .i64 xl, .int .i64 xg] 76, Row 76 4 u11 Q.length (strs Q), SP.all rows, Row 67 1 (.slice (some ⟨b, 0, none⟩) lv.length oc) lv.length vals]) (fun _ _ j _ => lv.length - (intOf j).toNat)
          case atStart => exact ⟨k + 1, by omega, by omega, by go_num, by rw [Nat.sub_self]; rfl, by rw [Nat.sub_self, Nat.pow_zero, Nat.div_one], HA⟩
          case round =>
            clear HA
            obtain ⟨m, hm1, hm2, rfl, rfl, rfl, HB⟩ := hrel
            obtain ⟨n, hn⟩ : ∃ n, m - (k + 1) = n := ⟨_, rfl⟩
            rw [hn]
            by_cases hml : m < lv.length
            · obtain ⟨s2, hs2⟩ : ∃ s2, lv[m]? = some s2 := ⟨_, List.getElem?_eq_getElem hml⟩
              have hn2 : m + 1 - (k + 1) = n + 1 := by omega
              have hkm : k + 1 + n = m := by omega
              have hss := Lib.hid (show seenS lv wn t0 t1 k i (m + 1 - (k + 1)) = (seenS lv wn t0 t1 k i n && meetsAt lv t0 t1 m (i / wn ^ (n + 1))) by rw [hn2, seenS, hkm])
              have hpp := Lib.hid (show i / wn ^ (m + 1 - (k + 1)) = i / wn ^ n / wn by rw [hn2, Nat.pow_succ, ← Nat.div_div_eq_div_mul])
              have hA2 : i / wn ^ (n + 1) = i / wn ^ n / wn := by rw [Nat.pow_succ, ← Nat.div_div_eq_div_mul]
              have hin2 := hup.out (n + 1) (by omega)
              rw [show k + (n + 1) = m by omega, List.getD_eq_getElem?_getD, hs2, hA2] at hin2
              simp only [Option.getD_some] at hin2
              obtain ⟨y, hy⟩ : ∃ y, s2[i / wn ^ n / wn]? = some y := ⟨_, List.getElem?_eq_getElem hin2⟩
              have hma : meetsAt lv t0 t1 m (i / wn ^ (n + 1)) = meetsS y t0 t1 := by
                unfold meetsAt
                rw [List.getD_eq_getElem?_getD, hs2, hA2]
                simp only [Option.getD_some]
                rw [hy]
              obtain ⟨ad2, cap2, hvm, hmem2⟩ := hlev m s2 hs2
              have c2 := HB.rowCell 3 m rfl hvm
              obtain ⟨_, _, e1, _, e2⟩ := (str_row (rows_get (HB.pick [2]) hmem2)).1
              obtain ⟨gb, go, rfl, _, hgc⟩ := e2 (by rintro rfl; simp at hin2)
              cases e1
              obtain ⟨p0, p1, p2, p3⟩ := str_cells (hgc _ y hy) rfl
              have kmy := fun w' => ref_meets y t0 t1 w'
              have hsl2 := hf1 s2 (List.mem_of_getElem? hs2)
              rw [hma] at hss
              obtain ⟨my, hmy⟩ : ∃ my, meetsS y t0 t1 = my := ⟨_, rfl⟩
              rw [hmy] at hss kmy
              obtain ⟨D, hD⟩ : ∃ D, i / wn ^ n / wn = D := ⟨_, rfl⟩
              rw [hD] at hpp hin2 p0 p1 p2 p3
              obtain ⟨A, hA⟩ : ∃ A, i / wn ^ n = A := ⟨_, rfl⟩
              rw [hA] at hD ⊢
              have hAi : A ≤ i := by rw [← hA]; exact Nat.div_le_self _ _
              obtain ⟨se, hse⟩ : ∃ se, seenS lv wn t0 t1 k i n = se := ⟨_, rfl⟩
              rw [hse] at hss ⊢
              have hdiv : (A : Int).tdiv (wn : Int) = (D : Int) := by rw [Int.tdiv_eq_ediv_of_nonneg (by omega), ← hD]; rfl
              have hwz : ((wn : Int) == 0) = false := by simp; omega
              have hDl : D ≤ A := by rw [← hD]; exact Nat.div_le_self _ _
              have hwD : IntKind.i64.wrap (D : Int) = (D : Int) := by rw [IntKind.wrap_i64]; omega
              obtain ⟨yf, yt, yl, yg⟩ := y
              unfold strV at kmy
              simp only at p0 p1 p2 p3 kmy
              clear hse hA hD hmy hy hgc e2 hs2 hma hA2 hvm hn hn2 hkm
              cases se with
              | false =>
                go_wp2
                go_roundw
                case rel => exact ⟨m + 1, by omega, by omega, by go_num, by rw [hss.out]; rfl, by rw [hpp.out], HB⟩
                case measure => simp [intOf]; omega
              | true =>
                go_wp2_with (go_at_call 39; go_must (refine (St.callPast (kmy _) HB).mono ?_; rintro e w3 ⟨rfl, H3⟩))
                go_roundw
                case rel => exact ⟨m + 1, by omega, by omega, by go_num, by rw [hss.out]; rfl, by rw [hpp.out], H3⟩
                case measure => simp [intOf]; omega
            · obtain rfl : m = lv.length := by omega
              rw [show lv.length - 1 - k = n by omega] at hln2
              obtain ⟨se, hse⟩ : ∃ se, seenS lv wn t0 t1 k i n = se := ⟨_, rfl⟩
              rw [hse] at hln2 ⊢
              have d0 := HB.cell 0 0 rfl rfl
              have d1 := HB.cell 0 1 rfl rfl
              have d2 := HB.cell 0 2 rfl rfl
              have d3 := HB.cell 0 3 rfl rfl
              have hadd : IntKind.i64.wrap ((NT : Int) + 1) = ((NT + 1 : Nat) : Int) := by rw [IntKind.wrap_i64]; omega
              clear hse hn hm1 hm2 hml hup
              by_cases hk0 : k = 0
              · have y1 : ((k : Int) == 0) = true := by simp; omega
                cases mx with
                | false =>
                  have hin2 := Lib.hid (show inS s t0 t1 k (i + 1) = Q by rw [hin.out, if_neg (fun h => by cases h.2)])
                  clear hin hk0
                  cases se with
                  | false =>
                    go_wp2_with (go_at_call 39; go_must (refine (St.callPast (kmx _) HB).mono ?_; rintro e w3 ⟨rfl, H3⟩))
                    go_roundw
                    case rel =>
                      refine ⟨i + 1, by omega, by go_num, by rw [hln2.out]; first | rfl | (go_num; done) | simp, ?_⟩
                      rw [hin2.out]
                      exact H3.pick [1, 2, 3]
                    case measure => simp [intOf]; omega
                  | true =>
                    go_wp2_with (go_at_call 39; go_must (refine (St.callPast (kmx _) HB).mono ?_; rintro e w3 ⟨rfl, H3⟩))
                    go_roundw
                    case rel =>
                      refine ⟨i + 1, by omega, by go_num, by rw [hln2.out]; first | rfl | (go_num; done) | simp, ?_⟩
                      rw [hin2.out]
                      exact H3.pick [1, 2, 3]
                    case measure => simp [intOf]; omega
                | true =>
                  have hin2 := Lib.hid (show inS s t0 t1 k (i + 1) = Q ++ [⟨xf, xt, xl, xg⟩] by rw [hin.out, if_pos ⟨hk0, rfl⟩])
                  clear hin hk0
                  cases se with
                  | false =>
                    go_wp2_with (first
                      | (go_at_call 39; go_must (refine (St.callPast (kmx _) HB).mono ?_; rintro e w3 ⟨rfl, H3⟩; have d0 := H3.cell 0 0 rfl rfl; have d1 := H3.cell 0 1 rfl rfl; have d2 := H3.cell 0 2 rfl rfl; have d3 := H3.cell 0 3 rfl rfl))
                      | (at_builtin; go_must (refine St.list_app (H3.skip _) 1 rfl rfl (.tmp 75) (.tmp 77) 67 rfl Try.underlying67 Try.info76 (by decide) rfl [.int .i64 xf, .int .i64 xt, .int .i64 xl, .int .i64 xg] rfl rfl (new_cells #[.int .i64 xf, .int .i64 xt, .int .i64 xl, .int .i64 xg] _) (by simp [Value.oneCell']) (by omega) (by omega) ?_; intro g5 cap5 w5 H5 hz5)))
                    go_roundw
                    case rel =>
                      refine ⟨i + 1, by omega, by go_num, by rw [hln2.out]; first | rfl | (go_num; done) | simp, ?_⟩
                      rw [hin2.out, strs_app, strs_one, List.length_append]
                      exact H5.pick [1, 2, 3]
                    case measure => simp [intOf]; omega
                  | true =>
                    go_wp2_with (first
                      | (go_at_call 39; go_must (refine (St.callPast (kmx _) HB).mono ?_; rintro e w3 ⟨rfl, H3⟩; have d0 := H3.cell 0 0 rfl rfl; have d1 := H3.cell 0 1 rfl rfl; have d2 := H3.cell 0 2 rfl rfl; have d3 := H3.cell 0 3 rfl rfl))
                      | (at_builtin; go_must (refine St.list_app (H3.skip _) 1 rfl rfl (.tmp 75) (.tmp 77) 67 rfl Try.underlying67 Try.info76 (by decide) rfl [.int .i64 xf, .int .i64 xt, .int .i64 xl, .int .i64 xg] rfl rfl (new_cells #[.int .i64 xf, .int .i64 xt, .int .i64 xl, .int .i64 xg] _) (by simp [Value.oneCell']) (by omega) (by omega) ?_; intro g5 cap5 w5 H5 hz5)))
                    go_roundw
                    case rel =>
                      refine ⟨i + 1, by omega, by go_num, by rw [hln2.out]; first | rfl | (go_num; done) | simp, ?_⟩
                      rw [hin2.out, strs_app, strs_one, List.length_append]
                      exact H5.pick [1, 2, 3]
                    case measure => simp [intOf]; omega
              · have y1 : ((k : Int) == 0) = false := by simp; omega
                have hin2 := Lib.hid (show inS s t0 t1 k (i + 1) = Q by rw [hin.out, if_neg (fun h => hk0 h.1)])
                clear hin hk0
                cases se with
                | false =>
                  go_wp2
                  go_roundw
                  case rel =>
                    refine ⟨i + 1, by omega, by go_num, by rw [hln2.out]; first | rfl | (go_num; done) | simp, ?_⟩
                    rw [hin2.out]
                    exact HB.pick [1, 2, 3]
                  case measure => simp [intOf]; omega
                | true =>
                  go_wp2
                  go_roundw
                  case rel =>
                    refine ⟨i + 1, by omega, by go_num, by rw [hln2.out]; first | rfl | (go_num; done) | simp, ?_⟩
                    rw [hin2.out]
                    exact HB.pick [1, 2, 3]
                  case measure => simp [intOf]; omega
        · obtain rfl : i = s.length := by omega
          have hio : inS s t0 t1 k s.length = atS lv t0 t1 k := by
            unfold inS atS
            rw [List.take_length]
            split
            · rename_i h; subst h; rw [hgd]
            · rfl
          rw [hio] at HM
          have hlle := looks_le lv wn t0 t1 k s.length
          obtain ⟨N2, hN2⟩ : ∃ N2, N + looksS lv wn t0 t1 k s.length = N2 := ⟨_, rfl⟩
          rw [hN2] at hNs ⊢
          have hwk : IntKind.i64.wrap ((k : Int) - 1) = (k : Int) - 1 := by rw [IntKind.wrap_i64]; omega
          have hN2b : N2 ≤ 1001000 := by have := hNs.out; omega
          clear hN2 hgd hs hio hk1 hkz
          go_wp2
          go_roundw
          case rel => exact ⟨k, N2, by omega, rfl, rfl, hNs, hN2b, HM⟩
          case measure => simp [intOf]

end Go.Proofs.Ytbikjhmdpgoofaa
