/- The walks of the document's words: Plain, Quote, Join, Same. Condition: lengths. -/
import Derived.Test.YtoffcoegghigoaaLexC
namespace Go.Proofs.Ytoffcoegghigoaa
open Go.RowKit

theorem text_cat (a b : List UInt8) : (⟨a.toArray⟩ : ByteArray) ++ ⟨b.toArray⟩ = ⟨(a ++ b).toArray⟩ := ByteArray.mk_append_mk ..
theorem text_one (bs : List UInt8) (i : Nat) {c : UInt8} {t : List UInt8} (hd : bs.drop i = c :: t) : (⟨bs.toArray⟩ : ByteArray).extract i (i + 1) = ⟨#[c]⟩ := by
  apply ByteArray.ext
  rw [ByteArray.data_extract]
  apply Array.ext'
  rw [Array.toList_extract, List.extract_eq_take_drop, hd]
  simp
theorem sgn_no {c : UInt8} (h : lex.sgn c = false) : c.toNat < 33 ∨ 126 < c.toNat ∨ c.toNat = 34 ∨ c.toNat = 92 := by
  rcases Nat.lt_or_ge c.toNat 33 with h1 | h1
  · exact .inl h1
  · rcases Nat.lt_or_ge 126 c.toNat with h2 | h2
    · exact .inr (.inl h2)
    · by_cases h3 : c.toNat = 34
      · exact .inr (.inr (.inl h3))
      · by_cases h4 : c.toNat = 92
        · exact .inr (.inr (.inr h4))
        · simp [lex.sgn, lex.esc, h3, h4, h2, show 32 < c.toNat by omega] at h
theorem sgn_yes {c : UInt8} (h : lex.sgn c = true) : 33 ≤ c.toNat ∧ c.toNat ≤ 126 ∧ c.toNat ≠ 34 ∧ c.toNat ≠ 92 := by
  simp only [lex.sgn, lex.esc, Bool.and_eq_true, decide_eq_true_eq, Bool.not_eq_true', Bool.or_eq_false_iff, beq_eq_false_iff_ne] at h
  omega

set_option maxHeartbeats 1000000 in
set_option maxRecDepth 100000 in
theorem ref_plain (bs : List UInt8) (hl : bs.length ≤ 9223372036854775807) (w : World) : Calls Try.prog 18 #[textV bs] w fun e w' => e = .returned (.bool (lex.plainB bs)) ∧ w' = w := by
  have hsz := text_size bs
  unfold textV
  go_enter Try.func18, Try.ntmps18
  go_upto_block 1 with (fail)
  go_loopw [3] (fun j wr => ∃ i : Nat, i ≤ bs.length ∧ j = .int .i64 i ∧ (bs.take i).all lex.sgn = true ∧ wr = w) (fun j _ => bs.length - (intOf j).toNat)
  case atStart => exact ⟨0, by omega, rfl, by simp, rfl⟩
  case round =>
    obtain ⟨i, hi, rfl, ha, rfl⟩ := hrel
    by_cases hlt : i < bs.length
    · obtain ⟨c, t, hd⟩ : ∃ c t, bs.drop i = c :: t := ⟨_, _, List.drop_eq_getElem_cons hlt⟩
      have hc0 := text_at bs i (by rw [hsz]; omega) hd
      have hx : bs[i]? = some c := by
        rw [List.drop_eq_getElem_cons hlt] at hd
        rw [List.getElem?_eq_getElem hlt, (List.cons.inj hd).1]
      have h2 := all_take (p := lex.sgn) hx
      rw [ha, Bool.true_and] at h2
      by_cases hs : lex.sgn c = true
      · have hb := sgn_yes hs
        have z1 : decide ((c.toNat : Int) < 33) = false := by simp; omega
        have z2 : decide ((126 : Int) < (c.toNat : Int)) = false := by simp; omega
        have z3 : ((c.toNat : Int) == 34) = false := by simp; omega
        have z4 : ((c.toNat : Int) == 92) = false := by simp; omega
        rw [hs] at h2
        clear hd hx hs hb ha
        go_wp2
        go_roundw
        case rel => exact ⟨i + 1, by omega, by go_num, h2, by first | rfl | trivial⟩
        case measure => simp [intOf]; omega
      · have hs' : lex.sgn c = false := by simpa using hs
        have h3 : lex.plainB bs = false := by unfold lex.plainB; rw [all_false hx hs', Bool.and_false]
        have h3h := Lib.hid h3
        have hb := sgn_no hs'
        clear hd hx hs hs' ha h2 h3
        by_cases b1 : c.toNat < 33
        · have z1 : decide ((c.toNat : Int) < 33) = true := by simp; omega
          go_wp2
          go_ret
          rw [h3h.out]
          exact ⟨rfl, rfl⟩
        · have z1 : decide ((c.toNat : Int) < 33) = false := by simp; omega
          by_cases b2 : 126 < c.toNat
          · have z2 : decide ((126 : Int) < (c.toNat : Int)) = true := by simp; omega
            go_wp2
            go_ret
            rw [h3h.out]
            exact ⟨rfl, rfl⟩
          · have z2 : decide ((126 : Int) < (c.toNat : Int)) = false := by simp; omega
            by_cases b3 : c.toNat = 34
            · have z3 : ((c.toNat : Int) == 34) = true := by simp; omega
              clear b3
              go_wp2
              go_ret
              rw [h3h.out]
              exact ⟨rfl, rfl⟩
            · have z3 : ((c.toNat : Int) == 34) = false := by simp; omega
              have z4 : ((c.toNat : Int) == 92) = true := by simp; omega
              clear b3
              go_wp2
              go_ret
              rw [h3h.out]
              exact ⟨rfl, rfl⟩
    · obtain rfl : i = bs.length := by omega
      rw [List.take_length] at ha
      by_cases h0 : bs = []
      · subst h0
        go_wp2
        go_ret
        exact ⟨rfl, rfl⟩
      · have h1 : lex.plainB bs = true := by unfold lex.plainB; rw [ha]; simpa using h0
        have h1h := Lib.hid h1
        clear ha h1
        go_wp2
        go_ret
        rw [h1h.out]
        exact ⟨by first | rfl | simp [h0], rfl⟩

set_option maxHeartbeats 1000000 in
set_option maxRecDepth 100000 in
theorem ref_quote (bs : List UInt8) (hl : bs.length ≤ 10000000000000) (w : World) :
    Calls Try.prog 16 #[textV bs] w fun e w' => e = .returned (.tuple #[textV (lex.quoteW bs).1, .int .i64 (lex.quoteW bs).2]) ∧ w' = w := by
  have hsz := text_size bs
  have hbm := body_most bs
  unfold textV
  go_enter Try.func16, Try.ntmps16
  go_upto_block 1 with (fail)
  go_loopw [4, 5] (fun s j wr => ∃ (i : Nat) (L : List UInt8), i ≤ bs.length ∧ s = .string ⟨L.toArray⟩ ∧ j = .int .i64 i ∧ (bs.take i).all lex.fair = true ∧ L = 34 :: lex.body (bs.take i) ∧ wr = w) (fun _ j _ => bs.length - (intOf j).toNat)
  case atStart => exact ⟨0, [34], by omega, rfl, rfl, by simp, by simp [lex.body], rfl⟩
  case round =>
    obtain ⟨i, L, hi, rfl, rfl, hf, hL, rfl⟩ := hrel
    have hlL : L.length ≤ 2 * bs.length + 1 := by
      have h1 := body_most (bs.take i)
      rw [List.length_take] at h1
      rw [hL, List.length_cons]
      omega
    have hLh := Lib.hid hL
    clear hL
    by_cases hlt : i < bs.length
    · obtain ⟨c, t, hd⟩ : ∃ c t, bs.drop i = c :: t := ⟨_, _, List.drop_eq_getElem_cons hlt⟩
      have hc0 := text_at bs i (by rw [hsz]; omega) hd
      have hx : bs[i]? = some c := by
        rw [List.drop_eq_getElem_cons hlt] at hd
        rw [List.getElem?_eq_getElem hlt, (List.cons.inj hd).1]
      have hto := text_one bs i hd
      have hbt := body_take hx
      have hat := all_take (p := lex.fair) hx
      rw [hf, Bool.true_and] at hat
      by_cases hfc : lex.fair c = true
      · have hfb := hfc
        simp only [lex.fair, Bool.and_eq_true, decide_eq_true_eq] at hfb
        have z1 : decide ((c.toNat : Int) < 32) = false := by simp; omega
        have z2 : decide ((126 : Int) < (c.toNat : Int)) = false := by simp; omega
        have hat' : (bs.take (i + 1)).all lex.fair = true := by rw [hat, hfc]
        by_cases hes : lex.esc c = true
        · have hLn := Lib.hid (show L ++ [92] ++ [c] = 34 :: lex.body (bs.take (i + 1)) by rw [hbt, hLh.out, if_pos hes]; simp)
          have g1 := text_cat L [92]
          have g2 := text_cat (L ++ [92]) [c]
          have h34 : c.toNat = 34 ∨ c.toNat = 92 := by simpa [lex.esc] using hes
          clear hd hx hbt hat hfc hfb hes hf
          by_cases b3 : c.toNat = 34
          · have z3 : ((c.toNat : Int) == 34) = true := by simp; omega
            clear b3 h34
            go_wp2
            go_roundw
            case rel => exact ⟨i + 1, L ++ [92] ++ [c], by omega, by simp, by go_num, hat', hLn.out, by first | rfl | trivial⟩
            case measure => simp [intOf]; omega
          · have z3 : ((c.toNat : Int) == 34) = false := by simp; omega
            have z4 : ((c.toNat : Int) == 92) = true := by simp; omega
            clear b3 h34
            go_wp2
            go_roundw
            case rel => exact ⟨i + 1, L ++ [92] ++ [c], by omega, by simp, by go_num, hat', hLn.out, by first | rfl | trivial⟩
            case measure => simp [intOf]; omega
        · have hLn := Lib.hid (show L ++ [c] = 34 :: lex.body (bs.take (i + 1)) by rw [hbt, hLh.out, if_neg hes]; simp)
          have g2 := text_cat L [c]
          have h34 : c.toNat ≠ 34 ∧ c.toNat ≠ 92 := by simpa [lex.esc] using hes
          have z3 : ((c.toNat : Int) == 34) = false := by simp; omega
          have z4 : ((c.toNat : Int) == 92) = false := by simp; omega
          clear hd hx hbt hat hfc hfb hes h34 hf
          go_wp2
          go_roundw
          case rel => exact ⟨i + 1, L ++ [c], by omega, rfl, by go_num, hat', hLn.out, by first | rfl | trivial⟩
          case measure => simp [intOf]; omega
      · have hq : lex.quoteW bs = ([], 11) := by
          unfold lex.quoteW
          rw [if_neg (by rw [all_false hx (by simpa using hfc)]; simp)]
        have hfb : ¬ (32 ≤ c.toNat ∧ c.toNat ≤ 126) := by
          intro h
          simp [lex.fair, h.1, h.2] at hfc
        have hqh := Lib.hid hq
        clear hat hbt hfc hq hx hd hf
        by_cases h32 : c.toNat < 32
        · have z1 : decide ((c.toNat : Int) < 32) = true := by simp; omega
          go_wp2
          go_ret2
          rw [hqh.out]
          exact ⟨rfl, rfl⟩
        · have z1 : decide ((c.toNat : Int) < 32) = false := by simp; omega
          have z2 : decide ((126 : Int) < (c.toNat : Int)) = true := by simp; omega
          go_wp2
          go_ret2
          rw [hqh.out]
          exact ⟨rfl, rfl⟩
    · obtain rfl : i = bs.length := by omega
      have hL := hLh.out
      rw [List.take_length] at hf hL
      have hq : lex.quoteW bs = if 4096 < (lex.told bs).length then ([], 12) else (lex.told bs, 0) := by
        unfold lex.quoteW
        rw [if_pos hf]
      obtain ⟨Q, hQ⟩ : ∃ Q, L ++ [34] = Q := ⟨_, rfl⟩
      have hQ2 : 34 :: (lex.body bs ++ [34]) = Q := by rw [← hQ, hL]; rfl
      have g1 := text_cat L [34]
      rw [hQ] at g1
      have hs2 := text_size Q
      have kp := fun w' => ref_plain bs (by omega) w'
      obtain ⟨pl, hpl⟩ : ∃ pl, lex.plainB bs = pl := ⟨_, rfl⟩
      rw [hpl] at kp
      have htold : lex.told bs = if pl = true then bs else Q := by unfold lex.told; rw [hpl, hQ2]
      rw [htold] at hq
      unfold textV at kp
      clear hf hL hpl hQ hQ2 htold hLh
      cases pl with
      | true =>
        simp only [if_true] at hq
        have hqt := Lib.hid hq
        clear hq
        by_cases h4 : (4096 : Int) < bs.length
        · have z1 : decide ((4096 : Int) < (bs.length : Int)) = true := by simpa using h4
          go_wp2_with (go_at_call 18; go_must (refine (kp _).mono ?_; rintro e w7 ⟨rfl, rfl⟩))
          go_ret2
          rw [hqt.out, if_pos (by omega)]
          exact ⟨rfl, rfl⟩
        · have z1 : decide ((4096 : Int) < (bs.length : Int)) = false := by simpa using h4
          go_wp2_with (go_at_call 18; go_must (refine (kp _).mono ?_; rintro e w7 ⟨rfl, rfl⟩))
          go_ret2
          rw [hqt.out, if_neg (by omega)]
          exact ⟨rfl, rfl⟩
      | false =>
        simp only [Bool.false_eq_true, if_false] at hq
        have hqt := Lib.hid hq
        clear hq
        by_cases h4 : (4096 : Int) < Q.length
        · have z1 : decide ((4096 : Int) < (Q.length : Int)) = true := by simpa using h4
          go_wp2_with (go_at_call 18; go_must (refine (kp _).mono ?_; rintro e w7 ⟨rfl, rfl⟩))
          go_ret2
          rw [hqt.out, if_pos (by omega)]
          exact ⟨rfl, rfl⟩
        · have z1 : decide ((4096 : Int) < (Q.length : Int)) = false := by simpa using h4
          go_wp2_with (go_at_call 18; go_must (refine (kp _).mono ?_; rintro e w7 ⟨rfl, rfl⟩))
          go_ret2
          rw [hqt.out, if_neg (by omega)]
          exact ⟨rfl, rfl⟩

theorem inter_snoc : ∀ {l : List (List UInt8)} (a : List UInt8), l ≠ [] → lex.inter (l ++ [a]) = lex.inter l ++ [32] ++ a
  | [], a, h => absurd rfl h
  | [b], a, _ => by simp [lex.inter]
  | b :: c :: l, a, _ => by
    have := inter_snoc (l := c :: l) a (by simp)
    simp only [List.cons_append, lex.inter] at this ⊢
    rw [this]
    simp
theorem inter_most {l : List (List UInt8)} (h : lex.firstErr l = 0) : (lex.inter (l.map lex.told)).length ≤ 4097 * l.length := by
  rcases hcs : l with _ | ⟨a, t⟩
  · simp [lex.inter]
  · have h1 := lex.inter_len l (by rw [hcs]; simp)
    have h2 := lex.span_most (lex.firstErr_len h)
    rw [← hcs]
    omega

set_option maxHeartbeats 1000000 in
set_option maxRecDepth 100000 in
theorem ref_join {v : Value} {l : List (List UInt8)} {w : World} (hv : StrsRO w v l) (hl : l.length ≤ 9223372036854775807) (hw : ∀ x ∈ l, x.length ≤ 10000000000000) :
    Calls Try.prog 20 #[v] w fun e w' => e = .returned (.tuple #[textV (lex.joinW l).1, .int .i64 (lex.joinW l).2]) ∧ w' = w := by
  obtain ⟨ao, cap, rfl, hcap, hcell⟩ := hv
  have hj : lex.joinW l = if 64 < l.length then ([], 30) else if lex.firstErr l ≠ 0 then ([], lex.firstErr l) else if 4096 < (lex.inter (l.map lex.told)).length then ([], 12) else (lex.inter (l.map lex.told), 0) := rfl
  have hjh := Lib.hid hj
  clear hj
  go_enter Try.func20, Try.ntmps20
  by_cases h64 : (64 : Int) < l.length
  · have z1 : decide ((64 : Int) < (l.length : Int)) = true := by simpa using h64
    go_wp2
    go_ret2
    rw [hjh.out, if_pos (by omega)]
    exact ⟨rfl, rfl⟩
  · have z1 : decide ((64 : Int) < (l.length : Int)) = false := by simpa using h64
    go_upto_block 1 with (fail)
    go_loopw [4, 14] (fun s j wr => ∃ (i : Nat) (L : List UInt8), i ≤ l.length ∧ s = .string ⟨L.toArray⟩ ∧ j = .int .i64 i ∧ lex.firstErr (l.take i) = 0 ∧ L = lex.inter ((l.take i).map lex.told) ∧ wr = w) (fun _ j _ => l.length - (intOf j).toNat)
    case atStart => exact ⟨0, [], by omega, rfl, rfl, rfl, rfl, rfl⟩
    case round =>
      obtain ⟨i, L, hi, rfl, rfl, hf, hL, rfl⟩ := hrel
      have hLh := Lib.hid hL
      clear hL
      by_cases hlt : i < l.length
      · obtain ⟨b, o, rfl, hb, hc⟩ := hcell (by rintro rfl; simp at hlt)
        obtain ⟨x, hx⟩ : ∃ x, l[i]? = some x := ⟨_, List.getElem?_eq_getElem hlt⟩
        have hc0 := hc i hlt
        rw [(List.getElem?_eq_some_iff.1 hx).2] at hc0
        have hxl := hw x (List.mem_of_getElem? hx)
        clear hc hcell
        have kq := fun w' => ref_quote x hxl w'
        unfold textV at hc0 kq
        by_cases hq : (lex.quoteW x).2 = 0
        · have h1 := lex.firstErr_on hf hx hq
          have h2 : ((l.take (i + 1)).map lex.told) = (l.take i).map lex.told ++ [lex.told x] := by rw [take_snoc' hx]; simp
          rw [(lex.quote_told hq).1, hq] at kq
          have htl := (lex.quote_told hq).2
          have hLl : L.length ≤ 4097 * i := by
            have := inter_most hf
            rw [hLh.out]
            rw [List.length_take] at this
            omega
          have s1 := text_size (lex.told x)
          have s2 := text_size L
          have s3 := text_size (L ++ [32])
          rw [List.length_append] at s3
          by_cases h0 : i = 0
          · have h3 := Lib.hid (show lex.told x = lex.inter ((l.take (i + 1)).map lex.told) by rw [h2, h0]; simp [lex.inter])
            have hL0 : L = [] := by rw [hLh.out, h0]; rfl
            have g1 := text_cat [] (lex.told x)
            rw [List.nil_append] at g1
            have z2 : decide ((0 : Int) < (i : Int)) = false := by simp; omega
            have z3 : decide (0 < i) = false := by simp; omega
            have hpos : ¬ 0 < i := by omega
            subst hL0
            clear hf hx hq h2 hLh h0
            go_wp2_with (go_at_call 16; go_must (refine (kq _).mono ?_; rintro e w7 ⟨rfl, rfl⟩))
            go_roundw
            case rel => exact ⟨i + 1, lex.told x, by omega, by first | rfl | simp, by go_num, h1, h3.out, by first | rfl | trivial⟩
            case measure => simp [intOf]; omega
          · have z2 : decide ((0 : Int) < (i : Int)) = true := by simp; omega
            have z3 : decide (0 < i) = true := by simp; omega
            have hne : (l.take i).map lex.told ≠ [] := by
              intro h
              have := congrArg List.length h
              simp only [List.length_map, List.length_take, List.length_nil] at this
              omega
            have hpos : 0 < i := by omega
            have h3 := Lib.hid (show L ++ [32] ++ lex.told x = lex.inter ((l.take (i + 1)).map lex.told) by rw [h2, inter_snoc _ hne, hLh.out])
            have g1 := text_cat L [32]
            have g2 := text_cat (L ++ [32]) (lex.told x)
            clear hf hx hq h2 hne h0
            go_wp2_with (go_at_call 16; go_must (refine (kq _).mono ?_; rintro e w7 ⟨rfl, rfl⟩))
            go_roundw
            case rel => exact ⟨i + 1, L ++ [32] ++ lex.told x, by omega, by first | rfl | simp, by go_num, h1, h3.out, by first | rfl | trivial⟩
            case measure => simp [intOf]; omega
        · have h1 := Lib.hid (lex.firstErr_at hf hx hq)
          rw [lex.quote_bad hq] at kq
          have hqh := Lib.hid hq
          have z3 : decide ((lex.quoteW x).2 = 0) = false := by simpa using hq
          have z4 : ((lex.quoteW x).2 == 0) = false := by simpa using hq
          have z5 : ((lex.quoteW x).2 != 0) = true := by simpa using hq
          clear hf hx hq
          go_wp2_with (go_at_call 16; go_must (refine (kq _).mono ?_; rintro e w7 ⟨rfl, rfl⟩))
          go_ret2
          rw [hjh.out, if_neg (by omega), h1.out, if_pos hqh.out]
          exact ⟨rfl, rfl⟩
      · obtain rfl : i = l.length := by omega
        have hL := hLh.out
        rw [List.take_length] at hf hL
        have hs := text_size L
        have hJl := inter_most hf
        rw [← hL] at hJl
        have hjt : lex.joinW l = if 4096 < L.length then ([], 12) else (L, 0) := by
          rw [hjh.out, if_neg (by omega), if_neg (by omega), hL]
        have hjth := Lib.hid hjt
        clear hf hL hjt hLh
        by_cases h4 : (4096 : Int) < L.length
        · have z4 : decide ((4096 : Int) < (L.length : Int)) = true := by simpa using h4
          go_wp2
          go_ret2
          rw [hjth.out, if_pos (by omega)]
          exact ⟨rfl, rfl⟩
        · have z4 : decide ((4096 : Int) < (L.length : Int)) = false := by simpa using h4
          go_wp2
          go_ret2
          rw [hjth.out, if_neg (by omega)]
          exact ⟨rfl, rfl⟩

theorem take_same {l1 l2 : List (List UInt8)} {i : Nat} {x y : List UInt8} (h : l1.take i = l2.take i) (hx : l1[i]? = some x) (hy : l2[i]? = some y) (he : x = y) : l1.take (i + 1) = l2.take (i + 1) := by
  rw [take_snoc' hx, take_snoc' hy, h, he]
set_option maxHeartbeats 1000000 in
set_option maxRecDepth 100000 in
theorem ref_same {v1 v2 : Value} {l1 l2 : List (List UInt8)} {w : World} (h1 : StrsRO w v1 l1) (h2 : StrsRO w v2 l2) (hl1 : l1.length ≤ 9223372036854775807) (hl2 : l2.length ≤ 9223372036854775807) :
    Calls Try.prog 14 #[v1, v2] w fun e w' => e = .returned (.bool (decide (l1 = l2))) ∧ Below w.heap.size w w' := by
  obtain ⟨a1, cap1, rfl, _, hc1⟩ := h1
  obtain ⟨a2, cap2, rfl, _, hc2⟩ := h2
  go_enter Try.func14, Try.ntmps14
  by_cases hle : l1.length = l2.length
  · have z1 : ((l1.length : Int) != (l2.length : Int)) = false := by simp; omega
    have hleh := Lib.hid hle
    clear hle
    go_upto_block 1 with (fail)
    go_loopw [13] (fun j wr => ∃ (i : Nat), i ≤ l1.length ∧ j = .int .i64 i ∧ l1.take i = l2.take i ∧ St (fun _ => False) w wr []) (fun j _ => l1.length - (intOf j).toNat)
    case atStart => exact ⟨0, by omega, rfl, rfl, St.nil _ w⟩
    case round =>
      obtain ⟨i, hi, rfl, ht, HL⟩ := hrel
      by_cases hlt : i < l1.length
      · have hlt2 : i < l2.length := by rw [← hleh.out]; exact hlt
        obtain ⟨x, hx⟩ : ∃ x, l1[i]? = some x := ⟨_, List.getElem?_eq_getElem hlt⟩
        obtain ⟨y, hy⟩ : ∃ y, l2[i]? = some y := ⟨_, List.getElem?_eq_getElem hlt2⟩
        obtain ⟨b1, o1, rfl, hb1, g1⟩ := hc1 (by rintro rfl; simp at hlt)
        obtain ⟨b2, o2, rfl, hb2, g2⟩ := hc2 (by rintro rfl; simp at hlt2)
        have f1 := g1 i hlt
        have f2 := g2 i hlt2
        rw [(List.getElem?_eq_some_iff.1 hx).2] at f1
        rw [(List.getElem?_eq_some_iff.1 hy).2] at f2
        unfold textV at f1 f2
        clear g1 g2 hc1 hc2
        by_cases hxy : x = y
        · have ht2 := Lib.hid (take_same ht hx hy hxy)
          subst hxy
          clear ht hx hy
          go_upto_region 6 with (fail)
          refine wp_calm (fun w' => St (fun _ => False) w w' []) (by kernel_rfl) (by kernel_rfl) (HL.drew) ?_
          iterate 9 first
            | (apply calm_pass
               · rfl
               intro K hK
               go_simp
               refine hK _ ?_
               clear hK K)
            | (apply calm_step
               · rfl
               · intro w1 h1
                 have c1 := (World.cell?_of_block (w := w) (h1.kept.block b1 hb1 id)).trans f1
                 have c2 := (World.cell?_of_block (w := w) (h1.kept.block b2 hb2 id)).trans f2
                 go_simp
                 first
                   | rfl
                   | exact ⟨rfl, h1⟩
                   | (trace_state; fail)
               intro K hK
               go_simp
               refine hK _ ?_
               clear hK K)
          refine calm_nil ?_
          intro w9 H9
          go_wp2
          go_roundw
          case rel => exact ⟨i + 1, by omega, by go_num, ht2.out, H9⟩
          case measure => simp [intOf]; omega
        · have hne := Lib.hid (show l1 ≠ l2 from fun h => by rw [h, hy] at hx; exact hxy (Option.some.inj hx).symm)
          have z3 : ¬ x = y := hxy
          have z4 : (x == y) = false := by simpa using hxy
          clear ht hx hy hxy
          go_upto_region 6 with (fail)
          refine wp_calm (fun w' => St (fun _ => False) w w' []) (by kernel_rfl) (by kernel_rfl) (HL.drew) ?_
          iterate 9 first
            | (apply calm_pass
               · rfl
               intro K hK
               go_simp
               refine hK _ ?_
               clear hK K)
            | (apply calm_step
               · rfl
               · intro w1 h1
                 have c1 := (World.cell?_of_block (w := w) (h1.kept.block b1 hb1 id)).trans f1
                 have c2 := (World.cell?_of_block (w := w) (h1.kept.block b2 hb2 id)).trans f2
                 go_simp
                 first
                   | rfl
                   | exact ⟨rfl, h1⟩
                   | (trace_state; fail)
               intro K hK
               go_simp
               refine hK _ ?_
               clear hK K)
          refine calm_nil ?_
          intro w9 H9
          go_wp2
          go_ret
          exact ⟨by simp [hne.out], H9.below (Nat.le_refl _) (fun _ h => h.elim)⟩
      · obtain rfl : i = l1.length := by omega
        rw [List.take_length] at ht
        have ht2 : l1 = l2 := by rw [ht, hleh.out, List.take_length]
        have hth := Lib.hid ht2
        clear ht ht2
        go_wp2
        go_ret
        exact ⟨by simp [hth.out], HL.below (Nat.le_refl _) (fun _ h => h.elim)⟩
  · have z1 : ((l1.length : Int) != (l2.length : Int)) = true := by simp; omega
    have z2 : ((l1.length : Int) == (l2.length : Int)) = false := by simp; omega
    have hne := Lib.hid (show l1 ≠ l2 from fun h => hle (by rw [h]))
    go_wp2
    go_ret
    exact ⟨by simp [hne.out], Below.refl _ _⟩

end Go.Proofs.Ytoffcoegghigoaa
