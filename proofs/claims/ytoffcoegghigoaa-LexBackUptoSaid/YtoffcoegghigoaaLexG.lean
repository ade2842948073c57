/- The walks of the document's splitting: word and Split. Condition: the line's length. -/
import Derived.Test.YtoffcoegghigoaaLexE
namespace Go.Proofs.Ytoffcoegghigoaa
open Go.RowKit

namespace lex
theorem quotGo_cons (w : List UInt8) (c : UInt8) (t : List UInt8) : quotGo w (c :: t) = if c.toNat = 34 then some (w, t) else match t with
    | [] => none
    | d :: t' => if c.toNat = 92 then (if esc d then quotGo (w ++ [d]) t' else none) else if fair c then quotGo (w ++ [c]) (d :: t') else none := by
  cases t with
  | nil => rw [quotGo]
  | cons d t' => rw [quotGo]
theorem wordGo_less {c : UInt8} {t w rest : List UInt8} (h : wordGo (c :: t) = some (w, rest)) (hc : c.toNat ≠ 32) : rest.length ≤ t.length := by
  rw [wordGo] at h
  split at h
  · have := quotGo_drop _ _ h; omega
  · rw [plainGo, if_neg hc] at h
    split at h
    · exact (plainGo_ends _ _ h).2.1
    · cases h
end lex
theorem at_drop {bs : List UInt8} {i : Nat} {c : UInt8} {t : List UInt8} (hd : bs.drop i = c :: t) : bs.drop (i + 1) = t ∧ i < bs.length := by
  have hi : i < bs.length := by
    rcases Nat.lt_or_ge i bs.length with h1 | h1
    · exact h1
    · rw [List.drop_eq_nil_of_le h1] at hd; cases hd
  rw [List.drop_eq_getElem_cons hi] at hd
  exact ⟨(List.cons.inj hd).2, hi⟩
/-- What word tells: nothing (-1), or a word and the place behind it. -/
def WordSaid (bs : List UInt8) (i : Nat) (W : List UInt8) (K : Int) : Prop :=
  (lex.wordGo (bs.drop i) = none ∧ K = -1 ∧ W = []) ∨ ∃ k : Nat, lex.wordGo (bs.drop i) = some (W, bs.drop k) ∧ K = k ∧ k ≤ bs.length
theorem WordSaid.none {bs : List UInt8} {i : Nat} {T : Option (List UInt8 × List UInt8)} (h : lex.wordGo (bs.drop i) = T) (hT : T = .none) : WordSaid bs i [] (-1) := .inl ⟨h.trans hT, rfl, rfl⟩
theorem WordSaid.some {bs : List UInt8} {i k : Nat} {W : List UInt8} {T : Option (List UInt8 × List UInt8)} (h : lex.wordGo (bs.drop i) = T) (hT : T = .some (W, bs.drop k)) (hk : k ≤ bs.length) : WordSaid bs i W k := .inr ⟨k, h.trans hT, rfl, hk⟩

set_option maxHeartbeats 2000000 in
set_option maxRecDepth 100000 in
theorem ref_word (bs : List UInt8) (i0 : Nat) (hi0 : i0 < bs.length) (hl : bs.length ≤ 10000000000000) (w : World) :
    Calls Try.prog 52 #[textV bs, .int .i64 i0] w fun e w' => (∃ W K, e = .returned (.tuple #[textV W, .int .i64 K]) ∧ WordSaid bs i0 W K) ∧ w' = w := by
  have hsz := text_size bs
  obtain ⟨T, hT0⟩ : ∃ T, lex.wordGo (bs.drop i0) = T := ⟨_, rfl⟩
  have hTh := Lib.hid hT0
  obtain ⟨c, t, hd⟩ : ∃ c t, bs.drop i0 = c :: t := ⟨_, _, List.drop_eq_getElem_cons hi0⟩
  have hc0 := text_at bs i0 (by rw [hsz]; omega) hd
  have hd1 := (at_drop hd).1
  rw [hd, lex.wordGo] at hT0
  by_cases h34 : c.toNat = 34
  · have z1 : ((c.toNat : Int) != 34) = false := by simp; omega
    rw [if_pos h34, ← hd1] at hT0
    have hT1 := Lib.hid hT0
    clear hT0 hd hd1 h34
    unfold textV
    go_enter Try.func52, Try.ntmps52
    go_upto_block 3 with (fail)
    clear hc0
    go_loopw [1, 6] (fun j s wr => ∃ (k : Nat) (wd : List UInt8), k ≤ bs.length ∧ j = .int .i64 k ∧ s = .string ⟨wd.toArray⟩ ∧ wd.length ≤ k ∧ lex.quotGo wd (bs.drop k) = T ∧ wr = w) (fun j _ _ => bs.length - (intOf j).toNat)
    case atStart => exact ⟨i0 + 1, [], by omega, by go_num, rfl, by simp, hT1.out, rfl⟩
    case round =>
      obtain ⟨k, wd, hk, rfl, rfl, hwk, hT, rfl⟩ := hrel
      by_cases hlt : k < bs.length
      · obtain ⟨c, t, hd⟩ : ∃ c t, bs.drop k = c :: t := ⟨_, _, List.drop_eq_getElem_cons hlt⟩
        have hc0 := text_at bs k (by rw [hsz]; omega) hd
        have hd1 := (at_drop hd).1
        have hto := text_one bs k hd
        have s1 := text_size wd
        rw [hd, lex.quotGo_cons] at hT
        by_cases h34 : c.toNat = 34
        · have z2 : ((c.toNat : Int) == 34) = true := by simp; omega
          rw [if_pos h34, ← hd1] at hT
          have hT2 := Lib.hid hT
          clear hT hd hd1 hto h34
          go_wp2
          go_ret2
          exact ⟨⟨wd, ((k + 1 : Nat) : Int), by first | rfl | simp, .some hTh.out hT2.out.symm (by omega)⟩, rfl⟩
        · have z2 : ((c.toNat : Int) == 34) = false := by simp; omega
          rw [if_neg h34] at hT
          by_cases h92 : c.toNat = 92
          · have z3 : decide ((c.toNat : Int) < 32) = false := by simp; omega
            have z4 : decide ((126 : Int) < (c.toNat : Int)) = false := by simp; omega
            have z5 : ((c.toNat : Int) == 92) = true := by simp; omega
            cases t with
            | nil =>
              have hkl : k + 1 = bs.length := by
                have := congrArg List.length hd1
                simp at this
                omega
              have z6 : ((k : Int) + 1 == (bs.length : Int)) = true := by simp; omega
              have hT2 := Lib.hid hT
              clear hT hd hd1 hto h34 h92 hkl
              go_wp2
              go_ret2
              exact ⟨⟨[], -1, rfl, .none hTh.out hT2.out.symm⟩, rfl⟩
            | cons d t' =>
              obtain ⟨hd2, hi2⟩ := at_drop hd1
              have hc1 := text_at bs (k + 1) (by rw [hsz]; omega) hd1
              have hto2 := text_one bs (k + 1) hd1
              have z6 : ((k : Int) + 1 == (bs.length : Int)) = false := by simp; omega
              have g1 := text_cat wd [d]
              simp only at hT
              rw [if_pos h92] at hT
              by_cases hes : lex.esc d = true
              · rw [if_pos hes, ← hd2] at hT
                have hT2 := Lib.hid hT
                have hde : d.toNat = 34 ∨ d.toNat = 92 := by simpa [lex.esc] using hes
                clear hT hd hd1 hto h34 h92 hd2 hes
                by_cases e34 : d.toNat = 34
                · have y1 : ((d.toNat : Int) != 34) = false := by simp; omega
                  clear e34 hde
                  go_wp2
                  go_roundw
                  case rel => exact ⟨k + 1 + 1, wd ++ [d], by omega, by go_num, by first | rfl | simp, by simp only [List.length_append, List.length_cons, List.length_nil]; omega, hT2.out, by first | rfl | trivial⟩
                  case measure => simp [intOf]; omega
                · have y1 : ((d.toNat : Int) != 34) = true := by simp; omega
                  have y2 : ((d.toNat : Int) != 92) = false := by simp; omega
                  clear e34 hde
                  go_wp2
                  go_roundw
                  case rel => exact ⟨k + 1 + 1, wd ++ [d], by omega, by go_num, by first | rfl | simp, by simp only [List.length_append, List.length_cons, List.length_nil]; omega, hT2.out, by first | rfl | trivial⟩
                  case measure => simp [intOf]; omega
              · rw [if_neg hes] at hT
                have hT2 := Lib.hid hT
                have hde : ¬ (d.toNat = 34 ∨ d.toNat = 92) := by simpa [lex.esc] using hes
                have y1 : ((d.toNat : Int) != 34) = true := by simp; omega
                have y2 : ((d.toNat : Int) != 92) = true := by simp; omega
                clear hT hd hd1 hto h34 h92 hd2 hes hde
                go_wp2
                go_ret2
                exact ⟨⟨[], -1, rfl, .none hTh.out hT2.out.symm⟩, rfl⟩
          · have z5 : ((c.toNat : Int) == 92) = false := by simp; omega
            have g1 := text_cat wd [c]
            by_cases hf : lex.fair c = true
            · have hfb := hf
              simp only [lex.fair, Bool.and_eq_true, decide_eq_true_eq] at hfb
              have z3 : decide ((c.toNat : Int) < 32) = false := by simp; omega
              have z4 : decide ((126 : Int) < (c.toNat : Int)) = false := by simp; omega
              have hT2 : lex.quotGo (wd ++ [c]) (bs.drop (k + 1)) = T := by
                rw [← hT, hd1]
                cases t with
                | nil => rw [lex.quotGo]
                | cons d t' =>
                  simp only
                  rw [if_neg h92, if_pos hf]
              have hT3 := Lib.hid hT2
              clear hT hT2 hd hd1 h34 h92 hf hfb
              go_wp2
              go_roundw
              case rel => exact ⟨k + 1, wd ++ [c], by omega, by go_num, by first | rfl | simp, by simp only [List.length_append, List.length_cons, List.length_nil]; omega, hT3.out, by first | rfl | trivial⟩
              case measure => simp [intOf]; omega
            · have hT2 : T = none := by
                rw [← hT]
                cases t with
                | nil => rfl
                | cons d t' =>
                  simp only
                  rw [if_neg h92, if_neg hf]
              have hT3 := Lib.hid hT2
              have hfb : ¬ (32 ≤ c.toNat ∧ c.toNat ≤ 126) := by
                intro h
                simp [lex.fair, h.1, h.2] at hf
              clear hT hT2 hd hd1 h34 h92 hf
              by_cases h32 : c.toNat < 32
              · have z3 : decide ((c.toNat : Int) < 32) = true := by simp; omega
                go_wp2
                go_ret2
                exact ⟨⟨[], -1, rfl, .none hTh.out hT3.out⟩, rfl⟩
              · have z3 : decide ((c.toNat : Int) < 32) = false := by simp; omega
                have z4 : decide ((126 : Int) < (c.toNat : Int)) = true := by simp; omega
                go_wp2
                go_ret2
                exact ⟨⟨[], -1, rfl, .none hTh.out hT3.out⟩, rfl⟩
      · obtain rfl : k = bs.length := by omega
        have hT2 := Lib.hid (show T = none by rw [← hT, List.drop_length, lex.quotGo])
        clear hT
        go_wp2
        go_ret2
        exact ⟨⟨[], -1, rfl, .none hTh.out hT2.out⟩, rfl⟩
  · have z1 : ((c.toNat : Int) != 34) = true := by simp; omega
    rw [if_neg h34, ← hd] at hT0
    have hT1 := Lib.hid hT0
    clear hT0 hd hd1 h34
    unfold textV
    go_enter Try.func52, Try.ntmps52
    go_upto_block 1 with (fail)
    go_loopw [1, 6] (fun j s wr => ∃ (k : Nat) (wd : List UInt8), k ≤ bs.length ∧ j = .int .i64 k ∧ s = .string ⟨wd.toArray⟩ ∧ wd.length ≤ k ∧ lex.plainGo wd (bs.drop k) = T ∧ wr = w) (fun j _ _ => bs.length - (intOf j).toNat)
    case atStart => exact ⟨i0, [], by omega, rfl, rfl, by simp, hT1.out, rfl⟩
    case round =>
      clear hc0
      obtain ⟨k, wd, hk, rfl, rfl, hwk, hT, rfl⟩ := hrel
      by_cases hlt : k < bs.length
      · obtain ⟨c, t, hd⟩ : ∃ c t, bs.drop k = c :: t := ⟨_, _, List.drop_eq_getElem_cons hlt⟩
        have hc0 := text_at bs k (by rw [hsz]; omega) hd
        have hd1 := (at_drop hd).1
        have hto := text_one bs k hd
        by_cases h32 : c.toNat = 32
        · have z2 : ((c.toNat : Int) != 32) = false := by simp; omega
          have hT2 := Lib.hid (show T = some (wd, bs.drop k) by rw [← hT, hd, lex.plainGo, if_pos h32])
          clear hT hd hd1 hto h32
          go_wp2
          go_ret2
          exact ⟨⟨wd, k, rfl, .some hTh.out hT2.out hk⟩, rfl⟩
        · have z2 : ((c.toNat : Int) != 32) = true := by simp; omega
          rw [hd, lex.plainGo, if_neg h32] at hT
          have kp := fun w' => ref_plain [c] (by simp) w'
          have hp1 : lex.plainB [c] = lex.sgn c := by simp [lex.plainB]
          rw [hp1] at kp
          unfold textV at kp
          have g1 := text_cat wd [c]
          have s1 := text_size wd
          by_cases hs : lex.sgn c = true
          · rw [if_pos hs, ← hd1] at hT
            rw [hs] at kp
            have hT2 := Lib.hid hT
            clear hT hd hd1 h32 hs hp1
            go_wp2_with (go_at_call 18; go_must (refine (kp _).mono ?_; rintro e w7 ⟨rfl, rfl⟩))
            go_roundw
            case rel => exact ⟨k + 1, wd ++ [c], by omega, by go_num, by first | rfl | simp, by simp only [List.length_append, List.length_cons, List.length_nil]; omega, hT2.out, by first | rfl | trivial⟩
            case measure => simp [intOf]; omega
          · have hs' : lex.sgn c = false := by simpa using hs
            rw [if_neg hs] at hT
            rw [hs'] at kp
            have hT2 := Lib.hid hT
            clear hT hd hd1 h32 hs hs' hp1
            go_wp2_with (go_at_call 18; go_must (refine (kp _).mono ?_; rintro e w7 ⟨rfl, rfl⟩))
            go_ret2
            exact ⟨⟨[], -1, rfl, .none hTh.out hT2.out.symm⟩, rfl⟩
      · obtain rfl : k = bs.length := by omega
        have hT2 := Lib.hid (show T = some (wd, bs.drop bs.length) by rw [← hT, List.drop_length, lex.plainGo])
        clear hT
        go_wp2
        go_ret2
        exact ⟨⟨wd, bs.length, rfl, .some hTh.out hT2.out hk⟩, rfl⟩

set_option maxHeartbeats 2000000 in
set_option maxRecDepth 100000 in
theorem ref_split (bs : List UInt8) (hbl : bs.length ≤ 9223372036854775807) (w : World) :
    Calls Try.prog 13 #[textV bs] w fun e w' => ∃ v, e = .returned (.tuple #[v, .int .i64 (lex.splitW bs).2]) ∧ St (fun _ => False) w w' [Row 9 1 v (lex.splitW bs).1.length (texts (lex.splitW bs).1)] := by
  have hsz := text_size bs
  have hsp : lex.splitW bs = if 4096 < bs.length then (([] : List (List UInt8)), (12 : Int)) else match lex.run .between [] bs with
    | none => ([], 11)
    | some l => if 64 < l.length then ([], 30) else (l, 0) := rfl
  have hsph := Lib.hid hsp
  clear hsp
  have H00 : St (fun _ => False) w w [Row 9 1 (.slice none 0 0) 0 (texts [])] := (St.nil (fun _ => False) w).row_nil 9 1
  unfold textV
  go_enter Try.func13, Try.ntmps13
  by_cases hlong : (4096 : Int) < bs.length
  · have z1 : decide ((4096 : Int) < (bs.length : Int)) = true := by simpa using hlong
    go_wp2
    go_ret2
    rw [hsph.out, if_pos (by omega)]
    exact ⟨_, rfl, H00⟩
  · have z1 : decide ((4096 : Int) < (bs.length : Int)) = false := by simpa using hlong
    go_upto_block 1 with (fail)
    go_loopw [4, 5] (fun v j wr => ∃ (i n : Nat) (out : List (List UInt8)), i ≤ bs.length ∧ j = .int .i64 i ∧ n = out.length ∧ n ≤ i ∧ lex.run .between out (bs.drop i) = lex.run .between [] bs ∧ St (fun _ => False) w wr [Row 9 1 v n (texts out)]) (fun _ j _ => bs.length - (intOf j).toNat)
    case atStart => exact ⟨0, 0, [], by omega, rfl, rfl, by omega, rfl, H00⟩
    case round =>
      clear H00
      obtain ⟨i, n, out, hi, rfl, hn, hni, hT, HL⟩ := hrel
      have hnh := Lib.hid hn
      clear hn
      obtain ⟨ao, cap, rfl, _, _⟩ := slice_form' (HL.row 0 rfl)
      by_cases hlt : i < bs.length
      · obtain ⟨c, t, hd⟩ : ∃ c t, bs.drop i = c :: t := ⟨_, _, List.drop_eq_getElem_cons hlt⟩
        have hc0 := text_at bs i (by rw [hsz]; omega) hd
        have hd1 := (at_drop hd).1
        by_cases h32 : c.toNat = 32
        · have z2 : ((c.toNat : Int) == 32) = true := by simp; omega
          rw [hd, lex.run_between_cons, if_pos h32, ← hd1] at hT
          have hT2 := Lib.hid hT
          clear hT hd hd1 h32
          go_wp2
          go_roundw
          case rel => exact ⟨i + 1, n, out, by omega, by go_num, hnh.out, by omega, hT2.out, HL⟩
          case measure => simp [intOf]; omega
        · have z2 : ((c.toNat : Int) == 32) = false := by simp; omega
          have hwg := lex.wordGo_run out c t h32
          rw [hd, hwg, ← hd] at hT
          have kw := fun w' => ref_word bs i hlt (by omega) w'
          unfold textV at kw
          go_upto_region 9 with (go_at_call 52; go_must (refine (kw _).mono ?_; rintro e w7 ⟨⟨W, K, rfl, hK⟩, rfl⟩))
          rcases hK with ⟨h1, rfl, rfl⟩ | ⟨k, h1, rfl, hk⟩
          · rw [h1] at hT
            have hT2 := Lib.hid (show lex.run .between [] bs = none from hT.symm)
            clear hT h1 hwg hd hd1 h32 kw
            go_wp2
            go_ret2
            rw [hsph.out, if_neg (by omega), hT2.out]
            exact ⟨_, rfl, (HL.pick []).row_nil 9 1⟩
          · have hless : i < k := by
              have h2 := h1
              rw [hd] at h2
              have h3 := lex.wordGo_less h2 h32
              have h4 := congrArg List.length hd
              rw [List.length_drop] at h3 h4
              simp only [List.length_cons] at h4
              omega
            rw [h1] at hT
            simp only at hT
            have y0 : decide ((k : Int) < 0) = false := by simp
            by_cases hkl : k = bs.length
            · subst hkl
              have he : lex.ends (bs.drop bs.length) = true := by rw [List.drop_length]; rfl
              rw [if_pos he] at hT
              have hT2 := Lib.hid hT
              clear hT h1 hwg hd hd1 h32 kw he
              go_wp2_with (at_builtin; go_must (refine St.list_app (HL.skip _) 0 rfl rfl (.tmp 41) (.tmp 43) 23 rfl Try.underlying23 Try.info9 (by decide) rfl [textV W] rfl rfl (new_cells #[textV W] _) (by simp [Value.oneCell', textV]) (by omega) (by omega) ?_; intro g5 cap5 w5 H5 hz5))
              go_roundw
              case rel =>
                refine ⟨bs.length, n + 1, out ++ [W], by omega, rfl, by have := hnh.out; simp; omega, by omega, hT2.out, ?_⟩
                rw [texts_snoc]
                exact H5
              case measure => simp [intOf]; omega
            · have hklt : k < bs.length := by omega
              obtain ⟨c2, t2, hd3⟩ : ∃ c t, bs.drop k = c :: t := ⟨_, _, List.drop_eq_getElem_cons hklt⟩
              have hc2 := text_at bs k (by rw [hsz]; omega) hd3
              have y1 : decide ((k : Int) < (bs.length : Int)) = true := by simp; omega
              by_cases g32 : c2.toNat = 32
              · have y2 : ((c2.toNat : Int) != 32) = false := by simp; omega
                have he : lex.ends (bs.drop k) = true := by rw [hd3]; simp [lex.ends, g32]
                rw [if_pos he] at hT
                have hT2 := Lib.hid hT
                clear hT h1 hwg hd hd1 h32 kw he hkl hd3 g32
                go_wp2_with (at_builtin; go_must (refine St.list_app (HL.skip _) 0 rfl rfl (.tmp 41) (.tmp 43) 23 rfl Try.underlying23 Try.info9 (by decide) rfl [textV W] rfl rfl (new_cells #[textV W] _) (by simp [Value.oneCell', textV]) (by omega) (by omega) ?_; intro g5 cap5 w5 H5 hz5))
                go_roundw
                case rel =>
                  refine ⟨k, n + 1, out ++ [W], by omega, rfl, by have := hnh.out; simp; omega, by omega, hT2.out, ?_⟩
                  rw [texts_snoc]
                  exact H5
                case measure => simp [intOf]; omega
              · have y2 : ((c2.toNat : Int) != 32) = true := by simp; omega
                have he : ¬ lex.ends (bs.drop k) = true := by rw [hd3]; simp [lex.ends, g32]
                rw [if_neg he] at hT
                have hT2 := Lib.hid (show lex.run .between [] bs = none from hT.symm)
                clear hT h1 hwg hd hd1 h32 kw he hkl hd3 g32
                go_wp2
                go_ret2
                rw [hsph.out, if_neg (by omega), hT2.out]
                exact ⟨_, rfl, (HL.pick []).row_nil 9 1⟩
      · obtain rfl : i = bs.length := by omega
        rw [List.drop_length, lex.run_between_nil] at hT
        have hTh := Lib.hid hT
        clear hT
        by_cases h64 : (64 : Int) < n
        · have z2 : decide ((64 : Int) < (n : Int)) = true := by simpa using h64
          go_wp2
          go_ret2
          rw [hsph.out, if_neg (by omega), ← hTh.out]
          simp only
          rw [if_pos (by have := hnh.out; omega)]
          exact ⟨_, rfl, (HL.pick []).row_nil 9 1⟩
        · have z2 : decide ((64 : Int) < (n : Int)) = false := by simpa using h64
          go_wp2
          go_ret2
          rw [hsph.out, if_neg (by omega), ← hTh.out]
          simp only
          rw [if_neg (by have := hnh.out; omega), ← hnh.out]
          exact ⟨_, rfl, HL⟩

end Go.Proofs.Ytoffcoegghigoaa
