/- The walks of the pen's reader: Number, Signed, Fixed, Text, Left, End. Conditions: the reader's blocks lie as its maker lays them. -/
import Derived.Test.YtbikjhmdpgoofabPenC
namespace Go.Proofs.Ytbikjhmdpgoofab
open Go.RowKit

theorem wordF_ok : ∀ (f i acc : Nat) (l : List UInt8), f + i = 10 → acc < 128 ^ i →
    (wordF f i acc l).1 < 18446744073709551616 ∧ ((wordF f i acc l).2.2 ≠ 0 → (wordF f i acc l).1 = 0 ∧ (wordF f i acc l).2.1 = []) ∧ ((wordF f i acc l).2.2 = 0 ∨ (wordF f i acc l).2.2 = 10 ∨ (wordF f i acc l).2.2 = 11) ∧ (wordF f i acc l).2.1.length ≤ l.length
  | 0, i, acc, l, _, _ => by simp [wordF]
  | f + 1, i, acc, [], _, _ => by simp [wordF]
  | f + 1, i, acc, c :: r, h, ha => by
    rw [wordF]
    have hp : 128 ^ (i + 1) = 128 ^ i * 128 := Nat.pow_succ ..
    have hm : c.toNat % 128 * 128 ^ i ≤ 127 * 128 ^ i := Nat.mul_le_mul_right _ (by omega)
    split
    · simp
    · rename_i hb
      split
      · rename_i hc
        refine ⟨?_, fun h => absurd rfl h, .inl rfl, by simp⟩
        show acc + c.toNat % 128 * 128 ^ i < _
        rcases Nat.lt_or_ge i 9 with h9 | h9
        · have : 128 ^ (i + 1) ≤ 128 ^ 9 := Nat.pow_le_pow_right (by omega) (by omega)
          have e9 : (128 : Nat) ^ 9 = 9223372036854775808 := by decide
          omega
        · obtain rfl : i = 9 := by omega
          have e9 : (128 : Nat) ^ 9 = 9223372036854775808 := by decide
          have : c.toNat % 128 * 128 ^ 9 ≤ 1 * 128 ^ 9 := Nat.mul_le_mul_right _ (by omega)
          omega
      · have := wordF_ok f (i + 1) (acc + c.toNat % 128 * 128 ^ i) r (by omega) (by omega)
        refine ⟨this.1, this.2.1, this.2.2.1, ?_⟩
        have h4 := this.2.2.2
        simp only [List.length_cons]
        omega
theorem rword_ok (l : List UInt8) : (rword l).1 < 18446744073709551616 ∧ ((rword l).2.2 ≠ 0 → (rword l).1 = 0 ∧ (rword l).2.1 = []) ∧ ((rword l).2.2 = 0 ∨ (rword l).2.2 = 10 ∨ (rword l).2.2 = 11) ∧ (rword l).2.1.length ≤ l.length := wordF_ok 10 0 0 l rfl (by decide)

def rnum (l : List UInt8) (e most : Int) : Int × List UInt8 × Int :=
  if e ≠ 0 then (0, l, e) else if 9223372036854775807 < (rword l).1 then (0, [], 11) else if most < (rword l).1 ∧ (rword l).2.2 = 0 then (0, [], 12) else ((rword l).1, (rword l).2.1, (rword l).2.2)
def zag (w : Nat) : Int := if w % 2 = 1 then -((w / 2 : Nat) : Int) - 1 else ((w / 2 : Nat) : Int)
def rsig (l : List UInt8) (e : Int) : Int × List UInt8 × Int := if e ≠ 0 then (0, l, e) else (zag (rword l).1, (rword l).2.1, (rword l).2.2)
def rfix (l : List UInt8) (e n : Int) : List UInt8 × List UInt8 × Int :=
  if e ≠ 0 then ([], l, e) else if n < 0 then ([], [], 2) else if (l.length : Int) < n then ([], [], 10) else (l.take n.toNat, l.drop n.toNat, 0)
def rtext (l : List UInt8) (e most : Int) : List UInt8 × List UInt8 × Int :=
  if e ≠ 0 then ([], l, e) else if (rnum l 0 9223372036854775807).2.2 = 0 ∧ most < (rnum l 0 9223372036854775807).1 then ([], [], 12) else rfix (rnum l 0 9223372036854775807).2.1 (rnum l 0 9223372036854775807).2.2 (rnum l 0 9223372036854775807).1
def rleft (l : List UInt8) (e : Int) : Int := if e ≠ 0 then 0 else l.length
def rend (l : List UInt8) (e : Int) : Int := if e = 0 ∧ l ≠ [] then 13 else e

theorem read_number_nil (n : Int) (w : World) : Calls Try.prog 30 #[.pointer none, .int .i64 n] w fun r w' => r = .returned (.int .i64 0) ∧ w' = w := by
  go_enter Try.func30, Try.ntmps30
  go_wp2_with (go_at_call 72; refine (read_off_nil _).mono ?_; rintro e w' ⟨rfl, rfl⟩)
  go_ret
  exact ⟨rfl, rfl⟩
theorem read_signed_nil (w : World) : Calls Try.prog 32 #[.pointer none] w fun r w' => r = .returned (.int .i64 0) ∧ w' = w := by
  go_enter Try.func32, Try.ntmps32
  go_wp2_with (go_at_call 72; refine (read_off_nil _).mono ?_; rintro e w' ⟨rfl, rfl⟩)
  go_ret
  exact ⟨rfl, rfl⟩
theorem read_text_nil (n : Int) (w : World) : Calls Try.prog 34 #[.pointer none, .int .i64 n] w fun r w' => r = .returned (.slice none 0 0) ∧ w' = w := by
  go_enter Try.func34, Try.ntmps34
  go_wp2_with (go_at_call 72; refine (read_off_nil _).mono ?_; rintro e w' ⟨rfl, rfl⟩)
  go_ret
  exact ⟨rfl, rfl⟩
theorem read_fixed_nil (n : Int) (w : World) : Calls Try.prog 36 #[.pointer none, .int .i64 n] w fun r w' => r = .returned (.slice none 0 0) ∧ w' = w := by
  go_enter Try.func36, Try.ntmps36
  go_wp2_with (go_at_call 72; refine (read_off_nil _).mono ?_; rintro e w' ⟨rfl, rfl⟩)
  go_ret
  exact ⟨rfl, rfl⟩
theorem read_left_nil (w : World) : Calls Try.prog 43 #[.pointer none] w fun r w' => r = .returned (.int .i64 0) ∧ w' = w := by
  go_enter Try.func43, Try.ntmps43
  go_wp2_with (go_at_call 72; refine (read_off_nil _).mono ?_; rintro e w' ⟨rfl, rfl⟩)
  go_ret
  exact ⟨rfl, rfl⟩
theorem read_end_nil (w : World) : Calls Try.prog 41 #[.pointer none] w fun r w' => r = .returned (.int .i64 1) ∧ w' = w := by
  go_enter Try.func41, Try.ntmps41
  go_wp2_with (go_at_call 40; refine (read_err_nil _).mono ?_; rintro e w' ⟨rfl, rfl⟩)
  go_ret
  exact ⟨rfl, rfl⟩

set_option maxHeartbeats 1000000 in
theorem read_number {b : Nat} {l : List UInt8} {e : Int} (most : Int) {w : World} {S : Nat → Prop} (H : Sep w [ReaderAt b l e] S) :
    Calls Try.prog 30 #[.pointer (some ⟨b, 0, none⟩), .int .i64 most] w fun r w' => r = .returned (.int .i64 (rnum l e most).1) ∧ St S w w' [ReaderAt b (rnum l e most).2.1 (rnum l e most).2.2] := by
  have H0 := St.refl H
  obtain ⟨res, hres⟩ : ∃ res, rnum l e most = res := ⟨_, rfl⟩
  rw [hres]
  by_cases he : e = 0
  · subst he
    have hok := rword_ok l
    obtain ⟨wd, hwd⟩ : ∃ wd, rword l = wd := ⟨_, rfl⟩
    have hr2 : (if 9223372036854775807 < wd.1 then (0, [], 11) else if most < wd.1 ∧ wd.2.2 = 0 then (0, [], 12) else ((wd.1 : Int), wd.2.1, wd.2.2)) = res := by rw [← hres, ← hwd]; simp [rnum]
    rw [hwd] at hok
    have kw := read_word H
    rw [hwd] at kw
    have hrh := Lib.hid hr2
    clear hres hwd hr2
    obtain ⟨n, l', e'⟩ := wd
    obtain ⟨h1, h2, h3, _⟩ := hok
    simp only at kw h1 h2 h3 hrh
    have e1 : ((0 : Int) != 0) = false := rfl
    go_enter Try.func30, Try.ntmps30
    go_wp2_with fail
    refine (read_off H).mono ?_
    rintro r w1 ⟨rfl, rfl⟩
    go_wp2_with fail
    refine kw.mono ?_
    rintro r w1 ⟨rfl, H1⟩
    clear kw
    by_cases hb : 9223372036854775807 < n
    · have he0 : e' = 0 := by
        by_cases h : e' = 0
        · exact h
        · have := (h2 h).1; omega
      subst he0
      have z1 : decide ((9223372036854775807 : Int) < (n : Int)) = true := by simp; omega
      have hfin := Lib.hid (show res = (0, [], 11) by rw [← hrh.out, if_pos hb])
      clear hrh h2 h3
      go_wp2_with fail
      obtain ⟨S1, K1, G1⟩ := St.call (l1 := [_]) (l2 := []) H1
      refine (read_fail (x := 11) K1).mono ?_
      rintro r w2 ⟨rfl, H2⟩
      have H3 := G1 _ _ H2
      go_wp2
      go_ret
      rw [hfin.out]
      exact ⟨rfl, H3⟩
    · have z1 : decide ((9223372036854775807 : Int) < (n : Int)) = false := by simp; omega
      have x1 : IntKind.i64.wrap (n : Int) = n := IntWalk.i64_in _ (by omega)
      obtain ⟨ao, cap, hc, H4⟩ := ReaderAt.open H1
      have c1 := H4.cell 0 1 rfl rfl
      by_cases hm : most < (n : Int)
      · have z2 : decide (most < (n : Int)) = true := by simpa using hm
        by_cases he0 : e' = 0
        · subst he0
          have hfin := Lib.hid (show res = (0, [], 12) by rw [← hrh.out, if_neg hb, if_pos ⟨hm, rfl⟩])
          clear hrh h2 h3
          go_wp2_with fail
          obtain ⟨S1, K1, G1⟩ := St.call (l1 := [_]) (l2 := []) H1
          refine (read_fail (x := 12) K1).mono ?_
          rintro r w2 ⟨rfl, H2⟩
          have H3 := G1 _ _ H2
          go_wp2
          go_ret
          rw [hfin.out]
          exact ⟨rfl, H3⟩
        · have hfin := Lib.hid (show res = ((n : Int), l', e') by rw [← hrh.out, if_neg hb, if_neg (fun h => he0 h.2)])
          have z3 : (e' == 0) = false := by simpa using he0
          clear hrh h2 h3
          go_wp2
          go_ret
          rw [hfin.out]
          exact ⟨rfl, H1⟩
      · have z2 : decide (most < (n : Int)) = false := by simpa using hm
        have hfin := Lib.hid (show res = ((n : Int), l', e') by rw [← hrh.out, if_neg hb, if_neg (fun h => hm h.1)])
        clear hrh h2 h3
        go_wp2
        go_ret
        rw [hfin.out]
        exact ⟨rfl, H1⟩
  · have e1 : (e != 0) = true := by simpa using he
    have hfin := Lib.hid (show res = (0, l, e) by rw [← hres, rnum, if_pos he])
    clear hres he
    go_enter Try.func30, Try.ntmps30
    go_wp2_with (go_at_call 72; refine (read_off H).mono ?_; rintro e w' ⟨rfl, rfl⟩)
    go_ret
    rw [hfin.out]
    exact ⟨rfl, H0⟩

theorem zag_odd {n : Nat} (h : n % 2 = 1) (hn : n < 18446744073709551616) : IntKind.i64.wrap ((18446744073709551615 - n / 2 : Nat) : Int) = zag n := by
  unfold zag
  rw [if_pos h, IntKind.wrap_i64]
  omega
theorem and_one (n : Nat) (hn : n < 18446744073709551616) : bits BinOp.and IntKind.u64 (n : Int) 1 = ((n % 2 : Nat) : Int) := by
  have hk : ∀ n : Int, 0 ≤ n → n < 2 ^ 64 → IntKind.u64.wrap n = n := fun n h1 h2 => IntWalk.u64_in _ ⟨h1, by omega⟩
  have := bits_mask .u64 64 (by decide) hk 1 (by decide) n (by omega) (by omega)
  rw [show ((2 : Int) ^ 1 - 1) = 1 from rfl] at this
  rw [this]
  omega

set_option maxHeartbeats 1000000 in
theorem read_signed {b : Nat} {l : List UInt8} {e : Int} {w : World} {S : Nat → Prop} (H : Sep w [ReaderAt b l e] S) :
    Calls Try.prog 32 #[.pointer (some ⟨b, 0, none⟩)] w fun r w' => r = .returned (.int .i64 (rsig l e).1) ∧ St S w w' [ReaderAt b (rsig l e).2.1 (rsig l e).2.2] := by
  have H0 := St.refl H
  obtain ⟨res, hres⟩ : ∃ res, rsig l e = res := ⟨_, rfl⟩
  rw [hres]
  by_cases he : e = 0
  · subst he
    have hok := rword_ok l
    obtain ⟨wd, hwd⟩ : ∃ wd, rword l = wd := ⟨_, rfl⟩
    have hr2 : (zag wd.1, wd.2.1, wd.2.2) = res := by rw [← hres, ← hwd]; simp [rsig]
    rw [hwd] at hok
    have kw := read_word H
    rw [hwd] at kw
    have hrh := Lib.hid hr2
    clear hres hwd hr2
    obtain ⟨n, l', e'⟩ := wd
    obtain ⟨h1, _, _, _⟩ := hok
    simp only at kw h1 hrh
    have e1 : ((0 : Int) != 0) = false := rfl
    have h7 := and_one n h1
    go_enter Try.func32, Try.ntmps32
    go_wp2_with fail
    refine (read_off H).mono ?_
    rintro r w1 ⟨rfl, rfl⟩
    go_wp2_with fail
    refine kw.mono ?_
    rintro r w1 ⟨rfl, H1⟩
    clear kw
    by_cases hb : n % 2 = 1
    · have z1 : (((n % 2 : Nat) : Int) == 1) = true := by simp; omega
      have z2 : ((n : Int) % 2 == 1) = true := by simp; omega
      have hx := xor_max (n / 2) (by omega)
      have hx2 : ((n / 2 : Nat) : Int) = (n : Int) / 2 := by omega
      rw [hx2] at hx
      have hz := zag_odd hb h1
      have hzh := Lib.hid hz
      obtain ⟨q, hq⟩ : ∃ q, 18446744073709551615 - n / 2 = q := ⟨_, rfl⟩
      rw [hq] at hx hz
      have hz2 := Lib.hid (show wrap64 (q : Int) = zag n by rw [← hz, IntKind.wrap_i64]; simp only [wrap64])
      clear hq hb hzh hx2 hz
      go_wp2
      go_ret
      rw [← hrh.out]
      exact ⟨ret_int hz2.out, H1⟩
    · have z1 : (((n % 2 : Nat) : Int) == 1) = false := by simp; omega
      have z2 : ((n : Int) % 2 == 1) = false := by simp; omega
      have hz := Lib.hid (show zag n = (n : Int) / 2 by unfold zag; rw [if_neg hb]; omega)
      have hx : IntKind.i64.wrap ((n : Int) / 2) = (n : Int) / 2 := IntWalk.i64_in _ (by omega)
      clear hb
      go_wp2
      go_ret
      rw [← hrh.out]
      exact ⟨by rw [hz.out]; rfl, H1⟩
  · have e1 : (e != 0) = true := by simpa using he
    have hfin := Lib.hid (show res = (0, l, e) by rw [← hres, rsig, if_pos he])
    clear hres he
    go_enter Try.func32, Try.ntmps32
    go_wp2_with (go_at_call 72; refine (read_off H).mono ?_; rintro e w' ⟨rfl, rfl⟩)
    go_ret
    rw [hfin.out]
    exact ⟨rfl, H0⟩

theorem read_left {b : Nat} {l : List UInt8} {e : Int} {w : World} {S : Nat → Prop} (H : Sep w [ReaderAt b l e] S) :
    Calls Try.prog 43 #[.pointer (some ⟨b, 0, none⟩)] w fun r w' => r = .returned (.int .i64 (rleft l e)) ∧ w' = w := by
  obtain ⟨ao, cap, hc, H0⟩ := ReaderAt.open (St.refl H)
  have c0 := H0.cell 0 0 rfl rfl
  by_cases he : e = 0
  · have e1 : (e != 0) = false := by simpa using he
    rw [show rleft l e = l.length by unfold rleft; rw [if_neg (by omega)]]
    clear he
    go_enter Try.func43, Try.ntmps43
    go_wp2_with (go_at_call 72; refine (read_off H).mono ?_; rintro e w' ⟨rfl, rfl⟩)
    go_ret
    exact ⟨rfl, rfl⟩
  · have e1 : (e != 0) = true := by simpa using he
    rw [show rleft l e = 0 by unfold rleft; rw [if_pos he]]
    clear he
    go_enter Try.func43, Try.ntmps43
    go_wp2_with (go_at_call 72; refine (read_off H).mono ?_; rintro e w' ⟨rfl, rfl⟩)
    go_ret
    exact ⟨rfl, rfl⟩
theorem read_end {b : Nat} {l : List UInt8} {e : Int} {w : World} {S : Nat → Prop} (H : Sep w [ReaderAt b l e] S) :
    Calls Try.prog 41 #[.pointer (some ⟨b, 0, none⟩)] w fun r w' => r = .returned (.int .i64 (rend l e)) ∧ w' = w := by
  obtain ⟨ao, cap, hc, H0⟩ := ReaderAt.open (St.refl H)
  have c0 := H0.cell 0 0 rfl rfl
  by_cases he : e = 0
  · have e1 : (e == 0) = true := by simpa using he
    by_cases hl : l = []
    · rw [show rend l e = e by unfold rend; rw [if_neg (by simp [hl])]]
      have hl1 : decide ((0 : Int) < l.length) = false := by simp [hl]
      have hl2 : decide (0 < l.length) = false := by simp [hl]
      clear he hl
      go_enter Try.func41, Try.ntmps41
      go_wp2_with (go_at_call 40; refine (read_err H).mono ?_; rintro e w' ⟨rfl, rfl⟩)
      go_ret
      exact ⟨rfl, rfl⟩
    · rw [show rend l e = 13 by unfold rend; rw [if_pos ⟨he, hl⟩]]
      have hl0 : 0 < l.length := List.length_pos_iff.2 hl
      have hl1 : decide ((0 : Int) < l.length) = true := by simpa using hl0
      have hl2 : decide (0 < l.length) = true := by simpa using hl0
      clear he hl
      go_enter Try.func41, Try.ntmps41
      go_wp2_with (go_at_call 40; refine (read_err H).mono ?_; rintro e w' ⟨rfl, rfl⟩)
      go_ret
      exact ⟨rfl, rfl⟩
  · have e1 : (e == 0) = false := by simpa using he
    rw [show rend l e = e by unfold rend; rw [if_neg (fun h => he h.1)]]
    clear he
    go_enter Try.func41, Try.ntmps41
    go_wp2_with (go_at_call 40; refine (read_err H).mono ?_; rintro e w' ⟨rfl, rfl⟩)
    go_ret
    exact ⟨rfl, rfl⟩

theorem ReaderAt.open2 {b : Nat} {l : List UInt8} {e : Int} {w0 w : World} {L : List SP} {S : Nat → Prop} (H : St S w0 w (ReaderAt b l e :: L)) : ∃ ao cap, l.length ≤ cap ∧ ((ao = none ∧ l = []) ∨ ∃ g o, ao = some ⟨g, o, none⟩) ∧
    St S w0 w (Blk b #[.slice ao l.length cap, .int .i64 e] 107 :: View (.slice ao l.length cap) l :: L) := by
  obtain ⟨ao, cap, hc, H0⟩ := ReaderAt.open H
  refine ⟨ao, cap, hc, ?_, H0⟩
  obtain ⟨S1, ao1, cap1, h1, h2, h3⟩ := H0.sep.get 1 rfl
  simp only [Value.slice.injEq, true_and] at h1
  obtain ⟨rfl, rfl⟩ := h1
  rcases h3 with ⟨h3, h4, _⟩ | ⟨g, o, _, _, h3, _⟩
  · exact .inl ⟨h3, h4⟩
  · exact .inr ⟨g, o, h3⟩

set_option maxHeartbeats 1000000 in
theorem read_fixed {b : Nat} {l : List UInt8} {e : Int} (n : Int) {w : World} {S : Nat → Prop} (hl : l.length ≤ 140000000000000) (H : Sep w [ReaderAt b l e] S) :
    Calls Try.prog 36 #[.pointer (some ⟨b, 0, none⟩), .int .i64 n] w fun r w' => ∃ v', r = .returned v' ∧ St S w w' [Row 5 1 v' (rfix l e n).1.length (bvs (rfix l e n).1), ReaderAt b (rfix l e n).2.1 (rfix l e n).2.2] := by
  have H0 := St.refl H
  obtain ⟨res, hres⟩ : ∃ res, rfix l e n = res := ⟨_, rfl⟩
  rw [hres]
  by_cases he : e = 0
  · subst he
    have e1 : ((0 : Int) != 0) = false := rfl
    by_cases h1 : n < 0
    · have hfin := Lib.hid (show res = ([], [], 2) by rw [← hres, rfix, if_neg (by simp), if_pos h1])
      have z1 : decide (n < 0) = true := by simpa using h1
      clear hres h1
      go_enter Try.func36, Try.ntmps36
      go_wp2_with fail
      refine (read_off H).mono ?_
      rintro r w1 ⟨rfl, hw1⟩
      subst w1
      go_wp2_with fail
      refine (read_fail (x := 2) H).mono ?_
      rintro r w2 ⟨rfl, H2⟩
      go_wp2
      go_ret
      rw [hfin.out]
      exact ⟨_, rfl, H2.row_nil 5 1⟩
    · have z1 : decide (n < 0) = false := by simpa using h1
      obtain ⟨ao, cap, hc, hao, H1⟩ := ReaderAt.open2 H0
      have H1 : St S w w [_, _] := H1
      have c0 := H1.cell 0 0 rfl rfl
      have f0 := H1.free 0 0 rfl
      have hb := H1.blk_lt 0 rfl
      by_cases h2 : (l.length : Int) < n
      · have hfin := Lib.hid (show res = ([], [], 10) by rw [← hres, rfix, if_neg (by simp), if_neg h1, if_pos h2])
        have z2 : decide ((l.length : Int) < n) = true := by simpa using h2
        clear hres h1 h2 f0 hb
        go_enter Try.func36, Try.ntmps36
        go_wp2_with fail
        refine (read_off H).mono ?_
        rintro r w1 ⟨rfl, hw1⟩
        subst w1
        go_wp2_with fail
        refine (read_fail (x := 10) H).mono ?_
        rintro r w2 ⟨rfl, H2⟩
        go_wp2
        go_ret
        rw [hfin.out]
        exact ⟨_, rfl, H2.row_nil 5 1⟩
      · have z2 : decide ((l.length : Int) < n) = false := by simpa using h2
        obtain ⟨k, rfl⟩ := Int.eq_ofNat_of_zero_le (show 0 ≤ n by omega)
        have hfin := Lib.hid (show res = (l.take k, l.drop k, 0) by rw [← hres, rfix, if_neg (by simp), if_neg h1, if_neg h2]; simp)
        have hk : k ≤ l.length := by omega
        have hro := H1.viewRO 1 rfl (k := k) (cap' := cap) hk (by omega)
        have y1 : (k : Int) ≤ (cap : Int) := by omega
        have y2 : (0 : Int) ≤ (k : Int) := by omega
        have hlt : (l.take k).length = k := by rw [List.length_take]; omega
        clear hres h1 h2
        rcases hao with ⟨rfl, h0⟩ | ⟨g, o, rfl⟩
        · subst h0
          obtain rfl : k = 0 := by simpa using hk
          go_enter Try.func36, Try.ntmps36
          go_wp2_with fail
          refine (read_off H).mono ?_
          rintro r w1 ⟨rfl, hw1⟩
          subst w1
          go_wp2_with fail
          refine (bytes_clone hro (by simp)).mono ?_
          rintro r w2 ⟨v', rfl, H2⟩
          have H3 : St S w w2 [_, _, _] := H1.call0 H2
          have c0' := H3.cell 1 0 rfl rfl
          have f0' := H3.free 1 0 rfl
          have hb' := H3.blk_lt 1 rfl
          have H4 : St S w _ [_, _, _] := H3.set 1 rfl 0 (.slice none 0 cap)
          go_wp2
          go_ret
          rw [hfin.out]
          refine ⟨v', rfl, ?_⟩
          have H5 : St S w _ (ReaderAt b [] 0 :: [_]) := ReaderAt.mk (L := [_]) (v := .slice none 0 cap) (H4.pick [1, 2, 0])
          exact H5.pick [1, 0]
        · go_enter Try.func36, Try.ntmps36
          go_wp2_with fail
          refine (read_off H).mono ?_
          rintro r w1 ⟨rfl, hw1⟩
          subst w1
          go_wp2_with fail
          refine (bytes_clone hro (by omega)).mono ?_
          rintro r w2 ⟨v', rfl, H2⟩
          have H3 : St S w w2 [_, _, _] := H1.call0 H2
          have c0' := H3.cell 1 0 rfl rfl
          have f0' := H3.free 1 0 rfl
          have hb' := H3.blk_lt 1 rfl
          have y3 : (k : Int) ≤ (l.length : Int) := by omega
          by_cases hcap : cap = k
          · subst hcap
            have hkl : l.length = cap := by omega
            have H4 : St S w _ [_, _, _] := (H3.set 1 rfl 0 (.slice (some ⟨g, o, none⟩) (l.length - cap) 0)).viewCut 2 (k := cap) (ao' := some ⟨g, o, none⟩) (cap' := 0) rfl hk (by omega) (.inr ⟨g, o, o, rfl, rfl, fun h => by omega⟩)
            have hz : l.length - cap = 0 := by omega
            rw [hz] at H4
            have hkh := Lib.hid hkl
            clear hkl hz
            go_wp2
            go_ret
            rw [hfin.out]
            refine ⟨v', rfl, ?_⟩
            have H5 : St S w _ (ReaderAt b _ 0 :: [_]) := ReaderAt.mk (L := [_]) (H4.pick [1, 2, 0])
            exact H5.pick [1, 0]
          · have H4 : St S w _ [_, _, _] := (H3.set 1 rfl 0 (.slice (some ⟨g, o + k, none⟩) (l.length - k) (cap - k))).viewCut 2 (k := k) (ao' := some ⟨g, o + k, none⟩) (cap' := cap - k) rfl hk (by omega) (.inr ⟨g, o, o + k, rfl, rfl, fun h => rfl⟩)
            go_wp2
            go_ret
            rw [hfin.out]
            refine ⟨v', rfl, ?_⟩
            have H5 : St S w _ (ReaderAt b _ 0 :: [_]) := ReaderAt.mk (L := [_]) (H4.pick [1, 2, 0])
            exact H5.pick [1, 0]
  · have e1 : (e != 0) = true := by simpa using he
    have hfin := Lib.hid (show res = ([], l, e) by rw [← hres, rfix, if_pos he])
    clear hres he
    go_enter Try.func36, Try.ntmps36
    go_wp2_with (go_at_call 72; refine (read_off H).mono ?_; rintro e w' ⟨rfl, rfl⟩)
    go_ret
    rw [hfin.out]
    exact ⟨_, rfl, H0.row_nil 5 1⟩

end Go.Proofs.Ytbikjhmdpgoofab
