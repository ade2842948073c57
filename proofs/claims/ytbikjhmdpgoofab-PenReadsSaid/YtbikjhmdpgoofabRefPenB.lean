/- The walks of the reference's tape: Fail, word, Number, Signed, Fixed, Text, End. No condition but int64s. -/
import Derived.Test.YtbikjhmdpgoofabPenE
import Derived.Test.YtbikjhmdpgoofabRefPenA
namespace Go.Proofs.Ytbikjhmdpgoofab
open Go.RowKit

abbrev TapeAt (b : Nat) (l : List UInt8) (e : Int) : SP := Blk b #[textV l, .int .i64 e] 70

theorem tape_fail {b : Nat} {l : List UInt8} {e x : Int} {w : World} {S : Nat → Prop} (H : Sep w [TapeAt b l e] S) :
    Calls Try.prog 39 #[.pointer (some ⟨b, 0, none⟩), .int .i64 x] w fun r w' => r = .returned (.tuple #[]) ∧ St S w w' [TapeAt b (if e = 0 ∧ x ≠ 0 then [] else l) (if e = 0 ∧ x ≠ 0 then x else e)] := by
  have H0 : St S w w [_] := St.refl H
  have c0 := H0.cell 0 0 rfl rfl
  have c1 := H0.cell 0 1 rfl rfl
  have f0 := H0.free 0 0 rfl
  have f1 := H0.free 0 1 rfl
  have hb := H0.blk_lt 0 rfl
  by_cases h0 : e = 0
  · by_cases h1 : x = 0
    · have e1 : (x == 0) = true := by simpa using h1
      have e2 : (x != 0) = false := by simpa using h1
      have e3 : (e == 0) = true := by simpa using h0
      rw [if_neg (by omega), if_neg (by omega)]
      clear h0 h1
      go_enter Try.func39, Try.ntmps39
      go_wp2
      go_end0
      exact ⟨rfl, H0⟩
    · have e1 : (x == 0) = false := by simpa using h1
      have e2 : (x != 0) = true := by simpa using h1
      have e3 : (e == 0) = true := by simpa using h0
      rw [if_pos ⟨h0, h1⟩, if_pos ⟨h0, h1⟩]
      clear h0 h1
      have H1 := ((H0.set 0 rfl 1 (.int .i64 x)).set 0 rfl 0 (textV []))
      go_enter Try.func39, Try.ntmps39
      go_wp2
      go_end0
      exact ⟨rfl, H1⟩
  · have e3 : (e == 0) = false := by simpa using h0
    rw [if_neg (fun h => h0 h.1), if_neg (fun h => h0 h.1)]
    clear h0
    go_enter Try.func39, Try.ntmps39
    go_wp2
    go_end0
    exact ⟨rfl, H0⟩

theorem text_tail {c : UInt8} {r : List UInt8} : (⟨(c :: r).toArray⟩ : ByteArray).extract 1 (r.length + 1) = ⟨r.toArray⟩ := by
  apply ByteArray.ext
  rw [ByteArray.data_extract]
  simp [List.take_of_length_le]

set_option maxHeartbeats 2000000 in
set_option maxRecDepth 100000 in
theorem tape_word {b : Nat} {l : List UInt8} {e : Int} {w : World} {S : Nat → Prop} (hl : l.length ≤ 9223372036854775807) (H : Sep w [TapeAt b l e] S) :
    Calls Try.prog 74 #[.pointer (some ⟨b, 0, none⟩)] w fun r w' => r = .returned (.int .u64 (if e ≠ 0 then 0 else (rword l).1 : Nat)) ∧ St S w w' [TapeAt b (if e ≠ 0 then l else (rword l).2.1) (if e ≠ 0 then e else (rword l).2.2)] := by
  have H0 : St S w w [_] := St.refl H
  have c1 := H0.cell 0 1 rfl rfl
  by_cases he : e = 0
  · subst he
    have e1 : ((0 : Int) != 0) = false := rfl
    rw [if_neg (by simp), if_neg (by simp), if_neg (by simp)]
    clear H
    go_enter Try.func74, Try.ntmps74
    go_upto_block 1 with (fail)
    clear c1
    go_loopw [3, 4, 5] (fun va vu vi wr => ∃ (i acc : Nat) (l' : List UInt8), va = .int .u64 acc ∧ (i < 10 → vu = .int .u64 (128 ^ i : Nat)) ∧ vi = .int .i64 i ∧ i ≤ 10 ∧ acc < 128 ^ i ∧ l'.length ≤ l.length ∧ wordF (10 - i) i acc l' = rword l ∧ St S w wr [TapeAt b l' 0]) (fun _ _ vi _ => 10 - (intOf vi).toNat)
    case atStart => exact ⟨0, 0, l, rfl, fun _ => rfl, rfl, by omega, by omega, Nat.le_refl _, rfl, H0⟩
    case round =>
      clear H0
      obtain ⟨i, acc, l', rfl, hu, rfl, hi, hacc, hll, hw, HL⟩ := hrel
      by_cases h10 : i < 10
      · obtain rfl := hu h10
        obtain ⟨f, hf⟩ : ∃ f, 10 - i = f + 1 := ⟨9 - i, by omega⟩
        rw [hf] at hw
        have c0 := HL.cell 0 0 rfl rfl
        have f0 := HL.free 0 0 rfl
        have hb := HL.blk_lt 0 rfl
        have hps : (⟨l'.toArray⟩ : ByteArray).size = l'.length := by simp [ByteArray.size]
        unfold textV at c0
        cases l' with
        | nil =>
          have hwh := Lib.hid (show rword l = (0, [], 10) from hw.symm)
          clear hw hacc hf
          go_wp2_with fail
          obtain ⟨S1, K1, G1⟩ := St.call (l1 := [_]) (l2 := []) HL
          refine (tape_fail (x := 10) K1).mono ?_
          rintro r w2 ⟨rfl, H2⟩
          have H3 := G1 _ _ H2
          go_wp2
          go_ret
          rw [hwh.out]
          exact ⟨rfl, H3⟩
        | cons c r =>
          have htl := text_tail (c := c) (r := r)
          have hc0 : (⟨(c :: r).toArray⟩ : ByteArray)[0]'(by simp [ByteArray.size]) = c := rfl
          have hx256 := UInt8.toNat_lt c
          rw [wordF] at hw
          have H2 : St S w _ [TapeAt b r 0] := HL.set 0 rfl 0 (textV r)
          unfold textV at H2
          obtain ⟨x, hx⟩ : ∃ x, c.toNat = x := ⟨_, rfl⟩
          rw [hx] at hw hx256
          have hwr : IntKind.u64.wrap (x : Int) = x := IntWalk.u64_in _ (by omega)
          have hwh := Lib.hid hw
          have hll2 : r.length ≤ l.length := by simp at hll; omega
          clear hw HL hll hu
          rcases (show (x = 0 ∧ 0 < i) ∨ (x = 0 ∧ i = 0) ∨ (x ≠ 0 ∧ i = 9 ∧ 1 < x) ∨ (x ≠ 0 ∧ i = 9 ∧ x ≤ 1) ∨ (x ≠ 0 ∧ i ≠ 9) by omega) with h1 | h1 | h1 | h1 | h1
          · have fz0 : ((x : Int) == 0) = true := by simp; omega
            have fp0 : decide ((0 : Int) < (i : Int)) = true := by simp; omega
            have fp1 : decide (0 < i) = true := by simp; omega
            have hwq := Lib.hid (show rword l = (0, [], 11) by rw [← hwh.out, if_pos (by omega)])
            clear hwh h1
            go_wp2_with fail
            obtain ⟨S1, K1, G1⟩ := St.call (l1 := [_]) (l2 := []) H2
            refine (tape_fail (x := 11) K1).mono ?_
            rintro r w2 ⟨rfl, H5⟩
            have H6 := G1 _ _ H5
            go_wp2
            go_ret
            rw [hwq.out]
            exact ⟨rfl, H6⟩
          · have fz0 : ((x : Int) == 0) = true := by simp; omega
            have fp0 : decide ((0 : Int) < (i : Int)) = false := by simp; omega
            have fp1 : decide (0 < i) = false := by simp; omega
            have fn0 : ((i : Int) == 9) = false := by simp; omega
            have hwq := Lib.hid (show rword l = if x < 128 then (acc + x % 128 * 128 ^ i, r, 0) else wordF f (i + 1) (acc + x % 128 * 128 ^ i) r by rw [← hwh.out, if_neg (by omega)])
            have hpow : 128 ^ (i + 1) = 128 ^ i * 128 := Nat.pow_succ ..
            obtain ⟨U, hU⟩ : ∃ U : Nat, 128 ^ i = U := ⟨_, rfl⟩
            have hUl : U ≤ 9223372036854775808 := by rw [← hU]; exact Nat.le_trans (Nat.pow_le_pow_right (by omega) (show i ≤ 9 by omega)) (by decide)
            have hU8 : i ≠ 9 → U ≤ 72057594037927936 := fun h => by rw [← hU]; exact Nat.le_trans (Nat.pow_le_pow_right (by omega) (show i ≤ 8 by omega)) (by decide)
            obtain ⟨M, hM⟩ : ∃ M : Nat, x % 128 * U = M := ⟨_, rfl⟩
            have hMl : M ≤ 9223372036854775808 := by
              rw [← hM]
              rcases (show i = 9 ∧ x ≤ 1 ∨ i ≠ 9 by omega) with h | h
              · exact Nat.le_trans (Nat.mul_le_mul_right U (show x % 128 ≤ 1 by omega)) (by omega)
              · exact Nat.le_trans (Nat.mul_le_mul_right U (show x % 128 ≤ 127 by omega)) (by have := hU8 h; omega)
            have hM1 : M ≤ 127 * U := by rw [← hM]; exact Nat.mul_le_mul_right U (by omega)
            have y1 : (x : Int).tmod 128 = (x : Int) % 128 := Int.tmod_eq_emod_of_nonneg (by omega)
            have y2 : (x : Int) % 128 * (U : Int) = (M : Int) := by rw [← hM]; push_cast; rfl
            have y3 : IntKind.u64.wrap (M : Int) = M := IntWalk.u64_in _ (by omega)
            rw [hU] at hacc
            have y4 : IntKind.u64.wrap ((acc : Int) + (M : Int)) = (acc : Int) + M := IntWalk.u64_in _ (by omega)
            have hwq2 := Lib.hid (show rword l = if x < 128 then (acc + M, r, 0) else wordF f (i + 1) (acc + M) r by rw [hwq.out, hU, hM])
            have hUh := Lib.hid hU
            have h1h := Lib.hid h1
            have hpowh := Lib.hid hpow
            clear hwh hwq hM hpow h1 hU8
            rw [hU]
            clear hU
            by_cases hm : x < 128
            · have m0 : decide ((x : Int) < 128) = true := by simp; omega
              have hwr2 := Lib.hid (show rword l = (acc + M, r, 0) by rw [hwq2.out, if_pos hm])
              clear hwq2 hm
              go_wp2
              go_ret
              rw [hwr2.out]
              exact ⟨rfl, H2⟩
            · have m0 : decide ((x : Int) < 128) = false := by simp; omega
              have hwr2 := Lib.hid (show wordF (10 - (i + 1)) (i + 1) (acc + M) r = rword l by rw [hwq2.out, if_neg hm]; congr 1; omega)
              clear hwq2 hm
              go_wp2
              go_roundw
              case rel => exact ⟨i + 1, acc + M, r, by go_num, fun h => by
                  have hu9 : U ≤ 72057594037927936 := by rw [← hUh.out]; exact Nat.le_trans (Nat.pow_le_pow_right (by omega) (show i ≤ 8 by omega)) (by decide)
                  rw [hpowh.out, hUh.out, IntWalk.u64_in _ (by omega)]
                  push_cast
                  rfl, by go_num, by omega, by rw [hpowh.out, hUh.out]; omega, hll2, hwr2.out, H2⟩
              case measure => simp [intOf]; omega
          · have fz0 : ((x : Int) == 0) = false := by simp; omega
            have fn0 : ((i : Int) == 9) = true := by simp; omega
            have fg0 : decide ((1 : Int) < (x : Int)) = true := by simp; omega
            have fg1 : decide (1 < x) = true := by simp; omega
            have hwq := Lib.hid (show rword l = (0, [], 11) by rw [← hwh.out, if_pos (by omega)])
            clear hwh h1
            go_wp2_with fail
            obtain ⟨S1, K1, G1⟩ := St.call (l1 := [_]) (l2 := []) H2
            refine (tape_fail (x := 11) K1).mono ?_
            rintro r w2 ⟨rfl, H5⟩
            have H6 := G1 _ _ H5
            go_wp2
            go_ret
            rw [hwq.out]
            exact ⟨rfl, H6⟩
          · have fz0 : ((x : Int) == 0) = false := by simp; omega
            have fn0 : ((i : Int) == 9) = true := by simp; omega
            have fg0 : decide ((1 : Int) < (x : Int)) = false := by simp; omega
            have fg1 : decide (1 < x) = false := by simp; omega
            have hwq := Lib.hid (show rword l = if x < 128 then (acc + x % 128 * 128 ^ i, r, 0) else wordF f (i + 1) (acc + x % 128 * 128 ^ i) r by rw [← hwh.out, if_neg (by omega)])
            have hpow : 128 ^ (i + 1) = 128 ^ i * 128 := Nat.pow_succ ..
            obtain ⟨U, hU⟩ : ∃ U : Nat, 128 ^ i = U := ⟨_, rfl⟩
            have hUl : U ≤ 9223372036854775808 := by rw [← hU]; exact Nat.le_trans (Nat.pow_le_pow_right (by omega) (show i ≤ 9 by omega)) (by decide)
            have hU8 : i ≠ 9 → U ≤ 72057594037927936 := fun h => by rw [← hU]; exact Nat.le_trans (Nat.pow_le_pow_right (by omega) (show i ≤ 8 by omega)) (by decide)
            obtain ⟨M, hM⟩ : ∃ M : Nat, x % 128 * U = M := ⟨_, rfl⟩
            have hMl : M ≤ 9223372036854775808 := by
              rw [← hM]
              rcases (show i = 9 ∧ x ≤ 1 ∨ i ≠ 9 by omega) with h | h
              · exact Nat.le_trans (Nat.mul_le_mul_right U (show x % 128 ≤ 1 by omega)) (by omega)
              · exact Nat.le_trans (Nat.mul_le_mul_right U (show x % 128 ≤ 127 by omega)) (by have := hU8 h; omega)
            have hM1 : M ≤ 127 * U := by rw [← hM]; exact Nat.mul_le_mul_right U (by omega)
            have y1 : (x : Int).tmod 128 = (x : Int) % 128 := Int.tmod_eq_emod_of_nonneg (by omega)
            have y2 : (x : Int) % 128 * (U : Int) = (M : Int) := by rw [← hM]; push_cast; rfl
            have y3 : IntKind.u64.wrap (M : Int) = M := IntWalk.u64_in _ (by omega)
            rw [hU] at hacc
            have y4 : IntKind.u64.wrap ((acc : Int) + (M : Int)) = (acc : Int) + M := IntWalk.u64_in _ (by omega)
            have hwq2 := Lib.hid (show rword l = if x < 128 then (acc + M, r, 0) else wordF f (i + 1) (acc + M) r by rw [hwq.out, hU, hM])
            have hUh := Lib.hid hU
            have h1h := Lib.hid h1
            have hpowh := Lib.hid hpow
            clear hwh hwq hM hpow h1 hU8
            rw [hU]
            clear hU
            by_cases hm : x < 128
            · have m0 : decide ((x : Int) < 128) = true := by simp; omega
              have hwr2 := Lib.hid (show rword l = (acc + M, r, 0) by rw [hwq2.out, if_pos hm])
              clear hwq2 hm
              go_wp2
              go_ret
              rw [hwr2.out]
              exact ⟨rfl, H2⟩
            · have m0 : decide ((x : Int) < 128) = false := by simp; omega
              have hwr2 := Lib.hid (show wordF (10 - (i + 1)) (i + 1) (acc + M) r = rword l by rw [hwq2.out, if_neg hm]; congr 1; omega)
              clear hwq2 hm
              go_wp2
              go_roundw
              case rel => exact ⟨i + 1, acc + M, r, by go_num, fun h => by
                  have hu9 : U ≤ 72057594037927936 := by rw [← hUh.out]; exact Nat.le_trans (Nat.pow_le_pow_right (by omega) (show i ≤ 8 by omega)) (by decide)
                  rw [hpowh.out, hUh.out, IntWalk.u64_in _ (by omega)]
                  push_cast
                  rfl, by go_num, by omega, by rw [hpowh.out, hUh.out]; omega, hll2, hwr2.out, H2⟩
              case measure => simp [intOf]; omega
          · have fz0 : ((x : Int) == 0) = false := by simp; omega
            have fn0 : ((i : Int) == 9) = false := by simp; omega
            have hwq := Lib.hid (show rword l = if x < 128 then (acc + x % 128 * 128 ^ i, r, 0) else wordF f (i + 1) (acc + x % 128 * 128 ^ i) r by rw [← hwh.out, if_neg (by omega)])
            have hpow : 128 ^ (i + 1) = 128 ^ i * 128 := Nat.pow_succ ..
            obtain ⟨U, hU⟩ : ∃ U : Nat, 128 ^ i = U := ⟨_, rfl⟩
            have hUl : U ≤ 9223372036854775808 := by rw [← hU]; exact Nat.le_trans (Nat.pow_le_pow_right (by omega) (show i ≤ 9 by omega)) (by decide)
            have hU8 : i ≠ 9 → U ≤ 72057594037927936 := fun h => by rw [← hU]; exact Nat.le_trans (Nat.pow_le_pow_right (by omega) (show i ≤ 8 by omega)) (by decide)
            obtain ⟨M, hM⟩ : ∃ M : Nat, x % 128 * U = M := ⟨_, rfl⟩
            have hMl : M ≤ 9223372036854775808 := by
              rw [← hM]
              rcases (show i = 9 ∧ x ≤ 1 ∨ i ≠ 9 by omega) with h | h
              · exact Nat.le_trans (Nat.mul_le_mul_right U (show x % 128 ≤ 1 by omega)) (by omega)
              · exact Nat.le_trans (Nat.mul_le_mul_right U (show x % 128 ≤ 127 by omega)) (by have := hU8 h; omega)
            have hM1 : M ≤ 127 * U := by rw [← hM]; exact Nat.mul_le_mul_right U (by omega)
            have y1 : (x : Int).tmod 128 = (x : Int) % 128 := Int.tmod_eq_emod_of_nonneg (by omega)
            have y2 : (x : Int) % 128 * (U : Int) = (M : Int) := by rw [← hM]; push_cast; rfl
            have y3 : IntKind.u64.wrap (M : Int) = M := IntWalk.u64_in _ (by omega)
            rw [hU] at hacc
            have y4 : IntKind.u64.wrap ((acc : Int) + (M : Int)) = (acc : Int) + M := IntWalk.u64_in _ (by omega)
            have hwq2 := Lib.hid (show rword l = if x < 128 then (acc + M, r, 0) else wordF f (i + 1) (acc + M) r by rw [hwq.out, hU, hM])
            have hUh := Lib.hid hU
            have h1h := Lib.hid h1
            have hpowh := Lib.hid hpow
            clear hwh hwq hM hpow h1 hU8
            rw [hU]
            clear hU
            by_cases hm : x < 128
            · have m0 : decide ((x : Int) < 128) = true := by simp; omega
              have hwr2 := Lib.hid (show rword l = (acc + M, r, 0) by rw [hwq2.out, if_pos hm])
              clear hwq2 hm
              go_wp2
              go_ret
              rw [hwr2.out]
              exact ⟨rfl, H2⟩
            · have m0 : decide ((x : Int) < 128) = false := by simp; omega
              have hwr2 := Lib.hid (show wordF (10 - (i + 1)) (i + 1) (acc + M) r = rword l by rw [hwq2.out, if_neg hm]; congr 1; omega)
              clear hwq2 hm
              go_wp2
              go_roundw
              case rel => exact ⟨i + 1, acc + M, r, by go_num, fun h => by
                  have hu9 : U ≤ 72057594037927936 := by rw [← hUh.out]; exact Nat.le_trans (Nat.pow_le_pow_right (by omega) (show i ≤ 8 by omega)) (by decide)
                  rw [hpowh.out, hUh.out, IntWalk.u64_in _ (by omega)]
                  push_cast
                  rfl, by go_num, by omega, by rw [hpowh.out, hUh.out]; omega, hll2, hwr2.out, H2⟩
              case measure => simp [intOf]; omega
      · obtain rfl : i = 10 := by omega
        have hwh := Lib.hid (show rword l = (0, [], 11) from hw.symm)
        clear hw hacc hu
        go_wp2_with fail
        obtain ⟨S1, K1, G1⟩ := St.call (l1 := [_]) (l2 := []) HL
        refine (tape_fail (x := 11) K1).mono ?_
        rintro r w2 ⟨rfl, H2⟩
        have H3 := G1 _ _ H2
        go_wp2
        go_ret
        rw [hwh.out]
        exact ⟨rfl, H3⟩
  · have e1 : (e != 0) = true := by simpa using he
    rw [if_pos he, if_pos he, if_pos he]
    clear he
    go_enter Try.func74, Try.ntmps74
    go_wp2
    go_ret
    exact ⟨rfl, H0⟩

set_option maxHeartbeats 1000000 in
theorem tape_number {b : Nat} {l : List UInt8} {e : Int} (most : Int) {w : World} {S : Nat → Prop} (hl : l.length ≤ 9223372036854775807) (H : Sep w [TapeAt b l e] S) :
    Calls Try.prog 31 #[.pointer (some ⟨b, 0, none⟩), .int .i64 most] w fun r w' => r = .returned (.int .i64 (rnum l e most).1) ∧ St S w w' [TapeAt b (rnum l e most).2.1 (rnum l e most).2.2] := by
  obtain ⟨res, hres⟩ : ∃ res, rnum l e most = res := ⟨_, rfl⟩
  rw [hres]
  have kw := tape_word hl H
  by_cases he : e = 0
  · subst he
    rw [if_neg (by simp), if_neg (by simp), if_neg (by simp)] at kw
    have hok := rword_ok l
    obtain ⟨wd, hwd⟩ : ∃ wd, rword l = wd := ⟨_, rfl⟩
    have hr2 : (if 9223372036854775807 < wd.1 then (0, [], 11) else if most < wd.1 ∧ wd.2.2 = 0 then (0, [], 12) else ((wd.1 : Int), wd.2.1, wd.2.2)) = res := by rw [← hres, ← hwd]; simp [rnum]
    rw [hwd] at hok kw
    have hrh := Lib.hid hr2
    clear hres hwd hr2
    obtain ⟨n, l', e'⟩ := wd
    obtain ⟨h1, h2, h3, _⟩ := hok
    simp only at kw h1 h2 h3 hrh
    go_enter Try.func31, Try.ntmps31
    go_wp2_with fail
    refine kw.mono ?_
    rintro r w1 ⟨rfl, H1⟩
    clear kw
    by_cases hb : 9223372036854775807 < n
    · have he0 : e' = 0 := by
        by_cases h : e' = 0
        · exact h
        · have := (h2 h).1; omega
      subst he0
      have z1 : decide ((9223372036854775807 : Int) < (n : Int)) = true := by simp; omega
      have hfin := Lib.hid (show res = (0, [], 11) by rw [← hrh.out, if_pos hb])
      clear hrh h2 h3
      go_wp2_with fail
      obtain ⟨S1, K1, G1⟩ := St.call (l1 := [_]) (l2 := []) H1
      refine (tape_fail (x := 11) K1).mono ?_
      rintro r w2 ⟨rfl, H2⟩
      have H3 := G1 _ _ H2
      go_wp2
      go_ret
      rw [hfin.out]
      exact ⟨rfl, H3⟩
    · have z1 : decide ((9223372036854775807 : Int) < (n : Int)) = false := by simp; omega
      have x1 : IntKind.i64.wrap (n : Int) = n := IntWalk.i64_in _ (by omega)
      have c1 := H1.cell 0 1 rfl rfl
      by_cases he0 : e' = 0
      · have z3 : (e' == 0) = true := by simpa using he0
        by_cases hm : most < (n : Int)
        · have z2 : decide (most < (n : Int)) = true := by simpa using hm
          have hfin := Lib.hid (show res = (0, [], 12) by rw [← hrh.out, if_neg hb, if_pos ⟨hm, he0⟩])
          have he0h := Lib.hid he0
          clear hrh h2 h3 he0
          go_wp2_with fail
          obtain ⟨S1, K1, G1⟩ := St.call (l1 := [_]) (l2 := []) H1
          refine (tape_fail (x := 12) K1).mono ?_
          rintro r w2 ⟨rfl, H2⟩
          have H3 := G1 _ _ H2
          rw [if_pos ⟨he0h.out, by omega⟩, if_pos ⟨he0h.out, by omega⟩] at H3
          go_wp2
          go_ret
          rw [hfin.out]
          exact ⟨rfl, H3⟩
        · have z2 : decide (most < (n : Int)) = false := by simpa using hm
          have hfin := Lib.hid (show res = ((n : Int), l', e') by rw [← hrh.out, if_neg hb, if_neg (fun h => hm h.1)])
          clear hrh h2 h3 he0
          go_wp2
          go_ret
          rw [hfin.out]
          exact ⟨rfl, H1⟩
      · have z3 : (e' == 0) = false := by simpa using he0
        have hfin := Lib.hid (show res = ((n : Int), l', e') by rw [← hrh.out, if_neg hb, if_neg (fun h => he0 h.2)])
        clear hrh h2 h3 he0
        go_wp2
        go_ret
        rw [hfin.out]
        exact ⟨rfl, H1⟩
  · rw [if_pos he, if_pos he, if_pos he] at kw
    have z3 : (e == 0) = false := by simpa using he
    have hfin := Lib.hid (show res = (0, l, e) by rw [← hres, rnum, if_pos he])
    clear hres he
    go_enter Try.func31, Try.ntmps31
    go_wp2_with fail
    refine kw.mono ?_
    rintro r w1 ⟨rfl, H1⟩
    clear kw
    have c1 := H1.cell 0 1 rfl rfl
    go_wp2
    go_ret
    rw [hfin.out]
    exact ⟨rfl, H1⟩

set_option maxHeartbeats 1000000 in
theorem tape_signed {b : Nat} {l : List UInt8} {e : Int} {w : World} {S : Nat → Prop} (hl : l.length ≤ 9223372036854775807) (H : Sep w [TapeAt b l e] S) :
    Calls Try.prog 33 #[.pointer (some ⟨b, 0, none⟩)] w fun r w' => r = .returned (.int .i64 (rsig l e).1) ∧ St S w w' [TapeAt b (rsig l e).2.1 (rsig l e).2.2] := by
  have kw := tape_word hl H
  by_cases he : e = 0
  · subst he
    rw [if_neg (by simp), if_neg (by simp), if_neg (by simp)] at kw
    rw [show rsig l 0 = (zag (rword l).1, (rword l).2.1, (rword l).2.2) from by simp [rsig]]
    have h1 := (rword_ok l).1
    obtain ⟨wd, hwd⟩ : ∃ wd, rword l = wd := ⟨_, rfl⟩
    rw [hwd] at kw h1 ⊢
    clear hwd
    obtain ⟨n, l', e'⟩ := wd
    simp only at kw h1 ⊢
    go_enter Try.func33, Try.ntmps33
    go_wp2_with fail
    refine kw.mono ?_
    rintro r w1 ⟨rfl, H1⟩
    clear kw
    have hm : (n : Int).tmod 2 = (n : Int) % 2 := Int.tmod_eq_emod_of_nonneg (by omega)
    have hd : (n : Int).tdiv 2 = (n : Int) / 2 := Int.tdiv_eq_ediv_of_nonneg (by omega)
    have x1 : IntKind.i64.wrap ((n : Int) / 2) = (n : Int) / 2 := IntWalk.i64_in _ (by omega)
    have x2 : IntKind.i64.wrap (-((n : Int) / 2)) = -((n : Int) / 2) := IntWalk.i64_in _ (by omega)
    have x3 : IntKind.i64.wrap (-((n : Int) / 2) - 1) = -((n : Int) / 2) - 1 := IntWalk.i64_in _ (by omega)
    by_cases hb : n % 2 = 1
    · have z1 : ((n : Int) % 2 == 1) = true := by simp; omega
      have hz := Lib.hid (show zag n = -((n : Int) / 2) - 1 by unfold zag; rw [if_pos hb]; omega)
      clear hb
      go_wp2
      go_ret
      exact ⟨ret_int hz.out.symm, H1⟩
    · have z1 : ((n : Int) % 2 == 1) = false := by simp; omega
      have hz := Lib.hid (show zag n = (n : Int) / 2 by unfold zag; rw [if_neg hb]; omega)
      clear hb
      go_wp2
      go_ret
      exact ⟨ret_int hz.out.symm, H1⟩
  · rw [if_pos he, if_pos he, if_pos he] at kw
    rw [show rsig l e = (0, l, e) from by rw [rsig, if_pos he]]
    clear he
    go_enter Try.func33, Try.ntmps33
    go_wp2_with fail
    refine kw.mono ?_
    rintro r w1 ⟨rfl, H1⟩
    clear kw
    go_wp2
    go_ret
    exact ⟨rfl, H1⟩

theorem tape_end {b : Nat} {l : List UInt8} {e : Int} {w : World} {S : Nat → Prop} (H : Sep w [TapeAt b l e] S) :
    Calls Try.prog 42 #[.pointer (some ⟨b, 0, none⟩)] w fun r w' => r = .returned (.int .i64 (rend l e)) ∧ w' = w := by
  have H0 : St S w w [_] := St.refl H
  have c0 := H0.cell 0 0 rfl rfl
  have c1 := H0.cell 0 1 rfl rfl
  unfold textV at c0
  by_cases he : e = 0
  · have e1 : (e == 0) = true := by simpa using he
    cases l with
    | nil =>
      rw [show rend [] e = e by unfold rend; rw [if_neg (by simp)]]
      clear he
      go_enter Try.func42, Try.ntmps42
      go_wp2
      go_ret
      exact ⟨rfl, rfl⟩
    | cons c r =>
      rw [show rend (c :: r) e = 13 by unfold rend; rw [if_pos ⟨he, by simp⟩]]
      clear he
      go_enter Try.func42, Try.ntmps42
      go_wp2
      go_ret
      exact ⟨rfl, rfl⟩
  · have e1 : (e == 0) = false := by simpa using he
    rw [show rend l e = e by unfold rend; rw [if_neg (fun h => he h.1)]]
    clear he
    go_enter Try.func42, Try.ntmps42
    go_wp2
    go_ret
    exact ⟨rfl, rfl⟩

set_option maxHeartbeats 1000000 in
theorem tape_fixed {b : Nat} {l : List UInt8} {e : Int} (n : Int) {w : World} {S : Nat → Prop} (hl : l.length ≤ 9223372036854775807) (H : Sep w [TapeAt b l e] S) :
    Calls Try.prog 37 #[.pointer (some ⟨b, 0, none⟩), .int .i64 n] w fun r w' => r = .returned (textV (rfix l e n).1) ∧ St S w w' [TapeAt b (rfix l e n).2.1 (rfix l e n).2.2] := by
  have H0 : St S w w [_] := St.refl H
  have c0 := H0.cell 0 0 rfl rfl
  have c1 := H0.cell 0 1 rfl rfl
  have f0 := H0.free 0 0 rfl
  have hb := H0.blk_lt 0 rfl
  have hps : (⟨l.toArray⟩ : ByteArray).size = l.length := by simp [ByteArray.size]
  unfold textV at c0
  by_cases he : e = 0
  · subst he
    have e1 : ((0 : Int) != 0) = false := rfl
    by_cases h1 : n < 0
    · rw [show rfix l 0 n = ([], [], 2) from by rw [rfix, if_neg (by simp), if_pos h1]]
      have z1 : decide (n < 0) = true := by simpa using h1
      clear h1 f0 hb
      go_enter Try.func37, Try.ntmps37
      go_wp2_with fail
      refine (tape_fail (x := 2) H).mono ?_
      rintro r w2 ⟨rfl, H2⟩
      go_wp2
      go_ret
      exact ⟨rfl, H2⟩
    · have z1 : decide (n < 0) = false := by simpa using h1
      by_cases h2 : (l.length : Int) < n
      · rw [show rfix l 0 n = ([], [], 10) from by rw [rfix, if_neg (by simp), if_neg h1, if_pos h2]]
        have z2 : decide ((l.length : Int) < n) = true := by simpa using h2
        clear h1 h2 f0 hb
        go_enter Try.func37, Try.ntmps37
        go_wp2_with fail
        refine (tape_fail (x := 10) H).mono ?_
        rintro r w2 ⟨rfl, H2⟩
        go_wp2
        go_ret
        exact ⟨rfl, H2⟩
      · have z2 : decide ((l.length : Int) < n) = false := by simpa using h2
        obtain ⟨k, rfl⟩ := Int.eq_ofNat_of_zero_le (show 0 ≤ n by omega)
        rw [show rfix l 0 k = (l.take k, l.drop k, 0) from by rw [rfix, if_neg (by simp), if_neg h1, if_neg h2]; simp]
        have hk : k ≤ l.length := by omega
        have t1 : (⟨l.toArray⟩ : ByteArray).extract 0 k = ⟨(l.take k).toArray⟩ := by
          apply ByteArray.ext
          rw [ByteArray.data_extract]
          simp
        have t2 : (⟨l.toArray⟩ : ByteArray).extract k l.length = ⟨(l.drop k).toArray⟩ := by
          apply ByteArray.ext
          rw [ByteArray.data_extract]
          simp [List.take_of_length_le]
        have y1 : (k : Int) ≤ (l.length : Int) := by omega
        have H1 := H0.set 0 rfl 0 (textV (l.drop k))
        unfold textV at H1
        clear h1 h2
        go_enter Try.func37, Try.ntmps37
        go_wp2
        go_ret
        exact ⟨rfl, H1⟩
  · rw [rfix_off n he]
    have e1 : (e != 0) = true := by simpa using he
    clear he
    go_enter Try.func37, Try.ntmps37
    go_wp2
    go_ret
    exact ⟨rfl, H0⟩

set_option maxHeartbeats 1000000 in
theorem tape_text {b : Nat} {l : List UInt8} {e : Int} (most : Int) {w : World} {S : Nat → Prop} (hl : l.length ≤ 9223372036854775807) (H : Sep w [TapeAt b l e] S) :
    Calls Try.prog 35 #[.pointer (some ⟨b, 0, none⟩), .int .i64 most] w fun r w' => r = .returned (textV (rtext l e most).1) ∧ St S w w' [TapeAt b (rtext l e most).2.1 (rtext l e most).2.2] := by
  obtain ⟨res, hres⟩ : ∃ res, rtext l e most = res := ⟨_, rfl⟩
  rw [hres]
  have kw := tape_number 9223372036854775807 hl H
  have hlen := rnum_len l e 9223372036854775807
  have hoff : e ≠ 0 → rnum l e 9223372036854775807 = (0, l, e) := fun h => by rw [rnum, if_pos h]
  obtain ⟨nd, hnd⟩ : ∃ nd, rnum l e 9223372036854775807 = nd := ⟨_, rfl⟩
  have hr2 : (if nd.2.2 = 0 ∧ most < nd.1 then ([], [], 12) else rfix nd.2.1 nd.2.2 nd.1) = res := by
    rw [← hres, ← hnd]
    by_cases he : e = 0
    · subst he; simp [rtext]
    · rw [hoff he, rtext, if_pos he]
      simp [he, rfix_off]
  rw [hnd] at kw hlen
  have hrh := Lib.hid hr2
  clear hres hnd hr2 hoff
  obtain ⟨n, l', e'⟩ := nd
  simp only at kw hlen hrh
  go_enter Try.func35, Try.ntmps35
  go_wp2_with fail
  refine kw.mono ?_
  rintro r w1 ⟨rfl, H1⟩
  clear kw
  have c1 := H1.cell 0 1 rfl rfl
  by_cases he2 : e' = 0
  · have z3 : (e' == 0) = true := by simpa using he2
    by_cases hm : most < n
    · have z1 : decide (most < n) = true := by simpa using hm
      have hfin := Lib.hid (show res = ([], [], 12) by rw [← hrh.out, if_pos ⟨he2, hm⟩])
      have he2h := Lib.hid he2
      clear hrh hm he2
      go_wp2_with fail
      obtain ⟨S1, K1, G1⟩ := St.call (l1 := [_]) (l2 := []) H1
      refine (tape_fail (x := 12) K1).mono ?_
      rintro r w2 ⟨rfl, H2⟩
      have H3 := G1 _ _ H2
      rw [if_pos ⟨he2h.out, by omega⟩, if_pos ⟨he2h.out, by omega⟩] at H3
      go_wp2_with fail
      obtain ⟨S2, K2, G2⟩ := St.call (l1 := [_]) (l2 := []) H3
      refine (tape_fixed n (by simp) K2).mono ?_
      rintro r w3 ⟨rfl, H4⟩
      have H5 := G2 _ _ H4
      rw [rfix_off n (by omega)] at H5 ⊢
      go_wp2
      go_ret
      rw [hfin.out]
      exact ⟨rfl, H5⟩
    · have z1 : decide (most < n) = false := by simpa using hm
      have hfin := Lib.hid (show res = rfix l' e' n by rw [← hrh.out, if_neg (fun h => hm h.2)])
      clear hrh hm he2
      go_wp2_with fail
      obtain ⟨S2, K2, G2⟩ := St.call (l1 := [_]) (l2 := []) H1
      refine (tape_fixed n (by omega) K2).mono ?_
      rintro r w3 ⟨rfl, H4⟩
      have H5 := G2 _ _ H4
      go_wp2
      go_ret
      rw [hfin.out]
      exact ⟨rfl, H5⟩
  · have z3 : (e' == 0) = false := by simpa using he2
    have hfin := Lib.hid (show res = rfix l' e' n by rw [← hrh.out, if_neg (fun h => he2 h.1)])
    clear hrh he2
    go_wp2_with fail
    obtain ⟨S2, K2, G2⟩ := St.call (l1 := [_]) (l2 := []) H1
    refine (tape_fixed n (by omega) K2).mono ?_
    rintro r w3 ⟨rfl, H4⟩
    have H5 := G2 _ _ H4
    go_wp2
    go_ret
    rw [hfin.out]
    exact ⟨rfl, H5⟩

end Go.Proofs.Ytbikjhmdpgoofab
