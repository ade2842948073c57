/- The walks of the reference's pen: Word, Number, Signed, Text. Conditions: numbers are of their kinds. -/
import Derived.Test.YtbikjhmdpgoofabPenA
namespace Go.Proofs.Ytbikjhmdpgoofab
open Go.RowKit

theorem one_text {w : World} {x : Nat} (hx : x < 256) : (convert 29 9 (.slice (some ⟨w.heap.size, 0, none⟩) 1 1)).run Try.prog (w.alloc (.cells #[.int .u8 (x : Int)] 5)) = .ok (.string ⟨#[UInt8.ofNat x]⟩) (w.alloc (.cells #[.int .u8 (x : Int)] 5)) :=
  conv_text (l := [UInt8.ofNat x]) (fun j u hj => by
    have hj0 : j = 0 := by have := (List.getElem?_eq_some_iff.1 hj).1; simpa [bvs] using this
    subst hj0
    rw [show bvs [UInt8.ofNat x] = [.int .u8 (x : Int)] from by rw [← bv_ofNat hx]; rfl] at hj
    rw [cell_blk (heap_alloc_new _ _)]
    simpa using hj) rfl
theorem text_app (a b : List UInt8) : (⟨a.toArray⟩ : ByteArray) ++ ⟨b.toArray⟩ = ⟨(a ++ b).toArray⟩ := ByteArray.mk_append_mk ..

set_option maxHeartbeats 1000000 in
set_option maxRecDepth 100000 in
theorem refpen_word (n : Nat) (hn : n < 18446744073709551616) (w : World) :
    Calls Try.prog 70 #[.int .u64 n] w fun e w' => e = .returned (textV (vint n)) ∧ Below w.heap.size w w' := by
  have H0 : St (fun _ => False) w w [] := St.nil _ w
  go_enter Try.func70, Try.ntmps70
  go_wp2
  go_loopw [0, 3] (fun x s wr => ∃ (f c : Nat) (pre : List UInt8), x = .int .u64 c ∧ s = textV pre ∧ c < 128 ^ (f + 1) ∧ c < 18446744073709551616 ∧ pre.length + f = 10 ∧ pre ++ vintF f c = vint n ∧ St (fun _ => False) w wr []) (fun x _ _ => (intOf x).toNat)
  case atStart => exact ⟨10, n, [], rfl, rfl, by omega, hn, rfl, rfl, H0⟩
  case round =>
    clear H0
    obtain ⟨f, c, pre, rfl, rfl, hc, hc2, hp, hv, HL⟩ := hrel
    have hps : (⟨pre.toArray⟩ : ByteArray).size = pre.length := by simp [ByteArray.size]
    have hpl : pre.length ≤ 10 := by omega
    by_cases hlt : 128 ≤ c
    · obtain ⟨x, hx⟩ : ∃ x, c % 128 + 128 = x := ⟨_, rfl⟩
      have hcons : vintF f c = UInt8.ofNat x :: vintF (f - 1) (c / 128) := by
        cases f with
        | zero => simp at hc; omega
        | succ f => rw [vintF, if_neg (by omega), hx]; rfl
      have hf1 : 1 ≤ f := by
        cases f with
        | zero => simp at hc; omega
        | succ f => omega
      have hot := one_text (w := wr) (x := x) (by omega)
      have hta := text_app pre [UInt8.ofNat x]
      have hs1 : (⟨#[UInt8.ofNat x]⟩ : ByteArray).size = 1 := rfl
      have hm : (128 : Int) + (c : Int) % 128 = x := by omega
      have hm2 : (c : Int).tmod 128 = (c : Int) % 128 := Int.tmod_eq_emod_of_nonneg (by omega)
      have hd2 : (c : Int).tdiv 128 = (c : Int) / 128 := Int.tdiv_eq_ediv_of_nonneg (by omega)
      have hx256 : (x : Int) % 256 = x := by omega
      rw [hcons] at hv
      have hvh := Lib.hid hv
      have hch := Lib.hid hc
      clear hcons hv hx hc
      unfold textV
      go_wp2
      go_roundw
      case rel =>
        refine ⟨f - 1, c / 128, pre ++ [UInt8.ofNat x], rfl, rfl, ?_, by omega, by simp; omega, by rw [List.append_assoc]; exact hvh.out, HL.skip _⟩
        have h := hch.out
        obtain ⟨k, rfl⟩ : ∃ k, f = k + 1 := ⟨f - 1, by omega⟩
        rw [Nat.pow_succ] at h
        show c / 128 < 128 ^ (k + 1 - 1 + 1)
        simp only [Nat.add_sub_cancel]
        omega
      case measure => simp [intOf]; omega
    · have hv2 := hv
      rw [vintF_small (by omega)] at hv2
      have hvh := Lib.hid hv2
      have hot := one_text (w := wr) (x := c) (by omega)
      have hta := text_app pre [UInt8.ofNat c]
      have hs1 : (⟨#[UInt8.ofNat c]⟩ : ByteArray).size = 1 := rfl
      have hcm : (c : Int) % 256 = c := by omega
      clear hv hv2 hc
      unfold textV
      go_wp2
      go_ret
      exact ⟨by rw [← hvh.out]; rfl, (HL.skip _).below (Nat.le_refl _) (fun _ h => h.elim)⟩

theorem refpen_number (n : Nat) (hn : n < 9223372036854775808) (w : World) :
    Calls Try.prog 22 #[.int .i64 n] w fun e w' => e = .returned (textV (vint n)) ∧ Below w.heap.size w w' := by
  have x1 : IntKind.u64.wrap (n : Int) = n := IntWalk.u64_in _ (by omega)
  go_enter Try.func22, Try.ntmps22
  go_wp2_with fail
  refine (refpen_word n (by omega) w).mono ?_
  rintro e w1 ⟨rfl, hb⟩
  go_wp2
  go_ret
  exact ⟨rfl, hb⟩
theorem refpen_signed (n : Int) (hn : -9223372036854775808 ≤ n ∧ n ≤ 9223372036854775807) (w : World) :
    Calls Try.prog 24 #[.int .i64 n] w fun e w' => e = .returned (textV (vint (zig n))) ∧ Below w.heap.size w w' := by
  by_cases h0 : 0 ≤ n
  · obtain ⟨k, rfl⟩ := Int.eq_ofNat_of_zero_le h0
    have e1 : decide (0 ≤ (k : Int)) = true := by simp
    rw [zig_pos]
    have hk : 2 * k < 18446744073709551616 := by omega
    have x1 : IntKind.u64.wrap (k : Int) = k := IntWalk.u64_in _ (by omega)
    have x2 : IntKind.u64.wrap (2 * (k : Int)) = 2 * (k : Int) := IntWalk.u64_in _ (by omega)
    clear h0
    go_enter Try.func24, Try.ntmps24
    go_wp2_with fail
    rw [show (2 * (k : Int)) = ((2 * k : Nat) : Int) by omega]
    refine (refpen_word (2 * k) hk w).mono ?_
    rintro e w1 ⟨rfl, hb⟩
    go_wp2
    go_ret
    exact ⟨rfl, hb⟩
  · have e1 : decide (0 ≤ n) = false := by simpa using h0
    have hz := zig_neg (show n < 0 by omega)
    obtain ⟨z, hzz⟩ : ∃ z, zig n = z := ⟨_, rfl⟩
    rw [hzz] at hz ⊢
    have hk : z < 18446744073709551616 := by omega
    obtain ⟨q, hq⟩ : ∃ q : Nat, -(n + 1) = (q : Int) := ⟨(-(n + 1)).toNat, by omega⟩
    have x0 : IntKind.i64.wrap (n + 1) = n + 1 := by rw [IntKind.wrap_i64]; omega
    have x1 : IntKind.i64.wrap (-(n + 1)) = (q : Int) := by rw [hq, IntKind.wrap_i64]; omega
    have x2 : IntKind.u64.wrap (q : Int) = q := IntWalk.u64_in _ (by omega)
    have x3 : IntKind.u64.wrap (2 * (q : Int)) = 2 * (q : Int) := IntWalk.u64_in _ (by omega)
    have x4 : IntKind.u64.wrap (2 * (q : Int) + 1) = 2 * (q : Int) + 1 := IntWalk.u64_in _ (by omega)
    have hzq : (2 * (q : Int) + 1) = (z : Int) := by omega
    have hzqh := Lib.hid hzq
    clear hzz h0 hz hq hzq
    go_enter Try.func24, Try.ntmps24
    go_wp2_with fail
    rw [hzqh.out]
    refine (refpen_word z hk w).mono ?_
    rintro e w1 ⟨rfl, hb⟩
    go_wp2
    go_ret
    exact ⟨rfl, hb⟩
theorem refpen_text (bs : List UInt8) (hn : bs.length ≤ 1000000) (w : World) :
    Calls Try.prog 26 #[textV bs] w fun e w' => e = .returned (textV (vint bs.length ++ bs)) ∧ Below w.heap.size w w' := by
  have hps : (⟨bs.toArray⟩ : ByteArray).size = bs.length := by simp [ByteArray.size]
  have hvl := vint_len bs.length
  have hvs : (⟨(vint bs.length).toArray⟩ : ByteArray).size = (vint bs.length).length := by simp [ByteArray.size]
  have hta := text_app (vint bs.length) bs
  unfold textV
  go_enter Try.func26, Try.ntmps26
  go_wp2_with fail
  refine (refpen_number bs.length (by omega) w).mono ?_
  rintro e w1 ⟨rfl, hb⟩
  unfold textV
  go_wp2
  go_ret
  exact ⟨rfl, hb⟩

end Go.Proofs.Ytbikjhmdpgoofab
