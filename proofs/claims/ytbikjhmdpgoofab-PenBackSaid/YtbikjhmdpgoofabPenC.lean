/- The walk of the reader's word. Conditions: the reader's blocks lie as its maker lays them. -/
import Derived.Test.YtbikjhmdpgoofabPenB
import Derived.Test.YtbikjhmdpgoofabLabels
import Derived.Laws.BitsLemmas
namespace Go.Proofs.Ytbikjhmdpgoofab
open Go.RowKit

def wordF : Nat → Nat → Nat → List UInt8 → Nat × List UInt8 × Int
  | 0, _, _, _ => (0, [], 11)
  | _ + 1, _, _, [] => (0, [], 10)
  | f + 1, i, acc, c :: r => if (c.toNat = 0 ∧ 0 < i) ∨ (i = 9 ∧ 1 < c.toNat) then (0, [], 11) else if c.toNat < 128 then (acc + c.toNat % 128 * 128 ^ i, r, 0) else wordF f (i + 1) (acc + c.toNat % 128 * 128 ^ i) r
def rword (l : List UInt8) : Nat × List UInt8 × Int := wordF 10 0 0 l
theorem and_seven (c : UInt8) : bits BinOp.and IntKind.u8 (c.toNat : Int) 127 = ((c.toNat % 128 : Nat) : Int) := by
  have key : ∀ r : Fin 256, bits BinOp.and IntKind.u8 ((r.val : Nat) : Int) 127 = ((r.val % 128 : Nat) : Int) := by decide +kernel
  exact key ⟨c.toNat, UInt8.toNat_lt c⟩

theorem join_word {acc x i : Nat} (ha : acc < 128 ^ i) (hx : i ≤ 8 ∨ (i = 9 ∧ x ≤ 1)) :
    bits BinOp.or IntKind.u64 (acc : Int) (IntKind.u64.wrap ((x : Int) % 128 * 2 ^ (7 * i))) = ((acc + x % 128 * 128 ^ i : Nat) : Int) := by
  have e : (128 : Nat) ^ i = 2 ^ (7 * i) := by rw [Nat.pow_mul]
  rw [e] at ha ⊢
  have hb : x % 128 * 2 ^ (7 * i) < 2 ^ 64 := by
    rcases hx with h | ⟨h, h2⟩
    · have : 2 ^ (7 * i) ≤ 2 ^ 56 := Nat.pow_le_pow_right (by omega) (by omega)
      calc x % 128 * 2 ^ (7 * i) ≤ 127 * 2 ^ 56 := Nat.mul_le_mul (by omega) this
        _ < 2 ^ 64 := by decide
    · subst h
      calc x % 128 * 2 ^ (7 * 9) ≤ 1 * 2 ^ 63 := Nat.mul_le_mul (by omega) (by decide)
        _ < 2 ^ 64 := by decide
  have hc : ((x : Int) % 128 * 2 ^ (7 * i)) = ((x % 128 * 2 ^ (7 * i) : Nat) : Int) := by
    rw [Int.natCast_mul, Int.natCast_pow]
    rfl
  have hk : ∀ n : Int, 0 ≤ n → n < 2 ^ 64 → IntKind.u64.wrap n = n := fun n h1 h2 => IntWalk.u64_in _ ⟨h1, by omega⟩
  have ha64 : acc < 2 ^ 64 := Nat.lt_of_lt_of_le ha (Nat.pow_le_pow_right (by omega) (by omega))
  rw [hc, hk _ (by omega) (by exact_mod_cast hb), (bits_nat .u64 64 (by decide) hk acc _ ha64 hb).2, Nat.mul_comm (x % 128), Nat.or_comm, ← Nat.two_pow_add_eq_or_of_lt ha, Nat.add_comm]

def WordAt (b : Nat) (S : Nat → Prop) (w0 : World) (l : List UInt8) (a : Act) (w : World) : Prop :=
  ∃ (i acc : Nat) (l' : List UInt8) (u1 u5 u6 u7 u8 u9 u10 u11 u12 u13 u14 u15 u16 u17 u18 u19 u20 u21 u22 u23 u24 u25 u26 u27 u28 u29 u30 u31 u32 u33 u34 u35 u36 u37 u38 u39 u40 u41 u42 u43 u44 u45 u46 u47 u48 u49 u50 u51 u52 u53 u54 u55 u56 u57 u58 : Value), a = { tmps := #[.pointer (some ⟨b, 0, none⟩), u1, .int .u64 0, .int .u64 (acc : Nat), .int .i64 (i : Nat), u5, u6, u7, u8, u9, u10, u11, u12, u13, u14, u15, u16, u17, u18, u19, u20, u21, u22, u23, u24, u25, u26, u27, u28, u29, u30, u31, u32, u33, u34, u35, u36, u37, u38, u39, u40, u41, u42, u43, u44, u45, u46, u47, u48, u49, u50, u51, u52, u53, u54, u55, u56, u57, u58], defers := [] } ∧ i ≤ 10 ∧ acc < 128 ^ i ∧ wordF (10 - i) i acc l' = rword l ∧ St S w0 w [ReaderAt b l' 0]
def WordBad (b : Nat) (S : Nat → Prop) (w0 : World) (l : List UInt8) (a : Act) (w : World) : Prop :=
  ∃ (l' : List UInt8) (u1 u2 u3 u4 u5 u6 u7 u8 u9 u10 u11 u12 u13 u14 u15 u16 u17 u18 u19 u20 u21 u22 u23 u24 u25 u26 u27 u28 u29 u30 u31 u32 u33 u34 u35 u36 u37 u38 u39 u40 u41 u42 u43 u44 u45 u46 u47 u48 u49 u50 u51 u52 u53 u54 u55 u56 u57 u58 : Value), a = { tmps := #[.pointer (some ⟨b, 0, none⟩), u1, u2, u3, u4, u5, u6, u7, u8, u9, u10, u11, u12, u13, u14, u15, u16, u17, u18, u19, u20, u21, u22, u23, u24, u25, u26, u27, u28, u29, u30, u31, u32, u33, u34, u35, u36, u37, u38, u39, u40, u41, u42, u43, u44, u45, u46, u47, u48, u49, u50, u51, u52, u53, u54, u55, u56, u57, u58], defers := [] } ∧ rword l = (0, [], 11) ∧ St S w0 w [ReaderAt b l' 0]

set_option maxHeartbeats 2000000 in
set_option maxRecDepth 100000 in
theorem read_word {b : Nat} {l : List UInt8} {w : World} {S : Nat → Prop} (H : Sep w [ReaderAt b l 0] S) :
    Calls Try.prog 73 #[.pointer (some ⟨b, 0, none⟩)] w fun r w' => r = .returned (.int .u64 (rword l).1) ∧ St S w w' [ReaderAt b (rword l).2.1 (rword l).2.2] := by
  have H00 := St.refl H
  go_enter Try.func73, Try.ntmps73
  go_wp2
  refine wp_scope_two 1 0 (WordAt b S w l) (WordBad b S w l) (fun a _ => 10 - (intOf (a.tmps.getD 4 undef)).toNat) rfl rfl ?_ ?_ ?_
  · rintro a' w' ⟨i, acc, l', u1, u5, u6, u7, u8, u9, u10, u11, u12, u13, u14, u15, u16, u17, u18, u19, u20, u21, u22, u23, u24, u25, u26, u27, u28, u29, u30, u31, u32, u33, u34, u35, u36, u37, u38, u39, u40, u41, u42, u43, u44, u45, u46, u47, u48, u49, u50, u51, u52, u53, u54, u55, u56, u57, u58, rfl, hi, hacc, hw, HL⟩
    by_cases h10 : i = 10
    · subst h10
      have hwh := Lib.hid (show rword l = (0, [], 11) from hw.symm)
      clear hw hacc hi
      go_wp2
      go_step3
      exact .inr ⟨rfl, l', _, _, _, _, _, _, _, _, _, _, _, _, _, _, _, _, _, _, _, _, _, _, _, _, _, _, _, _, _, _, _, _, _, _, _, _, _, _, _, _, _, _, _, _, _, _, _, _, _, _, _, _, _, _, _, _, _, _, rfl, hwh.out, HL⟩
    · have e1 : ((i : Int) == 10) = false := by simp; omega
      obtain ⟨f, hf⟩ : ∃ f, 10 - i = f + 1 := ⟨9 - i, by omega⟩
      rw [hf] at hw
      cases l' with
      | nil =>
        have hwh := Lib.hid (show rword l = (0, [], 10) from hw.symm)
        clear hw hacc hf h10
        obtain ⟨ao, cap, hc, H1⟩ := ReaderAt.open HL
        have c0 := H1.cell 0 0 rfl rfl
        go_wp2_with fail
        obtain ⟨S1, K1, G1⟩ := St.call (l1 := [_]) (l2 := []) HL
        refine (read_fail (x := 10) K1).mono ?_
        rintro r w2 ⟨rfl, H2⟩
        have H3 := G1 _ _ H2
        go_wp2
        simp only [exitTwo]
        go_ret
        rw [hwh.out]
        exact ⟨rfl, H3⟩
      | cons c r =>
        obtain ⟨ao, cap, hc, H1⟩ := ReaderAt.open HL
        have H1 : St S w w' [_, _] := H1
        obtain ⟨ao2, cap2, e2, _, hform⟩ := H1.viewForm 1 rfl
        simp only [Value.slice.injEq, true_and] at e2
        obtain ⟨rfl, rfl⟩ := e2
        obtain ⟨g, o, rfl, hg, hcell⟩ := hform (by simp)
        have q0 := hcell 0 (by simp)
        simp only [List.getElem_cons_zero, bv, Nat.add_zero] at q0
        have c0 := H1.cell 0 0 rfl rfl
        have f0 := H1.free 0 0 rfl
        have hb := H1.blk_lt 0 rfl
        simp only [List.length_cons] at hc c0
        have hx256 := UInt8.toNat_lt c
        have h7 := and_seven c
        rw [wordF] at hw
        obtain ⟨x, hx⟩ : ∃ x, c.toNat = x := ⟨_, rfl⟩
        rw [hx] at q0 hw hx256 h7
        have hwh := Lib.hid hw
        clear hw hx hform hcell
        have hlen0 : ((r.length + 1 : Nat) : Int) ≠ 0 := by omega
        by_cases hcap : cap = 1
        · subst hcap
          obtain rfl : r = [] := List.eq_nil_of_length_eq_zero (by omega)
          have H2 : St S w (w'.setCell ⟨b, 0, none⟩ (.slice (some ⟨g, o, none⟩) 0 0)) [ReaderAt b [] 0] :=
            ReaderAt.mk (L := []) ((H1.set 0 rfl 0 (.slice (some ⟨g, o, none⟩) 0 0)).viewCut 1 (k := 1) (ao' := some ⟨g, o, none⟩) (cap' := 0) rfl (by simp) (by simp) (.inr ⟨g, o, o, rfl, rfl, fun h => by simp at h⟩))
          simp only [List.length_nil, Nat.zero_add] at c0 hlen0
          clear H1 HL
          rcases (show (x = 0 ∧ 0 < i) ∨ (x = 0 ∧ i = 0) ∨ (x ≠ 0 ∧ i = 9 ∧ 1 < x) ∨ (x ≠ 0 ∧ i = 9 ∧ x ≤ 1) ∨ (x ≠ 0 ∧ i ≠ 9) by omega) with h1 | h1 | h1 | h1 | h1
          · have fz0 : ((x : Int) == 0) = true := by simp; omega
            have fp0 : decide ((0 : Int) < (i : Int)) = true := by simp; omega
            have fp1 : decide (0 < i) = true := by simp; omega
            have hwq := Lib.hid (show rword l = (0, [], 11) by rw [← hwh.out, if_pos (by omega)])
            clear hwh h1
            go_upto_region 9 with (fail)
            go_wp2
            go_step3
            exact .inr ⟨rfl, [], _, _, _, _, _, _, _, _, _, _, _, _, _, _, _, _, _, _, _, _, _, _, _, _, _, _, _, _, _, _, _, _, _, _, _, _, _, _, _, _, _, _, _, _, _, _, _, _, _, _, _, _, _, _, _, _, _, _, rfl, hwq.out, H2⟩
          · have fz0 : ((x : Int) == 0) = true := by simp; omega
            have fp0 : decide ((0 : Int) < (i : Int)) = false := by simp; omega
            have fp1 : decide (0 < i) = false := by simp; omega
            have fn0 : ((i : Int) == 9) = false := by simp; omega
            have hwq := Lib.hid (show rword l = if x < 128 then (acc + x % 128 * 128 ^ i, [], 0) else wordF f (i + 1) (acc + x % 128 * 128 ^ i) [] by rw [← hwh.out, if_neg (by omega)])
            have h1h := Lib.hid h1
            clear hwh h1
            have hpow : 128 ^ (i + 1) = 128 ^ i * 128 := Nat.pow_succ ..
            obtain ⟨A, hA⟩ : ∃ A, acc + x % 128 * 128 ^ i = A := ⟨_, rfl⟩
            have hAl : A < 128 ^ (i + 1) := by rw [← hA, hpow]; have : x % 128 * 128 ^ i ≤ 127 * 128 ^ i := Nat.mul_le_mul_right _ (by omega); omega
            have hor : bits BinOp.or IntKind.u64 (acc : Int) (IntKind.u64.wrap ((x : Int) % 128 * 2 ^ (7 * i))) = (A : Int) := by
              rw [← hA]
              exact join_word hacc (by have := h1h.out; omega)
            have hAh := Lib.hid hA
            have hAlh := Lib.hid hAl
            clear hA hAl hpow hacc
            by_cases hm : 128 ≤ x
            · have m0 : decide ((128 : Int) ≤ (x : Int)) = true := by simp; omega
              have hwr := Lib.hid (show wordF (10 - (i + 1)) (i + 1) A [] = rword l by rw [hwq.out, if_neg (by omega), hAh.out]; congr 1; omega)
              clear hwq hm
              go_wp2
              go_step3
              refine .inl ⟨rfl, ⟨i + 1, A, [], _, _, _, _, _, _, _, _, _, _, _, _, _, _, _, _, _, _, _, _, _, _, _, _, _, _, _, _, _, _, _, _, _, _, _, _, _, _, _, _, _, _, _, _, _, _, _, _, _, _, _, _, _, _, _, rfl, by omega, hAlh.out, hwr.out, H2⟩, ?_⟩
              simp [intOf]
              omega
            · have m0 : decide ((128 : Int) ≤ (x : Int)) = false := by simp; omega
              have hwr := Lib.hid (show rword l = (A, [], 0) by rw [hwq.out, if_pos (by omega), hAh.out])
              clear hwq hm
              go_wp2
              simp only [exitTwo]
              go_ret
              rw [hwr.out]
              exact ⟨rfl, H2⟩
          · have fz0 : ((x : Int) == 0) = false := by simp; omega
            have fn0 : ((i : Int) == 9) = true := by simp; omega
            have fg0 : decide ((1 : Int) < (x : Int)) = true := by simp; omega
            have fg1 : decide (1 < x) = true := by simp; omega
            have hwq := Lib.hid (show rword l = (0, [], 11) by rw [← hwh.out, if_pos (by omega)])
            clear hwh h1
            go_upto_region 9 with (fail)
            go_wp2
            go_step3
            exact .inr ⟨rfl, [], _, _, _, _, _, _, _, _, _, _, _, _, _, _, _, _, _, _, _, _, _, _, _, _, _, _, _, _, _, _, _, _, _, _, _, _, _, _, _, _, _, _, _, _, _, _, _, _, _, _, _, _, _, _, _, _, _, _, rfl, hwq.out, H2⟩
          · have fz0 : ((x : Int) == 0) = false := by simp; omega
            have fn0 : ((i : Int) == 9) = true := by simp; omega
            have fg0 : decide ((1 : Int) < (x : Int)) = false := by simp; omega
            have fg1 : decide (1 < x) = false := by simp; omega
            have hwq := Lib.hid (show rword l = if x < 128 then (acc + x % 128 * 128 ^ i, [], 0) else wordF f (i + 1) (acc + x % 128 * 128 ^ i) [] by rw [← hwh.out, if_neg (by omega)])
            have h1h := Lib.hid h1
            clear hwh h1
            have hpow : 128 ^ (i + 1) = 128 ^ i * 128 := Nat.pow_succ ..
            obtain ⟨A, hA⟩ : ∃ A, acc + x % 128 * 128 ^ i = A := ⟨_, rfl⟩
            have hAl : A < 128 ^ (i + 1) := by rw [← hA, hpow]; have : x % 128 * 128 ^ i ≤ 127 * 128 ^ i := Nat.mul_le_mul_right _ (by omega); omega
            have hor : bits BinOp.or IntKind.u64 (acc : Int) (IntKind.u64.wrap ((x : Int) % 128 * 2 ^ (7 * i))) = (A : Int) := by
              rw [← hA]
              exact join_word hacc (by have := h1h.out; omega)
            have hAh := Lib.hid hA
            have hAlh := Lib.hid hAl
            clear hA hAl hpow hacc
            by_cases hm : 128 ≤ x
            · have m0 : decide ((128 : Int) ≤ (x : Int)) = true := by simp; omega
              have hwr := Lib.hid (show wordF (10 - (i + 1)) (i + 1) A [] = rword l by rw [hwq.out, if_neg (by omega), hAh.out]; congr 1; omega)
              clear hwq hm
              go_wp2
              go_step3
              refine .inl ⟨rfl, ⟨i + 1, A, [], _, _, _, _, _, _, _, _, _, _, _, _, _, _, _, _, _, _, _, _, _, _, _, _, _, _, _, _, _, _, _, _, _, _, _, _, _, _, _, _, _, _, _, _, _, _, _, _, _, _, _, _, _, _, _, rfl, by omega, hAlh.out, hwr.out, H2⟩, ?_⟩
              simp [intOf]
              omega
            · have m0 : decide ((128 : Int) ≤ (x : Int)) = false := by simp; omega
              have hwr := Lib.hid (show rword l = (A, [], 0) by rw [hwq.out, if_pos (by omega), hAh.out])
              clear hwq hm
              go_wp2
              simp only [exitTwo]
              go_ret
              rw [hwr.out]
              exact ⟨rfl, H2⟩
          · have fz0 : ((x : Int) == 0) = false := by simp; omega
            have fn0 : ((i : Int) == 9) = false := by simp; omega
            have hwq := Lib.hid (show rword l = if x < 128 then (acc + x % 128 * 128 ^ i, [], 0) else wordF f (i + 1) (acc + x % 128 * 128 ^ i) [] by rw [← hwh.out, if_neg (by omega)])
            have h1h := Lib.hid h1
            clear hwh h1
            have hpow : 128 ^ (i + 1) = 128 ^ i * 128 := Nat.pow_succ ..
            obtain ⟨A, hA⟩ : ∃ A, acc + x % 128 * 128 ^ i = A := ⟨_, rfl⟩
            have hAl : A < 128 ^ (i + 1) := by rw [← hA, hpow]; have : x % 128 * 128 ^ i ≤ 127 * 128 ^ i := Nat.mul_le_mul_right _ (by omega); omega
            have hor : bits BinOp.or IntKind.u64 (acc : Int) (IntKind.u64.wrap ((x : Int) % 128 * 2 ^ (7 * i))) = (A : Int) := by
              rw [← hA]
              exact join_word hacc (by have := h1h.out; omega)
            have hAh := Lib.hid hA
            have hAlh := Lib.hid hAl
            clear hA hAl hpow hacc
            by_cases hm : 128 ≤ x
            · have m0 : decide ((128 : Int) ≤ (x : Int)) = true := by simp; omega
              have hwr := Lib.hid (show wordF (10 - (i + 1)) (i + 1) A [] = rword l by rw [hwq.out, if_neg (by omega), hAh.out]; congr 1; omega)
              clear hwq hm
              go_wp2
              go_step3
              refine .inl ⟨rfl, ⟨i + 1, A, [], _, _, _, _, _, _, _, _, _, _, _, _, _, _, _, _, _, _, _, _, _, _, _, _, _, _, _, _, _, _, _, _, _, _, _, _, _, _, _, _, _, _, _, _, _, _, _, _, _, _, _, _, _, _, _, rfl, by omega, hAlh.out, hwr.out, H2⟩, ?_⟩
              simp [intOf]
              omega
            · have m0 : decide ((128 : Int) ≤ (x : Int)) = false := by simp; omega
              have hwr := Lib.hid (show rword l = (A, [], 0) by rw [hwq.out, if_pos (by omega), hAh.out])
              clear hwq hm
              go_wp2
              simp only [exitTwo]
              go_ret
              rw [hwr.out]
              exact ⟨rfl, H2⟩
        · have H2 : St S w (w'.setCell ⟨b, 0, none⟩ (.slice (some ⟨g, o + 1, none⟩) r.length (cap - 1))) [ReaderAt b r 0] :=
            ReaderAt.mk (L := []) ((H1.set 0 rfl 0 (.slice (some ⟨g, o + 1, none⟩) r.length (cap - 1))).viewCut 1 (k := 1) (ao' := some ⟨g, o + 1, none⟩) (cap' := cap - 1) rfl (by simp) (by simp; omega) (.inr ⟨g, o, o + 1, rfl, rfl, fun _ => rfl⟩))
          clear H1 HL
          rcases (show (x = 0 ∧ 0 < i) ∨ (x = 0 ∧ i = 0) ∨ (x ≠ 0 ∧ i = 9 ∧ 1 < x) ∨ (x ≠ 0 ∧ i = 9 ∧ x ≤ 1) ∨ (x ≠ 0 ∧ i ≠ 9) by omega) with h1 | h1 | h1 | h1 | h1
          · have fz0 : ((x : Int) == 0) = true := by simp; omega
            have fp0 : decide ((0 : Int) < (i : Int)) = true := by simp; omega
            have fp1 : decide (0 < i) = true := by simp; omega
            have hwq := Lib.hid (show rword l = (0, [], 11) by rw [← hwh.out, if_pos (by omega)])
            clear hwh h1
            go_upto_region 9 with (fail)
            go_wp2
            go_step3
            exact .inr ⟨rfl, r, _, _, _, _, _, _, _, _, _, _, _, _, _, _, _, _, _, _, _, _, _, _, _, _, _, _, _, _, _, _, _, _, _, _, _, _, _, _, _, _, _, _, _, _, _, _, _, _, _, _, _, _, _, _, _, _, _, _, rfl, hwq.out, H2⟩
          · have fz0 : ((x : Int) == 0) = true := by simp; omega
            have fp0 : decide ((0 : Int) < (i : Int)) = false := by simp; omega
            have fp1 : decide (0 < i) = false := by simp; omega
            have fn0 : ((i : Int) == 9) = false := by simp; omega
            have hwq := Lib.hid (show rword l = if x < 128 then (acc + x % 128 * 128 ^ i, r, 0) else wordF f (i + 1) (acc + x % 128 * 128 ^ i) r by rw [← hwh.out, if_neg (by omega)])
            have h1h := Lib.hid h1
            clear hwh h1
            have hpow : 128 ^ (i + 1) = 128 ^ i * 128 := Nat.pow_succ ..
            obtain ⟨A, hA⟩ : ∃ A, acc + x % 128 * 128 ^ i = A := ⟨_, rfl⟩
            have hAl : A < 128 ^ (i + 1) := by rw [← hA, hpow]; have : x % 128 * 128 ^ i ≤ 127 * 128 ^ i := Nat.mul_le_mul_right _ (by omega); omega
            have hor : bits BinOp.or IntKind.u64 (acc : Int) (IntKind.u64.wrap ((x : Int) % 128 * 2 ^ (7 * i))) = (A : Int) := by
              rw [← hA]
              exact join_word hacc (by have := h1h.out; omega)
            have hAh := Lib.hid hA
            have hAlh := Lib.hid hAl
            clear hA hAl hpow hacc
            by_cases hm : 128 ≤ x
            · have m0 : decide ((128 : Int) ≤ (x : Int)) = true := by simp; omega
              have hwr := Lib.hid (show wordF (10 - (i + 1)) (i + 1) A r = rword l by rw [hwq.out, if_neg (by omega), hAh.out]; congr 1; omega)
              clear hwq hm
              go_wp2
              go_step3
              refine .inl ⟨rfl, ⟨i + 1, A, r, _, _, _, _, _, _, _, _, _, _, _, _, _, _, _, _, _, _, _, _, _, _, _, _, _, _, _, _, _, _, _, _, _, _, _, _, _, _, _, _, _, _, _, _, _, _, _, _, _, _, _, _, _, _, _, rfl, by omega, hAlh.out, hwr.out, H2⟩, ?_⟩
              simp [intOf]
              omega
            · have m0 : decide ((128 : Int) ≤ (x : Int)) = false := by simp; omega
              have hwr := Lib.hid (show rword l = (A, r, 0) by rw [hwq.out, if_pos (by omega), hAh.out])
              clear hwq hm
              go_wp2
              simp only [exitTwo]
              go_ret
              rw [hwr.out]
              exact ⟨rfl, H2⟩
          · have fz0 : ((x : Int) == 0) = false := by simp; omega
            have fn0 : ((i : Int) == 9) = true := by simp; omega
            have fg0 : decide ((1 : Int) < (x : Int)) = true := by simp; omega
            have fg1 : decide (1 < x) = true := by simp; omega
            have hwq := Lib.hid (show rword l = (0, [], 11) by rw [← hwh.out, if_pos (by omega)])
            clear hwh h1
            go_upto_region 9 with (fail)
            go_wp2
            go_step3
            exact .inr ⟨rfl, r, _, _, _, _, _, _, _, _, _, _, _, _, _, _, _, _, _, _, _, _, _, _, _, _, _, _, _, _, _, _, _, _, _, _, _, _, _, _, _, _, _, _, _, _, _, _, _, _, _, _, _, _, _, _, _, _, _, _, rfl, hwq.out, H2⟩
          · have fz0 : ((x : Int) == 0) = false := by simp; omega
            have fn0 : ((i : Int) == 9) = true := by simp; omega
            have fg0 : decide ((1 : Int) < (x : Int)) = false := by simp; omega
            have fg1 : decide (1 < x) = false := by simp; omega
            have hwq := Lib.hid (show rword l = if x < 128 then (acc + x % 128 * 128 ^ i, r, 0) else wordF f (i + 1) (acc + x % 128 * 128 ^ i) r by rw [← hwh.out, if_neg (by omega)])
            have h1h := Lib.hid h1
            clear hwh h1
            have hpow : 128 ^ (i + 1) = 128 ^ i * 128 := Nat.pow_succ ..
            obtain ⟨A, hA⟩ : ∃ A, acc + x % 128 * 128 ^ i = A := ⟨_, rfl⟩
            have hAl : A < 128 ^ (i + 1) := by rw [← hA, hpow]; have : x % 128 * 128 ^ i ≤ 127 * 128 ^ i := Nat.mul_le_mul_right _ (by omega); omega
            have hor : bits BinOp.or IntKind.u64 (acc : Int) (IntKind.u64.wrap ((x : Int) % 128 * 2 ^ (7 * i))) = (A : Int) := by
              rw [← hA]
              exact join_word hacc (by have := h1h.out; omega)
            have hAh := Lib.hid hA
            have hAlh := Lib.hid hAl
            clear hA hAl hpow hacc
            by_cases hm : 128 ≤ x
            · have m0 : decide ((128 : Int) ≤ (x : Int)) = true := by simp; omega
              have hwr := Lib.hid (show wordF (10 - (i + 1)) (i + 1) A r = rword l by rw [hwq.out, if_neg (by omega), hAh.out]; congr 1; omega)
              clear hwq hm
              go_wp2
              go_step3
              refine .inl ⟨rfl, ⟨i + 1, A, r, _, _, _, _, _, _, _, _, _, _, _, _, _, _, _, _, _, _, _, _, _, _, _, _, _, _, _, _, _, _, _, _, _, _, _, _, _, _, _, _, _, _, _, _, _, _, _, _, _, _, _, _, _, _, _, rfl, by omega, hAlh.out, hwr.out, H2⟩, ?_⟩
              simp [intOf]
              omega
            · have m0 : decide ((128 : Int) ≤ (x : Int)) = false := by simp; omega
              have hwr := Lib.hid (show rword l = (A, r, 0) by rw [hwq.out, if_pos (by omega), hAh.out])
              clear hwq hm
              go_wp2
              simp only [exitTwo]
              go_ret
              rw [hwr.out]
              exact ⟨rfl, H2⟩
          · have fz0 : ((x : Int) == 0) = false := by simp; omega
            have fn0 : ((i : Int) == 9) = false := by simp; omega
            have hwq := Lib.hid (show rword l = if x < 128 then (acc + x % 128 * 128 ^ i, r, 0) else wordF f (i + 1) (acc + x % 128 * 128 ^ i) r by rw [← hwh.out, if_neg (by omega)])
            have h1h := Lib.hid h1
            clear hwh h1
            have hpow : 128 ^ (i + 1) = 128 ^ i * 128 := Nat.pow_succ ..
            obtain ⟨A, hA⟩ : ∃ A, acc + x % 128 * 128 ^ i = A := ⟨_, rfl⟩
            have hAl : A < 128 ^ (i + 1) := by rw [← hA, hpow]; have : x % 128 * 128 ^ i ≤ 127 * 128 ^ i := Nat.mul_le_mul_right _ (by omega); omega
            have hor : bits BinOp.or IntKind.u64 (acc : Int) (IntKind.u64.wrap ((x : Int) % 128 * 2 ^ (7 * i))) = (A : Int) := by
              rw [← hA]
              exact join_word hacc (by have := h1h.out; omega)
            have hAh := Lib.hid hA
            have hAlh := Lib.hid hAl
            clear hA hAl hpow hacc
            by_cases hm : 128 ≤ x
            · have m0 : decide ((128 : Int) ≤ (x : Int)) = true := by simp; omega
              have hwr := Lib.hid (show wordF (10 - (i + 1)) (i + 1) A r = rword l by rw [hwq.out, if_neg (by omega), hAh.out]; congr 1; omega)
              clear hwq hm
              go_wp2
              go_step3
              refine .inl ⟨rfl, ⟨i + 1, A, r, _, _, _, _, _, _, _, _, _, _, _, _, _, _, _, _, _, _, _, _, _, _, _, _, _, _, _, _, _, _, _, _, _, _, _, _, _, _, _, _, _, _, _, _, _, _, _, _, _, _, _, _, _, _, _, rfl, by omega, hAlh.out, hwr.out, H2⟩, ?_⟩
              simp [intOf]
              omega
            · have m0 : decide ((128 : Int) ≤ (x : Int)) = false := by simp; omega
              have hwr := Lib.hid (show rword l = (A, r, 0) by rw [hwq.out, if_pos (by omega), hAh.out])
              clear hwq hm
              go_wp2
              simp only [exitTwo]
              go_ret
              rw [hwr.out]
              exact ⟨rfl, H2⟩
  · rintro a' w' ⟨l', u1, u2, u3, u4, u5, u6, u7, u8, u9, u10, u11, u12, u13, u14, u15, u16, u17, u18, u19, u20, u21, u22, u23, u24, u25, u26, u27, u28, u29, u30, u31, u32, u33, u34, u35, u36, u37, u38, u39, u40, u41, u42, u43, u44, u45, u46, u47, u48, u49, u50, u51, u52, u53, u54, u55, u56, u57, u58, rfl, hw, HL⟩
    have hwh := Lib.hid hw
    clear hw
    go_wp2_with fail
    obtain ⟨S1, K1, G1⟩ := St.call (l1 := [_]) (l2 := []) HL
    refine (read_fail (x := 11) K1).mono ?_
    rintro r w2 ⟨rfl, H2⟩
    have H3 := G1 _ _ H2
    go_wp2
    simp only [exitTwo]
    go_ret
    rw [hwh.out]
    exact ⟨rfl, H3⟩
  · intro hpass
    go_wp2
    go_step3
    refine ‹∀ (a : Act) (w : World), Code.wp _ _ _ a w → _› _ _ ?_
    exact hpass _ _ ⟨0, 0, l, _, _, _, _, _, _, _, _, _, _, _, _, _, _, _, _, _, _, _, _, _, _, _, _, _, _, _, _, _, _, _, _, _, _, _, _, _, _, _, _, _, _, _, _, _, _, _, _, _, _, _, _, _, _, _, rfl, by omega, by omega, rfl, H00⟩

end Go.Proofs.Ytbikjhmdpgoofab
