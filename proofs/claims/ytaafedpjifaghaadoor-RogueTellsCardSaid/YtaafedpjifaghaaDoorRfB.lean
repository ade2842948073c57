/- The walk of the document's Number (layer 5). Condition: lengths. -/
import Derived.Test.YtaafedpjifaghaaDoorRtD
set_option linter.unusedVariables false
set_option linter.unusedSimpArgs false
namespace Go.Proofs.YtaafedpjifaghaaDoor
open Go.RowKit

def digS : List UInt8 → Int → Option Int
  | [], n => some n
  | c :: r, n => if c.toNat < 48 ∨ 57 < c.toNat then none else digS r (10 * n + (c.toNat : Int) - 48)
def num05U (sg : Int) (t : List UInt8) : Int × Bool := if t = [] ∨ 18 < t.length ∨ (t[0]? = some 48 ∧ t ≠ [48]) then (0, false) else match digS t 0 with
  | none => (0, false)
  | some n => (sg * n, true)
def num05 (s : List UInt8) : Int × Bool := if 1 < s.length ∧ s[0]? = some 45 then (if s.drop 1 = [48] then (0, false) else num05U (-1) (s.drop 1)) else num05U 1 s
theorem digS_take {s : List UInt8} {i : Nat} (hi : i < s.length) {n : Int} : digS (s.drop i) n = (if (s[i]).toNat < 48 ∨ 57 < (s[i]).toNat then none else digS (s.drop (i + 1)) (10 * n + ((s[i]).toNat : Int) - 48)) := by
  rw [List.drop_eq_getElem_cons hi, digS]
theorem pow18 {i : Nat} (h : i ≤ 18) : (10 : Int) ^ i ≤ 1000000000000000000 := by
  have h1 : (10 : Nat) ^ i ≤ 10 ^ 18 := Nat.pow_le_pow_right (by omega) h
  have e : (10 : Nat) ^ 18 = 1000000000000000000 := by decide +kernel
  rw [e] at h1
  have h2 : ((10 ^ i : Nat) : Int) ≤ 1000000000000000000 := by omega
  rw [Int.natCast_pow] at h2
  exact h2
theorem num05U_none {sg : Int} {t : List UInt8} (h0 : ¬ (t = [] ∨ 18 < t.length ∨ (t[0]? = some 48 ∧ t ≠ [48]))) (h : digS t 0 = none) : num05U sg t = (0, false) := by unfold num05U; rw [if_neg h0, h]
theorem num05U_some {sg n : Int} {t : List UInt8} (h0 : ¬ (t = [] ∨ 18 < t.length ∨ (t[0]? = some 48 ∧ t ≠ [48]))) (h : digS t 0 = some n) : num05U sg t = (sg * n, true) := by unfold num05U; rw [if_neg h0, h]
set_option maxHeartbeats 4000000 in
set_option maxRecDepth 100000 in
theorem doc_num {s : List UInt8} (hl : s.length ≤ 1000000000) (w : World) :
    Calls Tryd.prog 86 #[.string ⟨s.toArray⟩] w fun e w' => e = .returned (.tuple #[.int .i64 (num05 s).1, .bool (num05 s).2]) ∧ w' = w := by
  have hsz := txs_size s
  go_enter Tryd.func86, Tryd.ntmps86
  go_upto_region 2 with (fail)
  go_cut [14] from 7 to 14 (fun b wx => b = .bool (decide (1 < s.length ∧ s[0]? = some 45)) ∧ wx = w)
  case first =>
    by_cases h1 : 1 < s.length
    · have z1 : decide ((1 : Int) < (s.length : Int)) = true := by simp; omega
      obtain ⟨c, hs⟩ : ∃ c, s[0]? = some c := ⟨_, List.getElem?_eq_getElem (by omega)⟩
      have hc := txs_at s 0 (by rw [hsz]; omega) hs
      have h0 : 0 < s.length := by omega
      obtain ⟨B, hB⟩ : ∃ B, ((c.toNat : Int) == 45) = B := ⟨_, rfl⟩
      have hfin := Lib.hid (show decide (1 < s.length ∧ s[0]? = some 45) = B by
        rw [← hB, hs, Bool.eq_iff_iff, decide_eq_true_eq, beq_iff_eq]
        constructor
        · rintro ⟨_, h⟩
          obtain rfl := Option.some.inj h
          rfl
        · intro h
          exact ⟨h1, by rw [show c = 45 from UInt8.toNat_inj.1 (by have e : (45 : UInt8).toNat = 45 := rfl; omega)]⟩)
      clear hs
      go_wp2
      go_meet
      rw [hfin.out]
      exact ⟨rfl, rfl⟩
    · have z1 : decide ((1 : Int) < (s.length : Int)) = false := by simp; omega
      have hfin := Lib.hid (show decide (1 < s.length ∧ s[0]? = some 45) = false by simp; omega)
      go_wp2
      go_meet
      rw [hfin.out]
      exact ⟨rfl, rfl⟩
  case rest =>
  obtain ⟨rfl, e⟩ := hcut
  rw [e]
  clear e
  obtain ⟨B, hB⟩ : ∃ B, decide (1 < s.length ∧ s[0]? = some 45) = B := ⟨_, rfl⟩
  rw [hB]
  go_upto_if 14 with (fail)
  go_cut [0, 4] from 15 to 18 (fun x g wx' => ∃ (t : List UInt8) (sg : Int), x = .string ⟨t.toArray⟩ ∧ g = .int .i64 sg ∧ (sg = 1 ∨ sg = -1) ∧ num05 s = num05U sg t ∧ t.length ≤ 1000000000 ∧ wx' = w)
  case first =>
    by_cases hng : 1 < s.length ∧ s[0]? = some 45
    · obtain ⟨c, r, hs⟩ : ∃ c r, s = c :: r := by
        cases s with
        | nil => simp at hng
        | cons c r => exact ⟨c, r, rfl⟩
      have hfr := txs_from s 1
      have hr : s.drop 1 = r := by rw [hs]; rfl
      rw [hsz, hr] at hfr
      have hrl : r.length ≤ 1000000000 := by rw [← hr]; simp; omega
      have h1 := hng.1
      obtain rfl : true = B := by rw [← hB]; simpa using hng
      by_cases h48 : r = [48]
      · have z3 : (r == [48]) = true := by rw [h48]; rfl
        have hfin := Lib.hid (show num05 s = (0, false) by unfold num05; rw [if_pos hng, hr, if_pos h48])
        clear h48 hs hr hng hB
        go_wp2
        go_ret2
        rw [hfin.out]
        exact ⟨rfl, rfl⟩
      · have z3 : (r == [48]) = false := by simpa using h48
        have hfin := Lib.hid (show num05 s = num05U (-1) r by unfold num05; rw [if_pos hng, hr, if_neg h48])
        clear h48 hs hr hng hB
        go_wp2
        go_meet
        exact ⟨r, -1, rfl, rfl, .inr rfl, hfin.out, hrl, rfl⟩
    · obtain rfl : false = B := by rw [← hB]; simpa using hng
      have hfin := Lib.hid (show num05 s = num05U 1 s by unfold num05; rw [if_neg hng])
      clear hng hB
      go_wp2
      go_meet
      exact ⟨s, 1, rfl, rfl, .inl rfl, hfin.out, hl, rfl⟩
  case rest =>
    obtain ⟨t, sg, rfl, rfl, hsg, hun, htl, e⟩ := hcut
    rw [e]
    clear e hsz hl hB
    have hsz := txs_size t
    by_cases t0 : t = []
    · have hfin := Lib.hid (show num05 s = (0, false) by rw [hun]; unfold num05U; rw [if_pos (.inl t0)])
      subst t0
      clear hun
      go_wp2
      go_ret2
      rw [hfin.out]
      exact ⟨rfl, rfl⟩
    have y0 : (t == []) = false := by simpa using t0
    by_cases t1 : 18 < t.length
    · have hfin := Lib.hid (show num05 s = (0, false) by rw [hun]; unfold num05U; rw [if_pos (.inr (.inl t1))])
      have y1 : decide ((18 : Int) < (t.length : Int)) = true := by simp; omega
      clear hun
      go_wp2
      go_ret2
      rw [hfin.out]
      exact ⟨rfl, rfl⟩
    have y1 : decide ((18 : Int) < (t.length : Int)) = false := by simp; omega
    have hpos : 0 < t.length := List.length_pos_iff.2 t0
    obtain ⟨c, hc⟩ : ∃ c, t[0]? = some c := ⟨_, List.getElem?_eq_getElem hpos⟩
    have hx := txs_at t 0 (by rw [hsz]; exact hpos) hc
    go_upto_region 7 with (fail)
    go_cut [34] from 19 to 34 (fun b wx' => b = .bool (decide (t[0]? = some 48 ∧ t ≠ [48])) ∧ wx' = w)
    case first =>
      by_cases t2 : c = 48
      · have y2 : ((c.toNat : Int) == 48) = true := by rw [t2]; rfl
        obtain ⟨B2, hB2⟩ : ∃ B2, (t == [48]) = B2 := ⟨_, rfl⟩
        have hfin := Lib.hid (show decide (t[0]? = some 48 ∧ t ≠ [48]) = !B2 by
          rw [← hB2, hc, t2]
          by_cases h : t = [48] <;> simp [h])
        clear hc t2
        go_wp2
        go_meet
        rw [hfin.out]
        exact ⟨by rfl, rfl⟩
      · have y2 : ((c.toNat : Int) == 48) = false := by
          rw [beq_eq_false_iff_ne]
          intro h
          exact t2 (UInt8.toNat_inj.1 (by have e : (48 : UInt8).toNat = 48 := rfl; omega))
        have hfin := Lib.hid (show decide (t[0]? = some 48 ∧ t ≠ [48]) = false by rw [hc]; simp [t2])
        clear hc
        go_wp2
        go_meet
        rw [hfin.out]
        exact ⟨rfl, rfl⟩
    case rest =>
    obtain ⟨rfl, e⟩ := hcut
    rw [e]
    clear e
    by_cases t2 : t[0]? = some 48 ∧ t ≠ [48]
    · have hfin := Lib.hid (show num05 s = (0, false) by rw [hun]; unfold num05U; rw [if_pos (.inr (.inr t2))])
      have y3 : decide (t[0]? = some 48 ∧ t ≠ [48]) = true := by simpa using t2
      rw [y3]
      clear hun t2 y3 hc
      go_wp2
      go_ret2
      rw [hfin.out]
      exact ⟨rfl, rfl⟩
    have hno : ¬ (t = [] ∨ 18 < t.length ∨ (t[0]? = some 48 ∧ t ≠ [48])) := by rintro (h | h | h); exact t0 h; exact t1 h; exact t2 h
    have y3 : decide (t[0]? = some 48 ∧ t ≠ [48]) = false := by simpa using t2
    rw [y3]
    have t18 : t.length ≤ 18 := by omega
    have hun1 := Lib.hid (fun h => hun.trans (num05U_none hno h))
    have hun2 := Lib.hid (fun n h => hun.trans (num05U_some (n := n) hno h))
    clear hun hno y3 t2 hx hc y1 t1 t0 y0
    go_upto_block 1 with (fail)
    go_loopw [5, 6] (fun n j wr => ∃ (i : Nat) (m : Int), i ≤ t.length ∧ j = .int .i64 i ∧ n = .int .i64 m ∧ 0 ≤ m ∧ m < 10 ^ i ∧ digS (t.drop i) m = digS t 0 ∧ wr = w) (fun _ j _ => t.length - (intOf j).toNat)
    case atStart => exact ⟨0, 0, by omega, rfl, rfl, by omega, by simp, rfl, rfl⟩
    case round =>
      obtain ⟨i, m, hi, rfl, rfl, m0, m1, hT, rfl⟩ := hrel
      have mb := pow18 (i := i) (by omega)
      by_cases hlt : i < t.length
      · have hlt1 : decide ((i : Int) < (t.length : Int)) = true := by simp; omega
        have hil : i < (⟨t.toArray⟩ : ByteArray).size := by rw [hsz]; exact hlt
        rw [digS_take hlt] at hT
        obtain ⟨c, hc⟩ : ∃ c, t[i] = c := ⟨_, rfl⟩
        have hx := txs_at t i hil (c := c) (by rw [List.getElem?_eq_getElem hlt, hc])
        rw [hc] at hT
        have hcl := c.toNat_lt
        by_cases b1 : c.toNat < 48
        · have z1 : decide ((c.toNat : Int) < 48) = true := by simp; omega
          rw [if_pos (.inl b1)] at hT
          have hfin := Lib.hid (hun1.out hT.symm)
          clear hT hun1 hun2 b1 hc m1 mb
          go_wp2
          go_ret2
          rw [hfin.out]
          exact ⟨rfl, rfl⟩
        have z1 : decide ((c.toNat : Int) < 48) = false := by simp; omega
        by_cases b2 : 57 < c.toNat
        · have z2 : decide ((57 : Int) < (c.toNat : Int)) = true := by simp; omega
          rw [if_pos (.inr b2)] at hT
          have hfin := Lib.hid (hun1.out hT.symm)
          clear hT hun1 hun2 b1 b2 hc m1 mb
          go_wp2
          go_ret2
          rw [hfin.out]
          exact ⟨rfl, rfl⟩
        have z2 : decide ((57 : Int) < (c.toNat : Int)) = false := by simp; omega
        rw [if_neg (by omega)] at hT
        have mb2 := pow18 (i := i + 1) (by omega)
        rw [Int.pow_succ] at mb2
        have v5 : IntKind.i64.wrap (10 * m) = 10 * m := by rw [IntKind.wrap_i64]; omega
        have v6 : IntKind.i64.wrap (10 * m + (c.toNat : Int)) = 10 * m + (c.toNat : Int) := by rw [IntKind.wrap_i64]; omega
        obtain ⟨m', hm'⟩ : ∃ m', 10 * m + (c.toNat : Int) - 48 = m' := ⟨_, rfl⟩
        have v7 : IntKind.i64.wrap (10 * m + (c.toNat : Int) - 48) = m' := by rw [IntKind.wrap_i64]; omega
        have g0 : 0 ≤ m' := by omega
        have g1 := Lib.hid (show m' < 10 ^ (i + 1) by rw [Int.pow_succ]; omega)
        rw [hm'] at hT
        have hTh := Lib.hid hT
        clear hT b1 b2 hm' hc m1 mb mb2
        go_wp2
        go_roundw
        case rel => exact ⟨i + 1, m', by omega, by go_num, rfl, g0, g1.out, hTh.out, by first | rfl | trivial⟩
        case measure => simp [intOf]; omega
      · obtain rfl : i = t.length := by omega
        rw [List.drop_length] at hT
        have hfin := Lib.hid (hun2.out m hT.symm)
        have v1 : IntKind.i64.wrap (sg * m) = sg * m := by
          rw [IntKind.wrap_i64]
          rcases hsg with rfl | rfl <;> omega
        clear hT hun1 hun2 m1 mb
        go_wp2
        go_ret2
        rw [hfin.out]
        exact ⟨rfl, rfl⟩

end Go.Proofs.YtaafedpjifaghaaDoor
