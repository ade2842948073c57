/- The walk of the document's hexed (layer 24). Condition: the word's length. -/
import Derived.Test.YtaafedpjifaghaaDoorRfG
set_option linter.unusedVariables false
set_option linter.unusedSimpArgs false
namespace Go.Proofs.YtaafedpjifaghaaDoor
open Go.RowKit

def hexB (s : List UInt8) : List UInt8 := (hexedM s).getD []
set_option maxHeartbeats 8000000 in
set_option maxRecDepth 100000 in
theorem ref24_hexed {s : List UInt8} (hl : s.length ≤ 1000000000) (w : World) :
    Calls Tryd.prog 46 #[.string ⟨s.toArray⟩] w fun e w' => ∃ v, e = .returned (.tuple #[v, .bool (hexedM s).isSome]) ∧ St (fun _ => False) w w' [Row 5 1 v (hexB s).length (bvs (hexB s))] := by
  have hsz := txs_size s
  have H0 : St (fun _ => False) w w [Row 5 1 (.slice none 0 0) 0 (bvs [])] := (St.nil _ w).row_nil 5 1
  have hd0 : hexedM s = if s = [45] then some [] else if s.length = 0 ∨ s.length % 2 ≠ 0 ∨ 256 < s.length then none else hexGo s true [] := rfl
  have hno : hexedM s = none → hexB s = [] := fun h => by unfold hexB; rw [h]; rfl
  have hyes : ∀ b, hexedM s = some b → hexB s = b := fun b h => by unfold hexB; rw [h]; rfl
  go_enter Tryd.func46, Tryd.ntmps46
  by_cases h45 : s = [45]
  · have hd := hd0
    rw [if_pos h45] at hd
    have y0 : (s == [45]) = true := by simpa using h45
    have hdh := Lib.hid hd
    have hbh := Lib.hid (hyes _ hd)
    clear hd0 hno hyes hd h45
    go_wp2
    go_ret2
    rw [hdh.out, hbh.out]
    exact ⟨_, rfl, H0⟩
  have y0 : (s == [45]) = false := by simpa using h45
  rw [if_neg h45] at hd0
  clear h45
  by_cases hbad : s.length = 0 ∨ s.length % 2 ≠ 0 ∨ 256 < s.length
  · rw [if_pos hbad] at hd0
    have hdh := Lib.hid hd0
    have hbh := Lib.hid (hno hd0)
    clear hd0 hno hyes
    have fin : ∀ (w' : World), w' = w → ∃ v, Ending.returned (.tuple #[.slice none 0 0, .bool false]) = .returned (.tuple #[v, .bool (hexedM s).isSome]) ∧ St (fun _ => False) w w' [Row 5 1 v (hexB s).length (bvs (hexB s))] := by
      rintro w' rfl
      rw [hdh.out, hbh.out]
      exact ⟨_, rfl, H0⟩
    have finh := Lib.hid fin
    clear fin hdh hbh
    by_cases b1 : s.length = 0
    · have y1 : ((s.length : Int) == 0) = true := by simp [b1]
      clear hbad
      go_wp2
      go_ret2
      exact finh.out _ rfl
    have y1 : ((s.length : Int) == 0) = false := by rw [beq_eq_false_iff_ne]; omega
    have v1 : IntKind.i64.wrap ((s.length : Int).tmod 2) = ((s.length % 2 : Nat) : Int) := by
      have : (s.length : Int).tmod 2 = ((s.length % 2 : Nat) : Int) := by rw [Int.tmod_eq_emod_of_nonneg (by omega)]; omega
      rw [this, IntKind.wrap_i64]; omega
    by_cases b2 : s.length % 2 = 1
    · rw [b2] at v1
      clear hbad
      go_wp2
      go_ret2
      exact finh.out _ rfl
    have b2' : s.length % 2 = 0 := by omega
    rw [b2'] at v1
    have y3 : decide ((256 : Int) < (s.length : Int)) = true := by simp; omega
    clear hbad
    go_wp2
    go_ret2
    exact finh.out _ rfl
  rw [if_neg hbad] at hd0
  have b1 : s.length ≠ 0 := fun h => hbad (.inl h)
  have b2 : s.length % 2 = 0 := by
    rcases Nat.mod_two_eq_zero_or_one s.length with h | h
    · exact h
    · exact absurd (.inr (.inl (by rw [h]; decide))) hbad
  have b3 : s.length ≤ 256 := by rcases Nat.lt_or_ge 256 s.length with h | h; exact absurd (.inr (.inr h)) hbad; exact h
  clear hbad
  have y1 : ((s.length : Int) == 0) = false := by rw [beq_eq_false_iff_ne]; omega
  have v1 : IntKind.i64.wrap ((s.length : Int).tmod 2) = 0 := by
    have : (s.length : Int).tmod 2 = ((s.length % 2 : Nat) : Int) := by rw [Int.tmod_eq_emod_of_nonneg (by omega)]; omega
    rw [this, b2]; rfl
  have y3 : decide ((256 : Int) < (s.length : Int)) = false := by simp; omega
  have hnoh := Lib.hid hno
  have hyesh := Lib.hid hyes
  have hd0h := Lib.hid hd0
  clear hno hyes hd0 b1
  go_upto_block 1 with (fail)
  go_loopw [4, 5] (fun v j wr => ∃ (i n : Nat) (out : List UInt8), i ≤ s.length ∧ n = out.length ∧ n ≤ i ∧ (i % 2 = 1 → out ≠ []) ∧ j = .int .i64 i ∧ hexGo (s.drop i) (decide (i % 2 = 0)) out = hexGo s true [] ∧ St (fun _ => False) w wr [Row 5 1 v n (bvs out)]) (fun _ j _ => s.length - (intOf j).toNat)
  case atStart => exact ⟨0, 0, [], by omega, rfl, by omega, fun h => by simp at h, rfl, rfl, H0⟩
  case round =>
    clear H0 y0 y1 v1 y3
    obtain ⟨i, n, out, hi, hn, hni, hodd, rfl, hT, HL⟩ := hrel
    obtain ⟨ao, co, rfl, _, _⟩ := slice_form' (HL.row 0 rfl)
    by_cases hlt : i < s.length
    · have hlt1 : decide ((i : Int) < (s.length : Int)) = true := by simp; omega
      have hil : i < (⟨s.toArray⟩ : ByteArray).size := by rw [hsz]; exact hlt
      rw [hexGo_take hlt] at hT
      obtain ⟨c, hc⟩ : ∃ c, s[i] = c := ⟨_, rfl⟩
      have hx := txs_at s i hil (c := c) (by rw [List.getElem?_eq_getElem hlt, hc])
      rw [hc] at hT
      have hTh := Lib.hid hT
      have hnh := Lib.hid hn
      have hoddh := Lib.hid hodd
      clear hT hn hc hodd
      go_upto_block 3 with (fail)
      go_loopw [6, 7] (fun d j wq => ∃ k : Nat, k ≤ 16 ∧ j = .int .i64 k ∧ d = .int .i64 (hexD k c) ∧ St (fun _ => False) w wq [Row 5 1 (.slice ao n co) n (bvs out)]) (fun _ j _ => 16 - (intOf j).toNat)
      case atStart => exact ⟨0, by omega, rfl, rfl, HL⟩
      case round =>
        clear HL
        obtain ⟨k, hk, rfl, rfl, HK⟩ := hrel
        by_cases hk16 : k < 16
        · have z1 : decide ((k : Int) < 16) = true := by simp; omega
          have hk1 : (k : Int) < 16 := by omega
          have hdg := txs_at hexL k (by rw [txs_size]; exact hk16) (hexL_at hk16)
          unfold hexL at hdg
          obtain ⟨D, hD⟩ : ∃ D, digit16 k = D := ⟨_, rfl⟩
          rw [hD] at hdg
          by_cases hcd : D = c
          · have z2 : ((D.toNat : Int) == (c.toNat : Int)) = true := by rw [hcd]; simp
            have hst := Lib.hid (show hexD (k + 1) c = k by unfold hexD; rw [if_pos (hD.trans hcd)])
            clear hcd hD
            go_upto_region 13 with (fail)
            refine wp_calm (fun w' => St (fun _ => False) w w' [Row 5 1 (.slice ao n co) n (bvs out)]) (by kernel_rfl) (by kernel_rfl) (HK.drew) ?_
            iterate 6 first
              | (apply calm_pass
                 · rfl
                 intro K hK
                 go_simp
                 refine hK _ ?_
                 clear hK K)
              | (apply calm_step
                 · rfl
                 · intro w1 h1
                   first
                     | (go_simp
                        first
                          | rfl
                          | exact ⟨rfl, h1⟩
                       )
                 intro K hK
                 go_simp
                 refine hK _ ?_
                 clear hK K)
            refine calm_nil ?_
            intro w9 H9
            go_wp2
            go_roundw
            case rel => exact ⟨k + 1, by omega, by go_num, by rw [hst.out], H9⟩
            case measure => simp [intOf]; omega
          · have z2 : ((D.toNat : Int) == (c.toNat : Int)) = false := by
              rw [beq_eq_false_iff_ne]
              intro h
              exact hcd (UInt8.toNat_inj.1 (by omega))
            have hst := Lib.hid (show hexD (k + 1) c = hexD k c by rw [hexD, if_neg (by rw [hD]; exact hcd)])
            clear hcd hD
            go_upto_region 13 with (fail)
            refine wp_calm (fun w' => St (fun _ => False) w w' [Row 5 1 (.slice ao n co) n (bvs out)]) (by kernel_rfl) (by kernel_rfl) (HK.drew) ?_
            iterate 6 first
              | (apply calm_pass
                 · rfl
                 intro K hK
                 go_simp
                 refine hK _ ?_
                 clear hK K)
              | (apply calm_step
                 · rfl
                 · intro w1 h1
                   first
                     | (go_simp
                        first
                          | rfl
                          | exact ⟨rfl, h1⟩
                       )
                 intro K hK
                 go_simp
                 refine hK _ ?_
                 clear hK K)
            refine calm_nil ?_
            intro w9 H9
            go_wp2
            go_roundw
            case rel => exact ⟨k + 1, by omega, by go_num, by rw [hst.out], H9⟩
            case measure => simp [intOf]; omega
        · obtain rfl : k = 16 := by omega
          have z1 : decide ((16 : Int) < 16) = false := rfl
          rcases hexD_is c with hneg | ⟨d, hd, hde, _⟩
          · have z2 : decide (hexD 16 c < 0) = true := by simpa using hneg
            have e0 := hTh.out
            rw [if_pos hneg] at e0
            have e1 := hd0h.out.trans e0.symm
            have e1h := Lib.hid e1
            have e2h := Lib.hid (hnoh.out e1)
            clear e0 e1 hneg
            go_wp2
            go_ret2
            rw [e1h.out, e2h.out]
            exact ⟨_, rfl, (HK.pick []).row_nil 5 1⟩
          · rw [hde]
            have e0 := hTh.out
            rw [hde, if_neg (by omega), Int.toNat_natCast] at e0
            have z2 : decide ((d : Int) < 0) = false := by simp
            have v2 : IntKind.i64.wrap ((i : Int).tmod 2) = ((i % 2 : Nat) : Int) := by
              have : (i : Int).tmod 2 = ((i % 2 : Nat) : Int) := by rw [Int.tmod_eq_emod_of_nonneg (by omega)]; omega
              rw [this, IntKind.wrap_i64]; omega
            by_cases hev : i % 2 = 0
            · rw [hev] at v2 e0
              rw [if_pos (by simp)] at e0
              have v3 : IntKind.i64.wrap (16 * (d : Int)) = 16 * (d : Int) := by rw [IntKind.wrap_i64]; omega
              have v4 := u8_mul hd
              obtain ⟨X, hX⟩ : ∃ X, UInt8.ofNat (16 * d) = X := ⟨_, rfl⟩
              rw [hX] at v4 e0
              have e0h := Lib.hid e0
              clear e0 hX hde
              have hnb := hnh.out
              clear hnb
              go_wp2_with (at_builtin; go_must (refine St.list_app (HK.skip _) 0 rfl rfl (.tmp 46) (.tmp 50) 38 rfl Tryd.underlying38 Tryd.info5 (by decide) rfl [.int .u8 ((X.toNat : Nat) : Int)] rfl rfl (new_cells #[.int .u8 ((X.toNat : Nat) : Int)] _) (by simp [Value.oneCell']) (by omega) (by omega) ?_; intro g5 cap5 w5 H5 hz5))
              go_roundw
              case rel =>
                refine ⟨i + 1, n + 1, out ++ [X], by omega, by have := hnh.out; simp; omega, by omega, fun _ => by simp, by go_num, ?_, ?_⟩
                · rw [← e0h.out, show decide ((i + 1) % 2 = 0) = false by simp; omega]
                · rw [bvs_append]; exact H5
              case measure => simp [intOf]; omega
            · have hev1 : i % 2 = 1 := by omega
              rw [hev1] at v2 e0
              rw [if_neg (by simp)] at e0
              have hne := hoddh.out hev1
              obtain ⟨o1, l, rfl⟩ : ∃ o1 l, out = o1 ++ [l] := ⟨out.dropLast, out.getLast hne, (List.dropLast_concat_getLast hne).symm⟩
              rw [List.dropLast_concat, List.getLast?_concat, Option.getD_some] at e0
              obtain ⟨m, hm⟩ : ∃ m, o1.length = m := ⟨_, rfl⟩
              have hnm : n = m + 1 := by have := hnh.out; simp at this; omega
              subst hnm
              obtain ⟨g, cap, hsl⟩ := row_form (HK.row 0 rfl) rfl (by omega : 0 < m + 1)
              injection hsl with hao _ hco
              subst hao hco
              have c9 : wr.cell? ⟨g, m, none⟩ = some (.int .u8 ((l.toNat : Nat) : Int)) := HK.rowCell 0 m rfl (by rw [← hm]; simp [bvs, bv])
              have f9 := HK.rowFree 0 m rfl
              have v3 := u8_one hd
              have v5 := u8_sum l (UInt8.ofNat d)
              obtain ⟨X, hX⟩ : ∃ X, UInt8.ofNat d = X := ⟨_, rfl⟩
              rw [hX] at v3 v5 e0
              obtain ⟨Y, hY⟩ : ∃ Y, l + X = Y := ⟨_, rfl⟩
              rw [hY] at v5 e0
              have v6 : IntKind.i64.wrap ((m + 1 : Nat) - 1 : Int) = (m : Int) := by rw [IntKind.wrap_i64]; omega
              have v7 : (m : Int) < ((m + 1 : Nat) : Int) := by omega
              have e0h := Lib.hid e0
              have HR := HK.rowSet 0 rfl m (bv Y)
              have hrow : (bvs (o1 ++ [l])).set m (bv Y) = bvs (o1 ++ [Y]) := by rw [← hm]; simp [bvs]
              rw [hrow] at HR
              have hnn := hnh
              clear e0 hX hY hde hrow hm hne hev
              go_wp2
              go_roundw
              case rel =>
                refine ⟨i + 1, m + 1, o1 ++ [Y], by omega, by have := hnh.out; simp at this ⊢; omega, by omega, fun h => by omega, by go_num, ?_, HR⟩
                rw [← e0h.out, show decide ((i + 1) % 2 = 0) = true by simp; omega]
              case measure => simp [intOf]; omega
    · obtain rfl : i = s.length := by omega
      rw [List.drop_length] at hT
      have e1 : hexedM s = some out := by rw [hd0h.out, ← hT]; rfl
      have e1h := Lib.hid e1
      have e2h := Lib.hid (hyesh.out _ e1)
      have hnh := Lib.hid hn
      clear hT e1 hn
      have z1 : decide ((s.length : Int) < (s.length : Int)) = false := by simp
      go_wp2
      go_ret2
      rw [e1h.out, e2h.out, ← hnh.out]
      exact ⟨_, rfl, HL⟩

end Go.Proofs.YtaafedpjifaghaaDoor
