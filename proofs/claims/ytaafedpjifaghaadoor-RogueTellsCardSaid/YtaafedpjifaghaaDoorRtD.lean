/- The walk of the document's number (layer 11). Condition: lengths. -/
import Derived.Test.YtaafedpjifaghaaDoorRtC
set_option linter.unusedVariables false
set_option linter.unusedSimpArgs false
namespace Go.Proofs.YtaafedpjifaghaaDoor
open Go.RowKit

theorem dig_take {s : List UInt8} {i : Nat} (hi : i < s.length) {n : Int} : dig (s.drop i) n = (if ((s[i]).toNat : Int) - 48 < 0 ∨ 9 < ((s[i]).toNat : Int) - 48 ∨ (mostI - (((s[i]).toNat : Int) - 48)).tdiv 10 < n then none else dig (s.drop (i + 1)) (10 * n + (((s[i]).toNat : Int) - 48))) := by
  rw [List.drop_eq_getElem_cons hi, dig]
theorem uns_none {sg : Int} {t : List UInt8} (h : dig t 0 = none) : unsM sg t = (0, false) := by unfold unsM; rw [h]
theorem uns_some {sg n : Int} {t : List UInt8} (h : dig t 0 = some n) : unsM sg t = (sg * n, decide (t ≠ []) && (t == [48] || !(t[0]? == some 48))) := by unfold unsM; rw [h]
set_option maxHeartbeats 4000000 in
set_option maxRecDepth 100000 in
theorem ref_num11 {s : List UInt8} (hl : s.length ≤ 1000000000) (w : World) :
    Calls Tryd.prog 75 #[textV s] w fun e w' => e = .returned (.tuple #[.int .i64 (num11 s).1, .bool (num11 s).2]) ∧ Below w.heap.size w w' := by
  have hsz := txs_size s
  have H0 : St (fun _ => False) w w [] := St.nil _ w
  unfold textV
  by_cases hmin : s = minText
  · have z0 : (s == [45, 57, 50, 50, 51, 51, 55, 50, 48, 51, 54, 56, 53, 52, 55, 55, 53, 56, 48, 56]) = true := by rw [hmin]; decide
    have hfin := Lib.hid (show num11 s = (-9223372036854775808, true) by unfold num11; rw [if_pos hmin])
    go_enter Tryd.func75, Tryd.ntmps75
    go_wp2
    go_ret2
    rw [hfin.out]
    exact ⟨rfl, H0.below (Nat.le_refl _) (fun _ h => h.elim)⟩
  have z0 : (s == [45, 57, 50, 50, 51, 51, 55, 50, 48, 51, 54, 56, 53, 52, 55, 55, 53, 56, 48, 56]) = false := by
    rw [beq_eq_false_iff_ne]; exact hmin
  go_enter Tryd.func75, Tryd.ntmps75
  go_upto_region 4 with (fail)
  go_cut [17] from 10 to 17 (fun b wx => b = .bool (decide (1 < s.length ∧ s[0]? = some 45)) ∧ wx = w)
  case first =>
    by_cases h1 : 1 < s.length
    · have z1 : decide ((1 : Int) < (s.length : Int)) = true := by simp; omega
      obtain ⟨c, hs⟩ : ∃ c, s[0]? = some c := ⟨_, List.getElem?_eq_getElem (by omega)⟩
      have hc := txs_at s 0 (by rw [hsz]; omega) hs
      have h0 : 0 < s.length := by omega
      obtain ⟨B, hB⟩ : ∃ B, ((c.toNat : Int) == 45) = B := ⟨_, rfl⟩
      have hfin := Lib.hid (show decide (1 < s.length ∧ s[0]? = some 45) = B by
        rw [← hB, hs, Bool.eq_iff_iff, decide_eq_true_eq, beq_iff_eq]
        constructor
        · rintro ⟨_, h⟩
          obtain rfl := Option.some.inj h
          rfl
        · intro h
          exact ⟨h1, by rw [show c = 45 from UInt8.toNat_inj.1 (by have e : (45 : UInt8).toNat = 45 := rfl; omega)]⟩)
      clear hs
      go_wp2
      go_meet
      rw [hfin.out]
      exact ⟨rfl, rfl⟩
    · have z1 : decide ((1 : Int) < (s.length : Int)) = false := by simp; omega
      have hfin := Lib.hid (show decide (1 < s.length ∧ s[0]? = some 45) = false by simp; omega)
      go_wp2
      go_meet
      rw [hfin.out]
      exact ⟨rfl, rfl⟩
  case rest =>
  obtain ⟨rfl, e⟩ := hcut
  rw [e]
  clear e
  obtain ⟨B, hB⟩ : ∃ B, decide (1 < s.length ∧ s[0]? = some 45) = B := ⟨_, rfl⟩
  rw [hB]
  go_upto_if 17 with (fail)
  go_cut [0, 4] from 18 to 21 (fun x g wx' => ∃ (t : List UInt8) (sg : Int), x = .string ⟨t.toArray⟩ ∧ g = .int .i64 sg ∧ (sg = 1 ∨ sg = -1) ∧ num11 s = unsM sg t ∧ t.length ≤ 1000000000 ∧ wx' = w)
  case first =>
    by_cases hng : 1 < s.length ∧ s[0]? = some 45
    · obtain ⟨c, r, hs⟩ : ∃ c r, s = c :: r := by
        cases s with
        | nil => simp at hng
        | cons c r => exact ⟨c, r, rfl⟩
      have hfr := txs_from s 1
      have hr : s.drop 1 = r := by rw [hs]; rfl
      rw [hsz, hr] at hfr
      have hrl : r.length ≤ 1000000000 := by rw [← hr]; simp; omega
      have h1 := hng.1
      obtain rfl : true = B := by rw [← hB]; simpa using hng
      by_cases h48 : r = [48]
      · have z3 : (r == [48]) = true := by rw [h48]; rfl
        have hfin := Lib.hid (show num11 s = (0, false) by unfold num11; rw [if_neg hmin, if_pos hng, hr, if_pos h48])
        clear h48 hs hr hng hB
        go_wp2
        go_ret2
        rw [hfin.out]
        exact ⟨rfl, H0.below (Nat.le_refl _) (fun _ h => h.elim)⟩
      · have z3 : (r == [48]) = false := by simpa using h48
        have hfin := Lib.hid (show num11 s = unsM (-1) r by unfold num11; rw [if_neg hmin, if_pos hng, hr, if_neg h48])
        clear h48 hs hr hng hB
        go_wp2
        go_meet
        exact ⟨r, -1, rfl, rfl, .inr rfl, hfin.out, hrl, rfl⟩
    · obtain rfl : false = B := by rw [← hB]; simpa using hng
      have hfin := Lib.hid (show num11 s = unsM 1 s by unfold num11; rw [if_neg hmin, if_neg hng])
      clear hng hB
      go_wp2
      go_meet
      exact ⟨s, 1, rfl, rfl, .inl rfl, hfin.out, hl, rfl⟩
  case rest =>
    obtain ⟨t, sg, rfl, rfl, hsg, hun, htl, e⟩ := hcut
    rw [e]
    clear e z0 hmin hsz hl hB
    have hsz := txs_size t
    go_upto_block 3 with (fail)
    go_loopw [5, 6] (fun n j wr => ∃ (i : Nat) (m : Int), i ≤ t.length ∧ j = .int .i64 i ∧ n = .int .i64 m ∧ 0 ≤ m ∧ m ≤ 9223372036854775807 ∧ dig (t.drop i) m = dig t 0 ∧ St (fun _ => False) w wr []) (fun _ j _ => t.length - (intOf j).toNat)
    case atStart => exact ⟨0, 0, by omega, rfl, rfl, by omega, by omega, rfl, H0⟩
    case round =>
      clear H0
      obtain ⟨i, m, hi, rfl, rfl, m0, m1, hT, HL⟩ := hrel
      by_cases hlt : i < t.length
      · have hlt1 : decide ((i : Int) < (t.length : Int)) = true := by simp; omega
        have hil : i < (⟨t.toArray⟩ : ByteArray).size := by rw [hsz]; exact hlt
        rw [dig_take hlt] at hT
        obtain ⟨c, hc⟩ : ∃ c, t[i] = c := ⟨_, rfl⟩
        have hx := txs_at t i hil (c := c) (by rw [List.getElem?_eq_getElem hlt, hc])
        rw [hc] at hT
        have hcl := c.toNat_lt
        obtain ⟨D, hD⟩ : ∃ D : Int, (c.toNat : Int) - 48 = D := ⟨_, rfl⟩
        have v1 : IntKind.i64.wrap ((c.toNat : Int) - 48) = D := by rw [IntKind.wrap_i64]; omega
        rw [hD] at hT
        have v2 : -1000 ≤ D ∧ D ≤ 1000 := by omega
        clear hD hc
        by_cases b1 : D < 0
        · have z1 : decide (D < 0) = true := by simpa using b1
          rw [if_pos (.inl b1)] at hT
          have hfin := Lib.hid (hun.trans (uns_none hT.symm))
          clear hT hun b1
          go_wp2
          go_ret2
          rw [hfin.out]
          exact ⟨rfl, HL.below (Nat.le_refl _) (fun _ h => h.elim)⟩
        have z1 : decide (D < 0) = false := by simpa using b1
        by_cases b2 : 9 < D
        · have z2 : decide (9 < D) = true := by simpa using b2
          rw [if_pos (.inr (.inl b2))] at hT
          have hfin := Lib.hid (hun.trans (uns_none hT.symm))
          clear hT hun b1 b2
          go_wp2
          go_ret2
          rw [hfin.out]
          exact ⟨rfl, HL.below (Nat.le_refl _) (fun _ h => h.elim)⟩
        have z2 : decide (9 < D) = false := by simpa using b2
        have v3 : IntKind.i64.wrap (9223372036854775807 - D) = 9223372036854775807 - D := by rw [IntKind.wrap_i64]; omega
        have v4 : IntKind.i64.wrap ((9223372036854775807 - D).tdiv 10) = (9223372036854775807 - D).tdiv 10 := by
          have := tdiv_most (d := D) (by omega)
          unfold mostI at this
          rw [this, IntKind.wrap_i64]; omega
        by_cases b3 : (9223372036854775807 - D).tdiv 10 < m
        · have z3 : decide ((9223372036854775807 - D).tdiv 10 < m) = true := by simpa using b3
          rw [if_pos (.inr (.inr b3))] at hT
          have hfin := Lib.hid (hun.trans (uns_none hT.symm))
          clear hT hun b1 b2 b3
          go_wp2
          go_ret2
          rw [hfin.out]
          exact ⟨rfl, HL.below (Nat.le_refl _) (fun _ h => h.elim)⟩
        · have z3 : decide ((9223372036854775807 - D).tdiv 10 < m) = false := by simpa using b3
          rw [if_neg (by rintro (h | h | h); exact b1 h; exact b2 h; exact b3 h)] at hT
          have hq := tdiv_most (d := D) (by omega)
          unfold mostI at hq
          rw [hq] at b3
          have v5 : IntKind.i64.wrap (10 * m) = 10 * m := by rw [IntKind.wrap_i64]; omega
          obtain ⟨m', hm'⟩ : ∃ m', 10 * m + D = m' := ⟨_, rfl⟩
          have g0 : 0 ≤ m' := by omega
          have g1 : m' ≤ 9223372036854775807 := by omega
          have v6 : IntKind.i64.wrap (10 * m + D) = m' := by rw [IntKind.wrap_i64]; omega
          rw [hm'] at hT
          have hTh := Lib.hid hT
          clear hT hq b1 b2 b3 hm'
          go_wp2
          go_roundw
          case rel => exact ⟨i + 1, m', by omega, by go_num, rfl, g0, g1, hTh.out, HL⟩
          case measure => simp [intOf]; omega
      · obtain rfl : i = t.length := by omega
        rw [List.drop_length] at hT
        have hfin := hun.trans (uns_some (n := m) hT.symm)
        have v1 : IntKind.i64.wrap (sg * m) = sg * m := by
          rw [IntKind.wrap_i64]
          rcases hsg with rfl | rfl <;> omega
        clear hT hun
        have kz : decide ((t.length : Int) < (t.length : Int)) = false := by simp
        go_upto_region 17 with (fail)
        by_cases t0 : t = []
        · subst t0
          have hfh := Lib.hid hfin
          clear hfin
          refine wp_calm (fun w' => St (fun _ => False) w w' []) (by kernel_rfl) (by kernel_rfl) (HL.drew) ?_
          iterate 16 first
            | (apply calm_pass
               · rfl
               intro K hK
               go_simp
               refine hK _ ?_
               clear hK K)
            | (apply calm_step
               · rfl
               · intro w1 h1
                 first
                   | (go_simp
                      first
                        | rfl
                        | exact ⟨rfl, h1⟩
                     )
               intro K hK
               go_simp
               refine hK _ ?_
               clear hK K)
          refine calm_nil ?_
          intro w2 H2
          go_wp2
          go_ret2
          rw [hfh.out]
          exact ⟨rfl, H2.below (Nat.le_refl _) (fun _ h => h.elim)⟩
        · have y0 : (t == []) = false := by simpa using t0
          have y0' : (t != []) = true := by simpa using t0
          have hpos : 0 < t.length := List.length_pos_iff.2 t0
          obtain ⟨c, hc⟩ : ∃ c, t[0] = c := ⟨_, rfl⟩
          have hx := txs_at t 0 (by rw [hsz]; exact hpos) (c := c) (by rw [List.getElem?_eq_getElem hpos, hc])
          have hx2 : t[0]? = some c := by rw [List.getElem?_eq_getElem hpos, hc]
          rw [hx2] at hfin
          by_cases t1 : t = [48]
          · have y1 : (t == [48]) = true := by simpa using t1
            rw [y1] at hfin
            have hfh := Lib.hid (show num11 s = (sg * m, true) by rw [hfin]; simp [t0])
            clear hfin t0 t1 hc hx2
            refine wp_calm (fun w' => St (fun _ => False) w w' []) (by kernel_rfl) (by kernel_rfl) (HL.drew) ?_
            iterate 16 first
              | (apply calm_pass
                 · rfl
                 intro K hK
                 go_simp
                 refine hK _ ?_
                 clear hK K)
              | (apply calm_step
                 · rfl
                 · intro w1 h1
                   first
                     | (go_simp
                        first
                          | rfl
                          | exact ⟨rfl, h1⟩
                       )
                 intro K hK
                 go_simp
                 refine hK _ ?_
                 clear hK K)
            refine calm_nil ?_
            intro w2 H2
            go_wp2
            go_ret2
            rw [hfh.out]
            exact ⟨rfl, H2.below (Nat.le_refl _) (fun _ h => h.elim)⟩
          · have y1 : (t == [48]) = false := by simpa using t1
            rw [y1] at hfin
            by_cases t2 : c = 48
            · have y2 : ((c.toNat : Int) != 48) = false := by rw [t2]; rfl
              have hfh := Lib.hid (show num11 s = (sg * m, false) by rw [hfin]; simp [t2])
              clear hfin t0 t1 hc hx2 t2
              refine wp_calm (fun w' => St (fun _ => False) w w' []) (by kernel_rfl) (by kernel_rfl) (HL.drew) ?_
              iterate 16 first
                | (apply calm_pass
                   · rfl
                   intro K hK
                   go_simp
                   refine hK _ ?_
                   clear hK K)
                | (apply calm_step
                   · rfl
                   · intro w1 h1
                     first
                       | (go_simp
                          first
                            | rfl
                            | exact ⟨rfl, h1⟩
                         )
                   intro K hK
                   go_simp
                   refine hK _ ?_
                   clear hK K)
              refine calm_nil ?_
              intro w2 H2
              go_wp2
              go_ret2
              rw [hfh.out]
              exact ⟨rfl, H2.below (Nat.le_refl _) (fun _ h => h.elim)⟩
            · have y2 : ((c.toNat : Int) != 48) = true := by
                rw [bne_iff_ne]
                intro h
                exact t2 (UInt8.toNat_inj.1 (by have e : (48 : UInt8).toNat = 48 := rfl; omega))
              have hfh := Lib.hid (show num11 s = (sg * m, true) by rw [hfin]; simp [t0, t2])
              clear hfin t0 t1 hc hx2 t2
              refine wp_calm (fun w' => St (fun _ => False) w w' []) (by kernel_rfl) (by kernel_rfl) (HL.drew) ?_
              iterate 16 first
                | (apply calm_pass
                   · rfl
                   intro K hK
                   go_simp
                   refine hK _ ?_
                   clear hK K)
                | (apply calm_step
                   · rfl
                   · intro w1 h1
                     first
                       | (go_simp
                          first
                            | rfl
                            | exact ⟨rfl, h1⟩
                         )
                   intro K hK
                   go_simp
                   refine hK _ ?_
                   clear hK K)
              refine calm_nil ?_
              intro w2 H2
              go_wp2
              go_ret2
              rw [hfh.out]
              exact ⟨rfl, H2.below (Nat.le_refl _) (fun _ h => h.elim)⟩

end Go.Proofs.YtaafedpjifaghaaDoor
