/- The walk of the pen's reader: Text. Conditions: the reader's blocks lie as its maker lays them. -/
import Derived.Test.YtbikjhmdpgoofabPenD
namespace Go.Proofs.Ytbikjhmdpgoofab
open Go.RowKit

theorem rnum_len (l : List UInt8) (e most : Int) : (rnum l e most).2.1.length ≤ l.length := by
  have := (rword_ok l).2.2.2
  unfold rnum
  split
  · exact Nat.le_refl _
  · split
    · exact Nat.zero_le _
    · split
      · exact Nat.zero_le _
      · exact this
theorem rfix_off {l : List UInt8} {e : Int} (n : Int) (h : e ≠ 0) : rfix l e n = ([], l, e) := by rw [rfix, if_pos h]

set_option maxHeartbeats 1000000 in
theorem read_text {b : Nat} {l : List UInt8} {e : Int} (most : Int) {w : World} {S : Nat → Prop} (hl : l.length ≤ 140000000000000) (H : Sep w [ReaderAt b l e] S) :
    Calls Try.prog 34 #[.pointer (some ⟨b, 0, none⟩), .int .i64 most] w fun r w' => ∃ v', r = .returned v' ∧ St S w w' [Row 5 1 v' (rtext l e most).1.length (bvs (rtext l e most).1), ReaderAt b (rtext l e most).2.1 (rtext l e most).2.2] := by
  have H0 := St.refl H
  obtain ⟨res, hres⟩ : ∃ res, rtext l e most = res := ⟨_, rfl⟩
  rw [hres]
  by_cases he : e = 0
  · subst he
    have hlen := rnum_len l 0 9223372036854775807
    have kw := read_number 9223372036854775807 H
    obtain ⟨nd, hnd⟩ : ∃ nd, rnum l 0 9223372036854775807 = nd := ⟨_, rfl⟩
    have hr2 : (if nd.2.2 = 0 ∧ most < nd.1 then ([], [], 12) else rfix nd.2.1 nd.2.2 nd.1) = res := by rw [← hres, ← hnd]; simp [rtext]
    rw [hnd] at kw hlen
    have hrh := Lib.hid hr2
    clear hres hnd hr2
    obtain ⟨n, l', e'⟩ := nd
    simp only at kw hlen hrh
    have e1 : ((0 : Int) != 0) = false := rfl
    go_enter Try.func34, Try.ntmps34
    go_wp2_with fail
    refine (read_off H).mono ?_
    rintro r w1 ⟨rfl, hw1⟩
    subst w1
    go_wp2_with fail
    refine kw.mono ?_
    rintro r w1 ⟨rfl, H1⟩
    clear kw
    by_cases hm : most < n
    · have z1 : decide (most < n) = true := by simpa using hm
      go_wp2_with fail
      obtain ⟨S1, K1, G1⟩ := St.call (l1 := [_]) (l2 := []) H1
      refine (read_fail (x := 12) K1).mono ?_
      rintro r w2 ⟨rfl, H2⟩
      have H3 := G1 _ _ H2
      go_wp2_with fail
      by_cases he2 : e' = 0
      · have hfin := Lib.hid (show res = ([], [], 12) by rw [← hrh.out, if_pos ⟨he2, hm⟩])
        rw [if_pos ⟨he2, by omega⟩, if_pos ⟨he2, by omega⟩] at H3
        obtain ⟨S2, K2, G2⟩ := St.call (l1 := [_]) (l2 := []) H3
        clear hrh he2 hm
        refine (read_fixed n (by simp) K2).mono ?_
        rintro r w3 ⟨v', rfl, H4⟩
        have H5 := G2 _ _ H4
        rw [rfix_off n (by omega)] at H5
        go_wp2
        go_ret
        rw [hfin.out]
        exact ⟨v', rfl, H5⟩
      · have hfin := Lib.hid (show res = ([], l', e') by rw [← hrh.out, if_neg (fun h => he2 h.1), rfix_off n he2])
        rw [if_neg (fun h => he2 h.1), if_neg (fun h => he2 h.1)] at H3
        obtain ⟨S2, K2, G2⟩ := St.call (l1 := [_]) (l2 := []) H3
        have he2h := Lib.hid he2
        clear hrh he2 hm
        refine (read_fixed n (by omega) K2).mono ?_
        rintro r w3 ⟨v', rfl, H4⟩
        have H5 := G2 _ _ H4
        rw [rfix_off n he2h.out] at H5
        go_wp2
        go_ret
        rw [hfin.out]
        exact ⟨v', rfl, H5⟩
    · have z1 : decide (most < n) = false := by simpa using hm
      have hfin := Lib.hid (show res = rfix l' e' n by rw [← hrh.out, if_neg (fun h => hm h.2)])
      clear hrh hm
      go_wp2_with fail
      obtain ⟨S2, K2, G2⟩ := St.call (l1 := [_]) (l2 := []) H1
      refine (read_fixed n (by omega) K2).mono ?_
      rintro r w3 ⟨v', rfl, H4⟩
      have H5 := G2 _ _ H4
      go_wp2
      go_ret
      rw [hfin.out]
      exact ⟨v', rfl, H5⟩
  · have e1 : (e != 0) = true := by simpa using he
    have hfin := Lib.hid (show res = ([], l, e) by rw [← hres, rtext, if_pos he])
    clear hres he
    go_enter Try.func34, Try.ntmps34
    go_wp2_with (go_at_call 72; refine (read_off H).mono ?_; rintro e w' ⟨rfl, rfl⟩)
    go_ret
    rw [hfin.out]
    exact ⟨_, rfl, H0.row_nil 5 1⟩

end Go.Proofs.Ytbikjhmdpgoofab
