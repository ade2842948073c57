/- The walks of package meter, and of the store's calls that a meter makes: what each tells and writes. Conditions: the blocks lie as the makers lay them. -/
import Derived.Test.YtbikjhmdpgoofaaSep
import Derived.Test.YtbikjhmdpgoofaaStoreM
namespace Go.Proofs.Ytbikjhmdpgoofaa
open Go.RowKit

/-- The block of a store, and of a meter. -/
abbrev StoreB (b : Nat) (x y z : Value) (c : Int) : SP := Blk b #[x, y, z, .int .i64 c] 94
abbrev MeterB (b bs : Nat) (n most : Int) : SP := Blk b #[.pointer (some ⟨bs, 0, none⟩), .int .i64 n, .int .i64 most] 96

set_option maxHeartbeats 400000 in
theorem meter_full {bm bs : Nat} {n most : Int} {w : World} {l : List SP} {S : Nat → Prop} (H : Sep w (MeterB bm bs n most :: l) S) :
    Calls Try.prog 15 #[.pointer (some ⟨bm, 0, none⟩)] w fun e w' => e = .returned (.bool (decide (most ≤ n))) ∧ ∃ m, w' = w.drewN m := by
  have hm := H.blk 0 rfl
  have c1 := cell_blk' hm (i := 1) rfl
  have c2 := cell_blk' hm (i := 2) rfl
  clear hm H
  go_enter Try.func15, Try.ntmps15
  go_wp2
  go_quiet (fail)
  go_wp2
  go_ret
  exact ⟨rfl, _, rfl⟩

theorem meter_value {bm bs : Nat} {n most : Int} {w : World} {l : List SP} {S : Nat → Prop} (H : Sep w (MeterB bm bs n most :: l) S) :
    Calls Try.prog 13 #[.pointer (some ⟨bm, 0, none⟩)] w fun e w' => e = .returned (.int .i64 n) ∧ w' = w := by
  have hm := H.blk 0 rfl
  have c1 := cell_blk' hm (i := 1) rfl
  clear hm H
  go_enter Try.func13, Try.ntmps13
  go_wp2
  go_ret
  exact ⟨rfl, rfl⟩

theorem meter_most {bm bs : Nat} {n most : Int} {w : World} {l : List SP} {S : Nat → Prop} (H : Sep w (MeterB bm bs n most :: l) S) :
    Calls Try.prog 14 #[.pointer (some ⟨bm, 0, none⟩)] w fun e w' => e = .returned (.int .i64 most) ∧ w' = w := by
  have hm := H.blk 0 rfl
  have c1 := cell_blk' hm (i := 2) rfl
  clear hm H
  go_enter Try.func14, Try.ntmps14
  go_wp2
  go_ret
  exact ⟨rfl, rfl⟩

set_option maxHeartbeats 400000 in
theorem store_spend {b : Nat} {x y z : Value} {c : Int} {w : World} {S : Nat → Prop} (h1 : c ≤ 9223372036854775807) (H : Sep w [StoreB b x y z c] S) :
    Calls Try.prog 45 #[.pointer (some ⟨b, 0, none⟩)] w fun e w' => e = .returned (.int .i64 (spendE c)) ∧ St S w w' [StoreB b x y z (spendC c)] := by
  have hs := H.blk 0 rfl
  have c1 := cell_blk' hs (i := 3) rfl
  have f1 := free_blk hs 3
  clear hs
  by_cases h0 : c = 0
  · subst h0
    go_enter Try.func45, Try.ntmps45
    go_wp2
    go_ret
    exact ⟨rfl, St.refl H⟩
  · have e0 : (c == 0) = false := by simpa using h0
    have hfin : spendE c = 0 := by simp [spendE, h0]
    by_cases hp : 0 < c
    · have hfin2 : spendC c = c - 1 := by simp [spendC, hp]
      rw [hfin, hfin2]
      clear hfin hfin2 h0
      go_enter Try.func45, Try.ntmps45
      go_wp2
      go_ret
      exact ⟨rfl, (St.refl H).set 0 rfl 3 _⟩
    · have hfin2 : spendC c = c := by simp [spendC, hp]
      rw [hfin, hfin2]
      clear hfin hfin2 h0
      go_enter Try.func45, Try.ntmps45
      go_wp2
      go_ret
      exact ⟨rfl, St.refl H⟩

def raiseE (n most c : Int) : Int := if most ≤ n then 33 else spendE c
def raiseN (n most c : Int) : Int := if most ≤ n then n else if c = 0 then n else n + 1
def raiseC (n most c : Int) : Int := if most ≤ n then c else spendC c

set_option maxHeartbeats 400000 in
theorem meter_raise {bm bs : Nat} {n most c : Int} {x y z : Value} {w : World} {S : Nat → Prop} (hn0 : 0 ≤ n) (hmo : most ≤ 1099511627776) (h1 : c ≤ 9223372036854775807)
    (H : Sep w [MeterB bm bs n most, StoreB bs x y z c] S) :
    Calls Try.prog 12 #[.pointer (some ⟨bm, 0, none⟩)] w fun e w' => e = .returned (.int .i64 (raiseE n most c)) ∧
      St S w w' [MeterB bm bs (raiseN n most c) most, StoreB bs x y z (raiseC n most c)] := by
  have c1 := cell_blk' (H.blk 0 rfl) (i := 0) rfl
  by_cases h0 : most ≤ n
  · have hfin : raiseE n most c = 33 ∧ raiseN n most c = n ∧ raiseC n most c = c := by simp [raiseE, raiseN, raiseC, h0]
    rw [hfin.1, hfin.2.1, hfin.2.2]
    clear hfin
    go_enter Try.func12, Try.ntmps12
    go_wp2_with (go_at_call 15; refine (meter_full H).mono ?_; rintro e w' ⟨rfl, m, rfl⟩)
    go_ret
    exact ⟨rfl, (St.refl H).drewN _⟩
  · have hd : decide (most ≤ n) = false := by simpa using h0
    have hfin : raiseE n most c = spendE c ∧ raiseC n most c = spendC c := by simp [raiseE, raiseC, h0]
    rw [hfin.1, hfin.2]
    clear hfin
    by_cases hc0 : c = 0
    · have hfin : raiseN n most c = n := by simp [raiseN, hc0]
      have he : ((spendE c) == 0) = false := by simp [spendE, hc0]
      rw [hfin]
      clear hfin hc0
      go_enter Try.func12, Try.ntmps12
      go_wp2_with (first
        | (go_at_call 15; refine (meter_full H).mono ?_; rintro e w' ⟨rfl, m, rfl⟩)
        | (go_at_call 45; obtain ⟨S1, H1, G1⟩ := St.call (l1 := [_]) (((St.refl H).drewN m).front 1 rfl); refine (store_spend h1 H1).mono ?_; rintro e w' ⟨rfl, H2⟩; have H3 := G1 _ _ H2))
      go_ret
      exact ⟨rfl, H3.front 1 rfl⟩
    · have hfin : raiseN n most c = n + 1 := by simp [raiseN, hc0, h0]
      have he : ((spendE c) == 0) = true := by simp [spendE, hc0]
      rw [hfin]
      clear hfin hc0
      go_enter Try.func12, Try.ntmps12
      go_wp2_with (first
        | (go_at_call 15; refine (meter_full H).mono ?_; rintro e w' ⟨rfl, m, rfl⟩)
        | (go_at_call 45; obtain ⟨S1, H1, G1⟩ := St.call (l1 := [_]) (((St.refl H).drewN m).front 1 rfl); refine (store_spend h1 H1).mono ?_; rintro e w' ⟨rfl, H2⟩; have H3 := G1 _ _ H2; have c2 := H3.cell 1 1 rfl rfl; have f2 := H3.free 1 1 rfl))
      go_ret
      exact ⟨rfl, (H3.front 1 rfl).set 0 rfl 1 _⟩

theorem meter_new {bs : Nat} {most : Int} {w : World} (h0 : 0 ≤ most) (h1 : most ≤ 1099511627776) :
    Calls Try.prog 11 #[.pointer (some ⟨bs, 0, none⟩), .int .i64 most] w fun e w' => ∃ b, e = .returned (.tuple #[.pointer (some ⟨b, 0, none⟩), .int .i64 0]) ∧
      St (fun _ => False) w w' [MeterB b bs 0 most] := by
  go_enter Try.func11, Try.ntmps11
  go_wp2
  go_ret2
  exact ⟨_, rfl, (St.nil _ _).alloc _ _⟩

end Go.Proofs.Ytbikjhmdpgoofaa
