/- The walks of the store's calls that its users make: a new one, Spend, Limit, a crash with nothing waiting. Conditions: the blocks lie as the makers lay them. -/
import Derived.Test.YtbikjhmdpgoofabSep
import Derived.Test.YtbikjhmdpgoofabStoreM
import Derived.Test.YtbikjhmdpgoofabRefStoreA
namespace Go.Proofs.Ytbikjhmdpgoofab
open Go.RowKit

/-- The block of a store. -/
abbrev StoreB (b : Nat) (x y z : Value) (c : Int) : SP := Blk b #[x, y, z, .int .i64 c] 95

set_option maxHeartbeats 400000 in
theorem store_spend {b : Nat} {x y z : Value} {c : Int} {w : World} {S : Nat → Prop} (h1 : c ≤ 9223372036854775807) (H : Sep w [StoreB b x y z c] S) :
    Calls Try.prog 49 #[.pointer (some ⟨b, 0, none⟩)] w fun e w' => e = .returned (.int .i64 (spendE c)) ∧ St S w w' [StoreB b x y z (spendC c)] := by
  have hs := H.blk 0 rfl
  have c1 := cell_blk' hs (i := 3) rfl
  have f1 := free_blk hs 3
  clear hs
  by_cases h0 : c = 0
  · subst h0
    go_enter Try.func49, Try.ntmps49
    go_wp2
    go_ret
    exact ⟨rfl, St.refl H⟩
  · have e0 : (c == 0) = false := by simpa using h0
    have hfin : spendE c = 0 := by simp [spendE, h0]
    by_cases hp : 0 < c
    · have hfin2 : spendC c = c - 1 := by simp [spendC, hp]
      rw [hfin, hfin2]
      clear hfin hfin2 h0
      go_enter Try.func49, Try.ntmps49
      go_wp2
      go_ret
      exact ⟨rfl, (St.refl H).set 0 rfl 3 _⟩
    · have hfin2 : spendC c = c := by simp [spendC, hp]
      rw [hfin, hfin2]
      clear hfin hfin2 h0
      go_enter Try.func49, Try.ntmps49
      go_wp2
      go_ret
      exact ⟨rfl, St.refl H⟩

theorem Try.info98 : (Try.prog.info? 98).map (fun i => (i.zero, i.size, i.bytes)) = some (some (.agg (Array.replicate 128 (.int .u8 0))), 128, 128) := by kernel_rfl

/-- The cells of so many blocks of noughts. -/
def noughtCells (n : Nat) : Array Value := madeCells (Value.agg (Array.replicate 128 (.int .u8 0))).cells (n * 128)
def zeroCells (n : Nat) : Array Value := madeCells (Value.int .i64 0).cells (n * 1)

set_option maxHeartbeats 1000000 in
theorem store_new (n : Nat) (h1 : 1 ≤ n) (h2 : n ≤ 4096) (w : World) :
    Calls Try.prog 12 #[.int .i64 n] w fun e w' => ∃ b bl br, e = .returned (.tuple #[.pointer (some ⟨b,0,none⟩), .int .i64 0]) ∧
      St (fun _ => False) w w' [StoreB b (.slice (some ⟨bl, 0, none⟩) n n) (.slice none 0 0) (.slice (some ⟨br, 0, none⟩) n n) (-1), Blk bl (noughtCells n) 98, Blk br (zeroCells n) 3] := by
  obtain ⟨i3, hi3, hz3, hs3, hb3⟩ := info_parts Try.info3
  obtain ⟨i104, hi104, hz104, hs104, hb104⟩ := info_parts Try.info98
  have hm1 := fun w => run_make (P := Try.prog) w 92 98 i104 _ Try.underlying92 hi104 hz104 .i64 .i64 n n (by omega) (by omega) (by rw [hb104]; omega) (by omega)
  have hm2 := fun w => run_make (P := Try.prog) w 39 3 i3 _ Try.underlying39 hi3 hz3 .i64 .i64 n n (by omega) (by omega) (by rw [hb3]; omega) (by omega)
  simp only [hs104, hs3, Int.toNat_natCast] at hm1 hm2
  change ∀ w, _ = Result.ok _ (World.alloc w (.cells (noughtCells n) _)) at hm1
  change ∀ w, _ = Result.ok _ (World.alloc w (.cells (zeroCells n) _)) at hm2
  have t1 : decide ((n : Int) < 1) = false := by simp; omega
  have t2 : decide ((4096 : Int) < n) = false := by simp; omega
  go_enter Try.func12, Try.ntmps12
  go_wp2
  go_region
  · go_wp2
    go_ret2
    exact ⟨_, _, _, rfl, ((((St.nil _ _).alloc _ _).allocAt (by simp) _ _).allocAt (by simp) _ _).drew.pick [0, 2, 1]⟩
  · go_wp2
    go_ret2
    exact ⟨_, _, _, rfl, ((((St.nil _ _).alloc _ _).allocAt (by simp) _ _).allocAt (by simp) _ _).drew.pick [0, 1, 2]⟩

set_option maxHeartbeats 400000 in
theorem store_limit {b : Nat} {x y z : Value} {c n : Int} {w : World} {S : Nat → Prop} (hn : -9223372036854775808 ≤ n ∧ n ≤ 9223372036854775807) (H : Sep w [StoreB b x y z c] S) :
    Calls Try.prog 14 #[.pointer (some ⟨b, 0, none⟩), .int .i64 n] w fun e w' => e = .returned (.tuple #[]) ∧ St S w w' [StoreB b x y z (max n (-1))] := by
  have hs := H.blk 0 rfl
  have c1 := cell_blk' hs (i := 3) rfl
  have f1 := free_blk hs 3
  clear hs
  go_enter Try.func14, Try.ntmps14
  go_wp2
  · rw [show max n (-1) = -1 from by omega]
    go_end0
    exact ⟨rfl, (St.refl H).set 0 rfl 3 _⟩
  · rw [show max n (-1) = n from by omega]
    go_end0
    exact ⟨rfl, (St.refl H).set 0 rfl 3 _⟩

set_option maxHeartbeats 400000 in
theorem store_settle_nil {b : Nat} {x z fv : Value} {c : Int} {w : World} {S : Nat → Prop} (H : Sep w [StoreB b x (.slice none 0 0) z c] S) :
    Calls Try.prog 76 #[.pointer (some ⟨b, 0, none⟩), fv] w fun e w' => e = .returned (.tuple #[]) ∧ St S w w' [StoreB b x (.slice none 0 0) z c] := by
  have hs := H.blk 0 rfl
  have c1 := cell_blk' hs (i := 1) rfl
  have f1 := free_blk hs 1
  clear hs
  go_enter Try.func76, Try.ntmps76
  go_wp2
  refine wp_loop_rounds 1 ?_
  rw [rounds_succ]
  go_wp2
  go_end0
  exact ⟨rfl, (St.refl H).set 0 rfl 1 _⟩

set_option maxHeartbeats 1000000 in
theorem store_crash_nil {b : Nat} {x z : Value} {c torn cut : Int} {w : World} {S : Nat → Prop} (H : Sep w [StoreB b x (.slice none 0 0) z c] S) :
    Calls Try.prog 46 #[.pointer (some ⟨b, 0, none⟩), .slice none 0 0, .int .i64 torn, .int .i64 cut] w fun e w' => e = .returned (.tuple #[]) ∧
      St S w w' [StoreB b x (.slice none 0 0) z (-1)] := by
  have hlt := blk_lt (H.blk 0 rfl)
  go_enter Try.func46, Try.ntmps46
  go_wp2_with (go_at_call 76; obtain ⟨S1, H1, G1⟩ := St.call (l1 := [_]) ((((St.refl H).skip _).skip _).skip _); refine (store_settle_nil H1).mono ?_; rintro e w' ⟨rfl, H2⟩; have H3 := G1 _ _ H2; have c4 := H3.cell 0 3 rfl rfl; have f4 := H3.free 0 3 rfl)
  all_goals
    go_end0
    exact ⟨rfl, H3.set 0 rfl 3 _⟩

end Go.Proofs.Ytbikjhmdpgoofab
