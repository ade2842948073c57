/- The walks of the store's calls that MeterPlays makes: a new one, Limit, a crash with nothing waiting; the reference's alike. -/
import Derived.Test.YtbikjhmdpgoofaaMeterA
import Derived.Test.YtbikjhmdpgoofaaRefStoreA
namespace Go.Proofs.Ytbikjhmdpgoofaa
open Go.RowKit

theorem Try.info128 : (Try.prog.info? 104).map (fun i => (i.zero, i.size, i.bytes)) = some (some (.agg (Array.replicate 128 (.int .u8 0))), 128, 128) := by kernel_rfl

/-- The cells of so many blocks of noughts. -/
def noughtCells (n : Nat) : Array Value := madeCells (Value.agg (Array.replicate 128 (.int .u8 0))).cells (n * 128)
def zeroCells (n : Nat) : Array Value := madeCells (Value.int .i64 0).cells (n * 1)

set_option maxHeartbeats 1000000 in
theorem store_new (n : Nat) (h1 : 1 ≤ n) (h2 : n ≤ 4096) (w : World) :
    Calls Try.prog 10 #[.int .i64 n] w fun e w' => ∃ b bl br, e = .returned (.tuple #[.pointer (some ⟨b,0,none⟩), .int .i64 0]) ∧
      St (fun _ => False) w w' [StoreB b (.slice (some ⟨bl, 0, none⟩) n n) (.slice none 0 0) (.slice (some ⟨br, 0, none⟩) n n) (-1), Blk bl (noughtCells n) 104, Blk br (zeroCells n) 3] := by
  obtain ⟨i3, hi3, hz3, hs3, hb3⟩ := info_parts Try.info3
  obtain ⟨i104, hi104, hz104, hs104, hb104⟩ := info_parts Try.info128
  have hm1 := fun w => run_make (P := Try.prog) w 91 104 i104 _ Try.underlying91 hi104 hz104 .i64 .i64 n n (by omega) (by omega) (by rw [hb104]; omega) (by omega)
  have hm2 := fun w => run_make (P := Try.prog) w 22 3 i3 _ Try.underlying22 hi3 hz3 .i64 .i64 n n (by omega) (by omega) (by rw [hb3]; omega) (by omega)
  simp only [hs104, hs3, Int.toNat_natCast] at hm1 hm2
  change ∀ w, _ = Result.ok _ (World.alloc w (.cells (noughtCells n) _)) at hm1
  change ∀ w, _ = Result.ok _ (World.alloc w (.cells (zeroCells n) _)) at hm2
  have t1 : decide ((n : Int) < 1) = false := by simp; omega
  have t2 : decide ((4096 : Int) < n) = false := by simp; omega
  go_enter Try.func10, Try.ntmps10
  go_wp2
  go_region
  · go_wp2
    go_ret2
    exact ⟨_, _, _, rfl, ((((St.nil _ _).alloc _ _).allocAt (by simp) _ _).allocAt (by simp) _ _).drew.pick [0, 2, 1]⟩
  · go_wp2
    go_ret2
    exact ⟨_, _, _, rfl, ((((St.nil _ _).alloc _ _).allocAt (by simp) _ _).allocAt (by simp) _ _).drew.pick [0, 1, 2]⟩

set_option maxHeartbeats 400000 in
theorem store_limit {b : Nat} {x y z : Value} {c n : Int} {w : World} {S : Nat → Prop} (hn : -9223372036854775808 ≤ n ∧ n ≤ 9223372036854775807) (H : Sep w [StoreB b x y z c] S) :
    Calls Try.prog 18 #[.pointer (some ⟨b, 0, none⟩), .int .i64 n] w fun e w' => e = .returned (.tuple #[]) ∧ St S w w' [StoreB b x y z (max n (-1))] := by
  have hs := H.blk 0 rfl
  have c1 := cell_blk' hs (i := 3) rfl
  have f1 := free_blk hs 3
  clear hs
  go_enter Try.func18, Try.ntmps18
  go_wp2
  · rw [show max n (-1) = -1 from by omega]
    go_end0
    exact ⟨rfl, (St.refl H).set 0 rfl 3 _⟩
  · rw [show max n (-1) = n from by omega]
    go_end0
    exact ⟨rfl, (St.refl H).set 0 rfl 3 _⟩

set_option maxHeartbeats 400000 in
theorem store_settle_nil {b : Nat} {x z fv : Value} {c : Int} {w : World} {S : Nat → Prop} (H : Sep w [StoreB b x (.slice none 0 0) z c] S) :
    Calls Try.prog 48 #[.pointer (some ⟨b, 0, none⟩), fv] w fun e w' => e = .returned (.tuple #[]) ∧ St S w w' [StoreB b x (.slice none 0 0) z c] := by
  have hs := H.blk 0 rfl
  have c1 := cell_blk' hs (i := 1) rfl
  have f1 := free_blk hs 1
  clear hs
  go_enter Try.func48, Try.ntmps48
  go_wp2
  refine wp_loop_rounds 1 ?_
  rw [rounds_succ]
  go_wp2
  go_end0
  exact ⟨rfl, (St.refl H).set 0 rfl 1 _⟩

set_option maxHeartbeats 1000000 in
theorem store_crash_nil {b : Nat} {x z : Value} {c torn cut : Int} {w : World} {S : Nat → Prop} (H : Sep w [StoreB b x (.slice none 0 0) z c] S) :
    Calls Try.prog 19 #[.pointer (some ⟨b, 0, none⟩), .slice none 0 0, .int .i64 torn, .int .i64 cut] w fun e w' => e = .returned (.tuple #[]) ∧
      St S w w' [StoreB b x (.slice none 0 0) z (-1)] := by
  have hlt := blk_lt (H.blk 0 rfl)
  go_enter Try.func19, Try.ntmps19
  go_wp2_with (go_at_call 48; obtain ⟨S1, H1, G1⟩ := St.call (l1 := [_]) ((((St.refl H).skip _).skip _).skip _); refine (store_settle_nil H1).mono ?_; rintro e w' ⟨rfl, H2⟩; have H3 := G1 _ _ H2; have c4 := H3.cell 0 3 rfl rfl; have f4 := H3.free 0 3 rfl)
  all_goals
    go_end0
    exact ⟨rfl, H3.set 0 rfl 3 _⟩

/-! The reference. -/
abbrev RefB (b : Nat) (x y : Value) (c : Int) (z : Value) : SP := Blk b #[x, y, .int .i64 c, z] 42

set_option maxHeartbeats 400000 in
theorem ref_spend {b : Nat} {x y z : Value} {c : Int} {w : World} {S : Nat → Prop} (h1 : c ≤ 9223372036854775807) (H : Sep w [RefB b x y c z] S) :
    Calls Try.prog 47 #[.pointer (some ⟨b, 0, none⟩)] w fun e w' => e = .returned (.int .i64 (spendE c)) ∧ St S w w' [RefB b x y (spendC c) z] := by
  have hs := H.blk 0 rfl
  have c1 := cell_blk' hs (i := 2) rfl
  have f1 := free_blk hs 2
  clear hs
  by_cases h0 : c = 0
  · subst h0
    go_enter Try.func47, Try.ntmps47
    go_wp2
    go_ret
    exact ⟨rfl, St.refl H⟩
  · have e0 : (c == 0) = false := by simpa using h0
    have hfin : spendE c = 0 := by simp [spendE, h0]
    by_cases hp : 0 < c
    · have hfin2 : spendC c = c - 1 := by simp [spendC, hp]
      rw [hfin, hfin2]
      clear hfin hfin2 h0
      go_enter Try.func47, Try.ntmps47
      go_wp2
      go_ret
      exact ⟨rfl, (St.refl H).set 0 rfl 2 _⟩
    · have hfin2 : spendC c = c := by simp [spendC, hp]
      rw [hfin, hfin2]
      clear hfin hfin2 h0
      go_enter Try.func47, Try.ntmps47
      go_wp2
      go_ret
      exact ⟨rfl, St.refl H⟩

set_option maxHeartbeats 1000000 in
theorem ref_crash_nil {b : Nat} {x z : Value} {c torn cut : Int} {w : World} {S : Nat → Prop} (H : Sep w [RefB b x (.slice none 0 0) c z] S) :
    Calls Try.prog 20 #[.pointer (some ⟨b, 0, none⟩), .slice none 0 0, .int .i64 torn, .int .i64 cut] w fun e w' => e = .returned (.tuple #[]) ∧
      St S w w' [RefB b x (.slice none 0 0) (-1) z] := by
  have hs := H.blk 0 rfl
  have c1 := cell_blk' hs (i := 1) rfl
  have c2 := cell_blk' hs (i := 2) rfl
  have f1 := free_blk hs 1
  have f2 := free_blk hs 2
  clear hs
  go_enter Try.func20, Try.ntmps20
  go_wp2
  refine wp_loop_rounds 1 ?_
  rw [rounds_succ]
  go_wp2
  go_end0
  exact ⟨rfl, ((St.refl H).set 0 rfl 1 _).set 0 rfl 2 _⟩

abbrev RefMeterB (b bs : Nat) (n most : Int) : SP := Blk b #[.pointer (some ⟨bs, 0, none⟩), .int .i64 n, .int .i64 most] 36

set_option maxHeartbeats 400000 in
theorem ref_raise {bm bs : Nat} {n most c : Int} {x y z : Value} {w : World} {S : Nat → Prop} (hn0 : 0 ≤ n) (hmo : most ≤ 1099511627776) (hle : n ≤ most) (h1 : c ≤ 9223372036854775807)
    (H : Sep w [RefMeterB bm bs n most, RefB bs x y c z] S) :
    Calls Try.prog 17 #[.pointer (some ⟨bm, 0, none⟩)] w fun e w' => e = .returned (.int .i64 (raiseE n most c)) ∧
      St S w w' [RefMeterB bm bs (raiseN n most c) most, RefB bs x y (raiseC n most c) z] := by
  have hm := H.blk 0 rfl
  have c0 := cell_blk' hm (i := 0) rfl
  have c1 := cell_blk' hm (i := 1) rfl
  have c2 := cell_blk' hm (i := 2) rfl
  clear hm
  by_cases h0 : most ≤ n
  · have hfin : raiseE n most c = 33 ∧ raiseN n most c = n ∧ raiseC n most c = c := by simp [raiseE, raiseN, raiseC, h0]
    rw [hfin.1, hfin.2.1, hfin.2.2]
    clear hfin
    obtain rfl : n = most := by omega
    go_enter Try.func17, Try.ntmps17
    go_wp2
    go_quiet (fail)
    go_wp2
    go_ret
    exact ⟨rfl, (St.refl H).drewN _⟩
  · have hd : (n == most) = false := by simp; omega
    have hfin : raiseE n most c = spendE c ∧ raiseC n most c = spendC c := by simp [raiseE, raiseC, h0]
    rw [hfin.1, hfin.2]
    clear hfin
    by_cases hc0 : c = 0
    · have hfin : raiseN n most c = n := by simp [raiseN, hc0]
      have he : ((spendE c) == 0) = false := by simp [spendE, hc0]
      rw [hfin]
      clear hfin hc0
      go_enter Try.func17, Try.ntmps17
      go_wp2
      go_quiet (fail)
      go_wp2_with (go_at_call 47; obtain ⟨S1, H1, G1⟩ := St.call (l1 := [_]) (((St.refl H).drewN nq).front 1 rfl); refine (ref_spend h1 H1).mono ?_; rintro e w' ⟨rfl, H2⟩; have H3 := G1 _ _ H2)
      go_ret
      exact ⟨rfl, H3.front 1 rfl⟩
    · have hfin : raiseN n most c = n + 1 := by simp [raiseN, hc0, h0]
      have he : ((spendE c) == 0) = true := by simp [spendE, hc0]
      rw [hfin]
      clear hfin hc0
      go_enter Try.func17, Try.ntmps17
      go_wp2
      go_quiet (fail)
      go_wp2_with (go_at_call 47; obtain ⟨S1, H1, G1⟩ := St.call (l1 := [_]) (((St.refl H).drewN nq).front 1 rfl); refine (ref_spend h1 H1).mono ?_; rintro e w' ⟨rfl, H2⟩; have H3 := G1 _ _ H2; have c2 := H3.cell 1 1 rfl rfl; have f2 := H3.free 1 1 rfl)
      go_ret
      exact ⟨rfl, (H3.front 1 rfl).set 0 rfl 1 _⟩

end Go.Proofs.Ytbikjhmdpgoofaa
