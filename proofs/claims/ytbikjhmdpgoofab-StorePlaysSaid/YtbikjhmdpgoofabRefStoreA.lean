/- The walks of the reference's store: a block of noughts, a new store. No condition but the number of blocks. -/
import Derived.Test.YtbikjhmdpgoofabSep
namespace Go.Proofs.Ytbikjhmdpgoofab
open Go.RowKit

theorem Try.info3 : (Try.prog.info? 3).map (fun i => (i.zero, i.size, i.bytes)) = some (some (.int .i64 0), 1, 8) := by kernel_rfl
theorem Try.info9 : (Try.prog.info? 9).map (fun i => (i.zero, i.size, i.bytes)) = some (some (.string ⟨#[]⟩), 1, 16) := by kernel_rfl

def nil128 : ByteArray := ⟨(List.replicate 128 (0 : UInt8)).toArray⟩
def zs (k : Nat) : ByteArray := ⟨(List.replicate k (0 : UInt8)).toArray⟩
theorem zs_zero : zs 0 = ⟨#[]⟩ := rfl
theorem zs_succ (k : Nat) : zs k ++ ⟨#[0]⟩ = zs (k + 1) := by
  unfold zs
  rw [show (⟨#[0]⟩ : ByteArray) = ⟨([0] : List UInt8).toArray⟩ from rfl, ByteArray.mk_append_mk, List.replicate_succ']
theorem size_zs (k : Nat) : (zs k).size = k := by simp [zs, ByteArray.size]

set_option maxHeartbeats 400000 in
set_option maxRecDepth 100000 in
theorem ref_noughts (w : World) : Calls Try.prog 62 #[] w fun e w' => e = .returned (.string nil128) ∧ w = w' := by
  go_enter Try.func62, Try.ntmps62
  go_wp2
  go_loop [1, 2] (fun s i => ∃ k : Nat, k ≤ 128 ∧ i = .int .i64 k ∧ s = .string (zs k)) (fun _ i => 128 - (intOf i).toNat)
  case atStart => exact ⟨0, by omega, rfl, rfl⟩
  case round =>
    obtain ⟨k, hk, rfl, rfl⟩ := hrel
    have hz : (zs k).size ≤ 128 := by rw [size_zs]; exact hk
    by_cases hlt : k < 128
    · go_wp2
      go_round
      case rel => exact ⟨k + 1, by omega, by go_num, by rw [zs_succ]⟩
      case measure => simp [intOf]; omega
    · obtain rfl : k = 128 := by omega
      clear hz
      go_wp2
      go_ret
      exact ⟨rfl, rfl⟩

set_option maxHeartbeats 1000000 in
set_option maxRecDepth 100000 in
theorem ref_new (n : Nat) (hn : n ≤ 4096) (w : World) : Calls Try.prog 13 #[.int .i64 n] w fun e w' => ∃ b vl vc, e = .returned (.pointer (some ⟨b, 0, none⟩)) ∧
    St (fun _ => False) w w' [Blk b #[vl, .slice none 0 0, .int .i64 (-1), vc] 41, Row 9 1 vl n (List.replicate n (.string nil128)), Row 3 1 vc n (List.replicate n (.int .i64 0))] := by
  go_enter Try.func13, Try.ntmps13
  go_wp2
  go_loopw [4] (fun i wr => ∃ (k : Nat) (vl vc : Value), k ≤ n ∧ i = .int .i64 k ∧ St (fun _ => False) w wr [Blk w.heap.size #[vl, .slice none 0 0, .int .i64 (-1), vc] 41, Row 9 1 vl k (List.replicate k (.string nil128)), Row 3 1 vc k (List.replicate k (.int .i64 0))])
     (fun i _ => n - (intOf i).toNat)
  case atStart => exact ⟨0, _, _, by omega, rfl, (((St.nil _ _).row_nil 3 1).row_nil 9 1).alloc _ _⟩
  case round =>
    obtain ⟨k, vl, vc, hk, rfl, H⟩ := hrel
    by_cases hlt : k < n
    · have c0 := H.cell 0 0 rfl rfl
      have hb := H.blk_lt 0 rfl
      go_wp2
      go_region_law (first
        | (go_simp; go_at_call 62; refine (ref_noughts _).mono ?_; rintro e w' ⟨rfl, rfl⟩)
        | (refine St.step_app (H.skip _).drew 1 rfl rfl (.tmp 16) (.tmp 18) 37 rfl Try.underlying37 Try.info9 (by decide) rfl [.string nil128] rfl rfl (new_cells #[.string nil128] _) (by simp [Value.oneCell']) (by omega) (by omega) ?_; intro g cap w1 H1 hz1; have c1 := H1.cell 0 0 rfl rfl; have f1 := H1.free 0 0 rfl))
      all_goals
        have H2 : St _ _ _ [_, _, _] := H1.set 0 rfl 0 (.slice (some ⟨g, 0, none⟩) (k + 1) cap)
        clear H H1 c1 f1 hz1
        have c2 := H2.cell 0 3 rfl rfl
        have hb2 := H2.blk_lt 0 rfl
        go_wp2_with (at_builtin; go_must (refine St.list_app (H2.skip _) 2 rfl rfl (.tmp 26) (.tmp 27) 39 rfl Try.underlying39 Try.info3 (by decide) rfl [.int .i64 0] rfl rfl (new_at (by simp) #[.int .i64 0] _) (by simp [Value.oneCell']) (by omega) (by omega) ?_; intro g2 cap2 w3 H3 hz3; have c3 := H3.cell 0 3 rfl rfl; have f3 := H3.free 0 3 rfl))
        go_roundw
        case rel => exact ⟨k + 1, _, _, by omega, by go_num, by rw [List.replicate_succ', List.replicate_succ']; exact H3.set 0 rfl 3 _⟩
        case measure => simp [intOf]; omega
    · obtain rfl : k = n := by omega
      go_wp2
      go_ret
      exact ⟨_, vl, vc, rfl, H⟩

end Go.Proofs.Ytbikjhmdpgoofab
