/- The walks of the document's Name and of its windows' Right. No condition but lengths. -/
import Derived.Test.YtaafedpjifaghaaDoorRtC
import Derived.Test.YtaafedpjifaghaaDoorWdM
import Derived.Test.YtaafedpjifaghaaDoorGp3
import Derived.Test.YtaafedpjifaghaaDoorGp4
set_option linter.unusedVariables false
set_option linter.unusedSimpArgs false
namespace Go.Proofs.YtaafedpjifaghaaDoor
open Go.RowKit

theorem doc_all_take {bs : List UInt8} {i : Nat} {c : UInt8} {p : UInt8 → Bool} (h : bs[i]? = some c) : (bs.take (i + 1)).all p = ((bs.take i).all p && p c) := by
  rw [take_snoc' h, List.all_append]
  simp
theorem doc_all_false {bs : List UInt8} {i : Nat} {c : UInt8} {p : UInt8 → Bool} (h : bs[i]? = some c) (hp : p c = false) : bs.all p = false := by
  rw [List.all_eq_false]
  exact ⟨c, List.mem_of_getElem? h, by simp [hp]⟩
set_option maxHeartbeats 1000000 in
set_option maxRecDepth 100000 in
theorem doc_name (bs : List UInt8) (hl : bs.length ≤ 9223372036854775807) (w : World) : Calls Tryd.prog 99 #[textV bs] w fun e w' => e = .returned (.bool (nameB bs)) ∧ w' = w := by
  have hsz := txs_size bs
  unfold textV
  go_enter Tryd.func99, Tryd.ntmps99
  go_upto_block 1 with (fail)
  go_loopw [3] (fun j wr => ∃ i : Nat, i ≤ bs.length ∧ j = .int .i64 i ∧ (bs.take i).all evSign = true ∧ wr = w) (fun j _ => bs.length - (intOf j).toNat)
  case atStart => exact ⟨0, by omega, rfl, by simp, rfl⟩
  case round =>
    obtain ⟨i, hi, rfl, ha, rfl⟩ := hrel
    by_cases hlt : i < bs.length
    · obtain ⟨c, hx⟩ : ∃ c, bs[i]? = some c := ⟨_, List.getElem?_eq_getElem hlt⟩
      have hc0 := txs_at bs i (by rw [hsz]; omega) hx
      have h2 := doc_all_take (p := evSign) hx
      rw [ha, Bool.true_and] at h2
      have h3 : evSign c = false → nameB bs = false := fun h => by unfold nameB; rw [doc_all_false hx h, Bool.and_false]
      have hes : evSign c = ((decide (97 ≤ c.toNat) && decide (c.toNat ≤ 122)) || (decide (48 ≤ c.toNat) && decide (c.toNat ≤ 57)) || c.toNat == 45) := rfl
      clear hx ha
      obtain ⟨n, hn⟩ : ∃ n, c.toNat = n := ⟨_, rfl⟩
      rw [hn] at hes
      have key : ∃ x1 x2 x3 x4 x5 : Bool, decide ((n : Int) < 97) = x1 ∧ decide ((122 : Int) < n) = x2 ∧ decide ((n : Int) < 48) = x3 ∧ decide ((57 : Int) < n) = x4 ∧ ((n : Int) == 45) = x5 ∧
          ((x1 = true ∧ x3 = true ∧ x5 = true ∧ evSign c = true) ∨ (x1 = true ∧ x3 = true ∧ x5 = false ∧ evSign c = false) ∨ (x1 = true ∧ x3 = false ∧ x4 = true ∧ x5 = false ∧ evSign c = false) ∨ (x1 = true ∧ x3 = false ∧ x4 = false ∧ evSign c = true) ∨ (x1 = false ∧ x2 = true ∧ x3 = false ∧ x4 = true ∧ x5 = false ∧ evSign c = false) ∨ (x1 = false ∧ x2 = false ∧ evSign c = true)) := by
        refine ⟨_, _, _, _, _, rfl, rfl, rfl, rfl, rfl, ?_⟩
        rw [hes]
        simp
        omega
      obtain ⟨x1, x2, x3, x4, x5, z1, z2, z3, z4, z5, hk⟩ := key
      have g5 : ((n : Int) != 45) = !x5 := by rw [bne, z5]
      clear hes
      rcases hk with ⟨rfl, rfl, rfl, h⟩ | ⟨rfl, rfl, rfl, h⟩ | ⟨rfl, rfl, rfl, rfl, h⟩ | ⟨rfl, rfl, rfl, h⟩ | ⟨rfl, rfl, rfl, rfl, rfl, h⟩ | ⟨rfl, rfl, h⟩
      case' inl => skip
      case' inr.inr.inr.inl => skip
      all_goals
        first
        | (have h3 := Lib.hid (h3 h)
           clear h2 h
           go_wp2
           go_ret
           rw [h3.out]
           exact ⟨rfl, rfl⟩)
        | (rw [h] at h2
           clear h3 h
           go_wp2
           go_roundw
           case rel => exact ⟨i + 1, by omega, by go_num, h2, by first | rfl | trivial⟩
           case measure => simp [intOf]; omega)
    · obtain rfl : i = bs.length := by omega
      rw [List.take_length] at ha
      have hn : nameB bs = (!bs.isEmpty && decide (bs.length ≤ 16)) := by unfold nameB; rw [ha, Bool.and_true]
      have hnh := Lib.hid hn
      clear ha hn
      by_cases h1 : 1 ≤ bs.length
      · have z1 : decide ((1 : Int) ≤ bs.length) = true := by simp; omega
        go_wp2
        go_ret
        rw [hnh.out]
        refine ⟨ret_bool ?_, rfl⟩
        cases bs with
        | nil => simp at h1
        | cons x r => rw [Bool.eq_iff_iff]; simp; omega
      · obtain rfl : bs = [] := List.eq_nil_of_length_eq_zero (by omega)
        go_wp2
        go_ret
        rw [hnh.out]
        exact ⟨rfl, rfl⟩

set_option maxHeartbeats 2000000 in
set_option maxRecDepth 100000 in
theorem doc_wright (x : Wd) (hx : x.fits) (w : World) : Calls Tryd.prog 88 #[.agg #[.string ⟨x.key.toArray⟩, .int .i64 x.frm, .int .i64 x.to]] w fun e w' => e = .returned (.bool x.right) ∧ Below w.heap.size w w' := by
  obtain ⟨key, f, t⟩ := x
  have kn := fun w' => doc_name key hx.1 w'
  have hr0 : Wd.right ⟨key, f, t⟩ = (nameB key && decide (0 ≤ f) && decide (f ≤ 1099511627776) && decide (f < t) && decide (t ≤ 4398046511104)) := rfl
  obtain ⟨nm, hnm⟩ : ∃ nm, nameB key = nm := ⟨_, rfl⟩
  rw [hnm] at kn hr0
  clear hnm
  have H : St (fun _ => False) w _ [_] := (St.nil (fun _ => False) w).allocAt rfl #[.string ⟨key.toArray⟩, .int .i64 f, .int .i64 t] 110
  have hcs : ∃ z0 z1 z2 z3 : Bool, decide (0 ≤ f) = z0 ∧ decide (f ≤ 1099511627776) = z1 ∧ decide (f < t) = z2 ∧ decide (t ≤ 4398046511104) = z3 := ⟨_, _, _, _, rfl, rfl, rfl, rfl⟩
  obtain ⟨z0, z1, z2, z3, e0, e1, e2, e3⟩ := hcs
  rw [e0, e1, e2, e3] at hr0
  have hr := Lib.hid hr0
  unfold textV at kn
  simp only
  clear hr0 hx
  go_enter Tryd.func88, Tryd.ntmps88
  go_upto_region 1 with (fail)
  obtain ⟨b, hb⟩ : ∃ b, w.heap.size = b := ⟨_, rfl⟩
  obtain ⟨w1, hw1⟩ : ∃ w1, w.alloc (.cells #[.string ⟨key.toArray⟩, .int .i64 f, .int .i64 t] 110) = w1 := ⟨_, rfl⟩
  rw [hw1, hb] at H
  rw [hw1]
  simp only [hb]
  have H : St (fun _ => False) w w1 [Blk b #[.string ⟨key.toArray⟩, .int .i64 f, .int .i64 t] 110] := H
  clear hb hw1
  have c0 := H.cell 0 0 rfl rfl
  have c1 := H.cell 0 1 rfl rfl
  have c2 := H.cell 0 2 rfl rfl
  have hk : nm = false ∨ (nm = true ∧ z0 = false) ∨ (nm = true ∧ z0 = true ∧ z1 = false) ∨ (nm = true ∧ z0 = true ∧ z1 = true ∧ z2 = false) ∨ (nm = true ∧ z0 = true ∧ z1 = true ∧ z2 = true) := by
    cases nm <;> cases z0 <;> cases z1 <;> cases z2 <;> simp
  rcases hk with rfl | ⟨rfl, rfl⟩ | ⟨rfl, rfl, rfl⟩ | ⟨rfl, rfl, rfl, rfl⟩ | ⟨rfl, rfl, rfl, rfl⟩
  all_goals
    go_wp2_with (go_at_call 99; go_must (refine (kn _).mono ?_; rintro e w7 ⟨rfl, rfl⟩))
    go_ret
    rw [hr.out]
    exact ⟨ret_bool (by simp), H.below (Nat.le_refl _) (fun _ h => h.elim)⟩

end Go.Proofs.YtaafedpjifaghaaDoor
