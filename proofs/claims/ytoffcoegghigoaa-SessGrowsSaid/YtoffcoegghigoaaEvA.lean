/- The walks of Name and Right: which names and items are right. No condition but lengths. -/
import Derived.Test.YtoffcoegghigoaaEvM
import Derived.Test.YtoffcoegghigoaaGen
import Derived.Test.YtoffcoegghigoaaApp
import Derived.Test.YtoffcoegghigoaaCalm
import Derived.Test.YtoffcoegghigoaaShelfIdx
import Derived.Test.YtoffcoegghigoaaRet
import Derived.Lib.Index
namespace Go.Proofs.Ytoffcoegghigoaa
open Go.RowKit

def signsL : List UInt8 := [97, 98, 99, 100, 101, 102, 103, 104, 105, 106, 107, 108, 109, 110, 111, 112, 113, 114, 115, 116, 117, 118, 119, 120, 121, 122, 48, 49, 50, 51, 52, 53, 54, 55, 56, 57, 45]
theorem signs_at (c : UInt8) : decide (Lib.indexByte signsL c < 0) = !evSign c := by
  have key : ∀ n : Fin 256, decide (Lib.indexByte signsL (UInt8.ofNat n.val) < 0) = !evSign (UInt8.ofNat n.val) := by decide +kernel
  have := key ⟨c.toNat, UInt8.toNat_lt c⟩
  simpa using this
theorem ev_text_size (bs : List UInt8) : (⟨bs.toArray⟩ : ByteArray).size = bs.length := by simp [ByteArray.size]
theorem ev_text_at (bs : List UInt8) (i : Nat) (h : i < (⟨bs.toArray⟩ : ByteArray).size) {c : UInt8} (hx : bs[i]? = some c) : (⟨bs.toArray⟩ : ByteArray)[i] = c := by
  have hi : i < bs.length := by rw [ev_text_size] at h; exact h
  rw [List.getElem?_eq_getElem hi] at hx
  exact Option.some.inj hx
theorem ev_all_take {bs : List UInt8} {i : Nat} {c : UInt8} {p : UInt8 → Bool} (h : bs[i]? = some c) : (bs.take (i + 1)).all p = ((bs.take i).all p && p c) := by
  rw [take_snoc' h, List.all_append]
  simp
theorem ev_all_false {bs : List UInt8} {i : Nat} {c : UInt8} {p : UInt8 → Bool} (h : bs[i]? = some c) (hp : p c = false) : bs.all p = false := by
  rw [List.all_eq_false]
  exact ⟨c, List.mem_of_getElem? h, by simp [hp]⟩

set_option maxHeartbeats 1000000 in
set_option maxRecDepth 100000 in
theorem ev_name (bs : List UInt8) (hl : bs.length ≤ 9223372036854775807) (w : World) : Calls Try.prog 72 #[textV bs] w fun e w' => e = .returned (.bool (nameB bs)) ∧ w' = w := by
  have hsz := ev_text_size bs
  unfold textV
  go_enter Try.func72, Try.ntmps72
  by_cases h0 : bs = []
  · subst h0
    go_wp2
    go_ret
    exact ⟨rfl, rfl⟩
  · have y1 : (bs == []) = false := by simpa using h0
    by_cases h16 : (16 : Int) < bs.length
    · have z1 : decide ((16 : Int) < (bs.length : Int)) = true := by simpa using h16
      have hn := Lib.hid (show nameB bs = false by unfold nameB; simp; omega)
      go_wp2
      go_ret
      rw [hn.out]
      exact ⟨rfl, rfl⟩
    · have z1 : decide ((16 : Int) < (bs.length : Int)) = false := by simpa using h16
      have hn := Lib.hid (show nameB bs = bs.all evSign by unfold nameB; simp [h0]; omega)
      go_upto_block 1 with (fail)
      go_loopw [13] (fun j wr => ∃ i : Nat, i ≤ bs.length ∧ j = .int .i64 i ∧ (bs.take i).all evSign = true ∧ wr = w) (fun j _ => bs.length - (intOf j).toNat)
      case atStart => exact ⟨0, by omega, rfl, by simp, rfl⟩
      case round =>
        obtain ⟨i, hi, rfl, ha, rfl⟩ := hrel
        by_cases hlt : i < bs.length
        · obtain ⟨c, hx⟩ : ∃ c, bs[i]? = some c := ⟨_, List.getElem?_eq_getElem hlt⟩
          have hc0 := ev_text_at bs i (by rw [hsz]; omega) hx
          have h2 := ev_all_take (p := evSign) hx
          rw [ha, Bool.true_and] at h2
          have hsg := signs_at c
          have kx := fun w' => strings_IndexByte ⟨signsL.toArray⟩ c.toNat w'
          have hcc : ((c.toNat : Int)).toNat.toUInt8 = c := by simp
          simp only [hcc] at kx
          obtain ⟨X, hX⟩ : ∃ X, Lib.indexByte signsL c = X := ⟨_, rfl⟩
          have kx2 : ∀ w', Calls Try.prog 88 #[.string ⟨signsL.toArray⟩, .int .u8 c.toNat] w' fun e w'' => e = .returned (.int .i64 X) ∧ w'' = w' := fun w' => by rw [← hX]; exact kx w'
          rw [hX] at hsg
          unfold signsL at kx2
          clear kx hX hcc
          by_cases hs : evSign c = true
          · rw [hs] at h2 hsg
            have hsg : decide (X < 0) = false := hsg
            clear hx ha hs
            go_wp2_with (go_at_call 88; go_must (refine (kx2 _).mono ?_; rintro e w7 ⟨rfl, rfl⟩))
            go_roundw
            case rel => exact ⟨i + 1, by omega, by go_num, h2, by first | rfl | trivial⟩
            case measure => simp [intOf]; omega
          · have hs' : evSign c = false := by simpa using hs
            have h3 := Lib.hid (ev_all_false hx hs')
            rw [hs'] at hsg
            have hsg : decide (X < 0) = true := hsg
            clear hx ha hs hs' h2
            go_wp2_with (go_at_call 88; go_must (refine (kx2 _).mono ?_; rintro e w7 ⟨rfl, rfl⟩))
            go_ret
            rw [hn.out, h3.out]
            exact ⟨rfl, rfl⟩
        · obtain rfl : i = bs.length := by omega
          rw [List.take_length] at ha
          have hah := Lib.hid ha
          clear ha
          go_wp2
          go_ret
          rw [hn.out, hah.out]
          exact ⟨rfl, rfl⟩

abbrev itmV (x : Itm) : Value := .agg #[.int .i64 x.kind, textV x.key, .int .i64 x.time, .int .i64 x.value]
abbrev itmC (x : Itm) : Array Value := #[.int .i64 x.kind, textV x.key, .int .i64 x.time, .int .i64 x.value]

set_option maxHeartbeats 1000000 in
set_option maxRecDepth 100000 in
theorem ev_right (x : Itm) (hx : x.fits) (w : World) : Calls Try.prog 83 #[itmV x] w fun e w' => e = .returned (.bool x.right) ∧ Below w.heap.size w w' := by
  obtain ⟨k, key, t, v⟩ := x
  have kn := fun w' => ev_name key hx.2.1 w'
  have H : St (fun _ => False) w (w.alloc (.cells #[.int .i64 k, textV key, .int .i64 t, .int .i64 v] 85)) [Blk w.heap.size #[.int .i64 k, textV key, .int .i64 t, .int .i64 v] 85] := (St.nil (fun _ => False) w).alloc _ _
  obtain ⟨w1, hw1⟩ : ∃ w1, w.alloc (.cells #[.int .i64 k, textV key, .int .i64 t, .int .i64 v] 85) = w1 := ⟨_, rfl⟩
  obtain ⟨b, hb⟩ : ∃ b, w.heap.size = b := ⟨_, rfl⟩
  have hr0 : Itm.right ⟨k, key, t, v⟩ = (decide (0 ≤ t) && decide (t ≤ 1099511627776) && (if k = 1 then nameB key && decide (-1099511627776 ≤ v) && decide (v ≤ 1099511627776) else if k = 2 then key.isEmpty && decide (v = 0) else false)) := rfl
  unfold itmV
  simp only
  go_enter Try.func83, Try.ntmps83
  go_upto_region 1 with (fail)
  rw [hw1, hb] at H
  try rw [hw1]
  try rw [hb]
  clear hw1 hb
  have c0 := H.cell 0 0 rfl rfl
  have c1 := H.cell 0 1 rfl rfl
  have c2 := H.cell 0 2 rfl rfl
  have c3 := H.cell 0 3 rfl rfl
  unfold textV at c1 kn
  by_cases t0 : t < 0
  · have hr := Lib.hid (show Itm.right ⟨k, key, t, v⟩ = false by rw [hr0, decide_eq_false (show ¬ 0 ≤ t by omega)]; rfl)
    have z0 : decide (t < 0) = true := by simpa using t0
    clear hr0
    go_wp2
    go_ret
    rw [hr.out]
    exact ⟨rfl, H.below (Nat.le_refl _) (fun _ h => h.elim)⟩
  · have z0 : decide (t < 0) = false := by simpa using t0
    by_cases t1 : 1099511627776 < t
    · have hr := Lib.hid (show Itm.right ⟨k, key, t, v⟩ = false by rw [hr0, decide_eq_false (show ¬ t ≤ 1099511627776 by omega), Bool.and_false]; rfl)
      have z1 : decide (1099511627776 < t) = true := by simpa using t1
      clear hr0
      go_wp2
      go_ret
      rw [hr.out]
      exact ⟨rfl, H.below (Nat.le_refl _) (fun _ h => h.elim)⟩
    · have z1 : decide (1099511627776 < t) = false := by simpa using t1
      rw [decide_eq_true (show 0 ≤ t by omega), decide_eq_true (show t ≤ 1099511627776 by omega), Bool.true_and, Bool.true_and] at hr0
      by_cases k1 : k = 1
      · subst k1
        rw [if_pos rfl] at hr0
        obtain ⟨nm, hnm⟩ : ∃ nm, nameB key = nm := ⟨_, rfl⟩
        rw [hnm] at kn hr0
        clear hnm
        cases nm with
        | false =>
          have hr := Lib.hid (hr0.trans rfl)
          clear hr0
          go_wp2_with (go_at_call 72; go_must (refine (kn _).mono ?_; rintro e w7 ⟨rfl, rfl⟩))
          go_ret
          rw [hr.out]
          exact ⟨rfl, H.below (Nat.le_refl _) (fun _ h => h.elim)⟩
        | true =>
          rw [Bool.true_and] at hr0
          by_cases v0 : -1099511627776 ≤ v
          · have z2 : decide (-1099511627776 ≤ v) = true := by simpa using v0
            rw [z2, Bool.true_and] at hr0
            by_cases v1 : v ≤ 1099511627776
            · have z3 : decide (v ≤ 1099511627776) = true := by simpa using v1
              rw [z3] at hr0
              have hr := Lib.hid hr0
              clear hr0
              go_wp2_with (go_at_call 72; go_must (refine (kn _).mono ?_; rintro e w7 ⟨rfl, rfl⟩))
              go_ret
              rw [hr.out]
              exact ⟨rfl, H.below (Nat.le_refl _) (fun _ h => h.elim)⟩
            · have z3 : decide (v ≤ 1099511627776) = false := by simpa using v1
              rw [z3] at hr0
              have hr := Lib.hid hr0
              clear hr0
              go_wp2_with (go_at_call 72; go_must (refine (kn _).mono ?_; rintro e w7 ⟨rfl, rfl⟩))
              go_ret
              rw [hr.out]
              exact ⟨rfl, H.below (Nat.le_refl _) (fun _ h => h.elim)⟩
          · have z2 : decide (-1099511627776 ≤ v) = false := by simpa using v0
            rw [z2, Bool.false_and] at hr0
            have hr := Lib.hid hr0
            clear hr0
            go_wp2_with (go_at_call 72; go_must (refine (kn _).mono ?_; rintro e w7 ⟨rfl, rfl⟩))
            go_ret
            rw [hr.out]
            exact ⟨rfl, H.below (Nat.le_refl _) (fun _ h => h.elim)⟩
      · have y1 : (k == 1) = false := by simpa using k1
        rw [if_neg k1] at hr0
        by_cases k2 : k = 2
        · subst k2
          rw [if_pos rfl] at hr0
          by_cases e0 : key = []
          · subst e0
            by_cases v0 : v = 0
            · subst v0
              have hr := Lib.hid (hr0.trans rfl)
              clear hr0
              go_wp2
              go_ret
              rw [hr.out]
              exact ⟨rfl, H.below (Nat.le_refl _) (fun _ h => h.elim)⟩
            · have y2 : (v == 0) = false := by simpa using v0
              have hr := Lib.hid (show Itm.right ⟨2, [], t, v⟩ = false by rw [hr0]; simpa using v0)
              clear hr0
              go_wp2
              go_ret
              rw [hr.out]
              exact ⟨rfl, H.below (Nat.le_refl _) (fun _ h => h.elim)⟩
          · have y3 : (key == []) = false := by simpa using e0
            have hr := Lib.hid (show Itm.right ⟨2, key, t, v⟩ = false by rw [hr0]; simp [e0])
            clear hr0
            go_wp2
            go_ret
            rw [hr.out]
            exact ⟨rfl, H.below (Nat.le_refl _) (fun _ h => h.elim)⟩
        · have y2 : (k == 2) = false := by simpa using k2
          rw [if_neg k2] at hr0
          have hr := Lib.hid hr0
          clear hr0
          go_wp2
          go_ret
          rw [hr.out]
          exact ⟨rfl, H.below (Nat.le_refl _) (fun _ h => h.elim)⟩

end Go.Proofs.Ytoffcoegghigoaa
