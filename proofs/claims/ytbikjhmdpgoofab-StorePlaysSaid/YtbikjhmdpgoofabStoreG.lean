/- StoreLasts: a text of bytes; whole bytes of an op; what is asked first. Conditions: what is handed in can be read. -/
import Derived.Test.YtbikjhmdpgoofabStoreF
import Derived.Laws.BytesArg
namespace Go.Proofs.Ytbikjhmdpgoofab
open Go.RowKit

def wholeOf (B : List UInt8) : List UInt8 := if B.length = 1 then B else (List.range 128).map fun i => B.getD (i % B.length) 0
def partOf (B : List UInt8) (k : Nat) : List UInt8 := (List.range 128).map fun i => if i < k then B.getD (i % B.length) 0 else 0

theorem partOf_zero (B : List UInt8) : partOf B 0 = List.replicate 128 0 := by
  unfold partOf
  rw [List.map_congr_left (g := fun _ => (0 : UInt8)) (fun i _ => by simp), List.map_const', List.length_range]
theorem partOf_succ (B : List UInt8) {k : Nat} (hk : k < 128) : partOf B (k + 1) = (partOf B k).set k (B.getD (k % B.length) 0) := by
  apply List.ext_getElem?
  intro i
  rw [List.getElem?_set]
  unfold partOf
  by_cases hi : i < 128
  · simp only [List.getElem?_map, List.getElem?_range hi, Option.map_some, List.length_map, List.length_range, hk]
    by_cases h : k = i
    · subst h; simp
    · simp only [h, if_false]
      congr 1
      by_cases h2 : i < k
      · rw [if_pos h2, if_pos (by omega)]
      · rw [if_neg h2, if_neg (by omega)]
  · rw [List.getElem?_eq_none (by simp; omega)]
    have : k ≠ i := by omega
    rw [if_neg this, List.getElem?_eq_none (by simp; omega)]
theorem length_partOf (B : List UInt8) (k : Nat) : (partOf B k).length = 128 := by simp [partOf]

abbrev opCells (kind at' n : Int) (bv kv : Value) : Array Value := #[.int .i64 kind, .int .i64 at', .int .i64 n, bv, kv]

set_option maxHeartbeats 2000000 in
set_option maxRecDepth 100000 in
theorem op_whole {kind at' n : Int} {Bv kv : Value} {B : List UInt8} {w : World} (hv : BytesRO (fun _ => False) w Bv B) (hB : B.length ≤ 9223372036854775807) :
    Calls Try.prog 79 #[.agg (opCells kind at' n Bv kv)] w fun e w' => ∃ v, e = .returned v ∧ ((B.length = 1 ∧ v = Bv ∧ St (fun _ => False) w w' []) ∨ (B.length ≠ 1 ∧ ∃ g, v = .slice (some ⟨g, 0, none⟩) 128 128 ∧ St (fun _ => False) w w' [Blk g (bvs (wholeOf B)).toArray 5])) := by
  obtain ⟨ad, cap, rfl, hcap, hcell⟩ := hv
  obtain ⟨i5, hi5, hz5, hs5, hb5⟩ := info_parts Try.info5
  have hm1 := fun w => run_make (P := Try.prog) w 29 5 i5 _ Try.underlying29 hi5 hz5 .i64 .i64 128 128 (by omega) (by omega) (by rw [hb5]; omega) (by omega)
  have hmade : madeCells (Value.int .u8 0).cells ((128 : Int).toNat * i5.size) = (bvs (partOf B 0)).toArray := by
    rw [made_all (.int .u8 0) _ _ (fun i hi => by
      have hi' : i = 0 := by simpa [Value.cells] using hi
      subst hi'; simp [Value.cells]) (by simp [Value.cells]), partOf_zero, hs5]
    simp [bvs, bv]
  rw [hmade] at hm1
  simp only [show (128 : Int).toNat = 128 from rfl] at hm1
  obtain ⟨p0, hp0⟩ : ∃ p0, p0 = partOf B 0 := ⟨_, rfl⟩
  rw [← hp0] at hm1
  have hp1 := Lib.hid hp0
  clear hmade hi5 hz5 hs5 hb5 hp0
  go_enter Try.func79, Try.ntmps79
  go_wp2
  have H0 : St (fun _ => False) w _ [_, _] := ((St.nil (fun _ => False) w).allocAt (B := w.heap.size) rfl (opCells kind at' n (.slice ad B.length cap) kv) 86).allocAt (B := w.heap.size + 1) (by simp) (bvs p0).toArray 5
  rw [hp1.out] at H0
  go_loopw [4, 8] (fun _ j wr => ∃ k : Nat, k ≤ 128 ∧ j = .int .i64 k ∧ St (fun _ => False) w wr [Blk (w.heap.size + 1) (bvs (partOf B k)).toArray 5, Blk w.heap.size (opCells kind at' n (.slice ad B.length cap) kv) 86])
    (fun _ j _ => 128 - (intOf j).toNat)
  case atStart => exact ⟨0, by omega, rfl, by rw [hp1.out]; exact H0⟩
  case round =>
    clear H0 hm1
    obtain ⟨k, hk, rfl, HL⟩ := hrel
    have c0 := HL.cell 1 3 rfl rfl
    by_cases hlt : k < 128
    · have hps := Lib.hid (partOf_succ B hlt)
      by_cases h0 : 0 < B.length
      · have hmod : k % B.length < B.length := Nat.mod_lt _ h0
        obtain ⟨b, o, rfl, hb, _, hc⟩ := hcell (by rintro rfl; simp at h0)
        obtain ⟨x, hx⟩ : ∃ x, B[k % B.length]? = some x := ⟨_, List.getElem?_eq_getElem hmod⟩
        have hcx : wr.cell? ⟨b, o + k % B.length, none⟩ = some (.int .u8 (x.toNat : Int)) := by
          rw [(HL.below (B := w.heap.size) (Nat.le_refl _) (fun _ h => h.elim)).cell (p := ⟨b, o + k % B.length, none⟩) hb, hc _ hmod]
          simp only [List.getElem?_eq_getElem hmod, Option.some.injEq] at hx
          rw [hx]; rfl
        have hx2 := Lib.hid (show B.getD (k % B.length) 0 = x from by simp [List.getD, hx])
        have hgt : decide ((0 : Int) < B.length) = true := by simp; omega
        clear hcell hc hx
        go_wp2
        have f1 := HL.free 0 k rfl
        have c1 := HL.cell 0 k rfl (v := bv ((partOf B k).getD k 0)) (by simp [bvs, List.getD, length_partOf, hlt])
        have em : ((k : Int).tmod (B.length : Int)) = (k : Int) % (B.length : Int) := Int.tmod_eq_emod_of_nonneg (by omega)
        have hBn : B ≠ [] := by rintro rfl; simp at h0
        have hm0 : 0 ≤ (k : Int) % (B.length : Int) := by omega
        have hm2 : (k : Int) % (B.length : Int) < B.length := by omega
        have hm3 : ((k : Int) % (B.length : Int)).toNat = k % B.length := by omega
        refine wp_tail 12 (by kernel_rfl) (by kernel_rfl) ?_
        simp only [List.take_succ_cons, List.take_zero, List.drop_succ_cons, List.drop_zero]
        still_step
        still_step
        still_step
        still_step
        still_step
        still_step
        still_step
        still_step
        still_step
        still_step
        still_step
        still_step
        refine wpStill_nil ?_
        go_wp2
        go_roundw
        case rel =>
          refine ⟨k + 1, by omega, by go_num, ?_⟩
          rw [hps.out, hx2.out]
          have H2 : St _ _ _ [_, _] := (HL.set 0 rfl k (.int .u8 (x.toNat : Int))).drew
          have e2 : (bvs (partOf B k)).toArray.setIfInBounds k (.int .u8 (x.toNat : Int)) = (bvs ((partOf B k).set k x)).toArray := by simp [bvs, List.map_set, bv]
          rw [e2] at H2
          exact H2
        case measure => simp [intOf]; omega
      · have hB0 : B = [] := List.eq_nil_of_length_eq_zero (by omega)
        have hgt : decide ((0 : Int) < B.length) = false := by simp; omega
        have hB2 := Lib.hid hB0
        clear hB0 hcell
        go_wp2
        go_roundw
        case rel =>
          refine ⟨k + 1, by omega, by go_num, ?_⟩
          rw [hps.out, hB2.out]
          have e : (partOf [] k).set k (List.getD [] (k % ([] : List UInt8).length) 0) = partOf [] k := by
            have e0 : ∀ j, partOf [] j = List.replicate 128 0 := fun j => by
              unfold partOf
              rw [List.map_congr_left (g := fun _ => (0 : UInt8)) (fun i _ => by split <;> simp [List.getD]), List.map_const', List.length_range]
            rw [e0]
            exact rep_set 128 k 0
          rw [e]
          rw [hB2.out] at HL
          exact HL
        case measure => simp [intOf]; omega
    · obtain rfl : k = 128 := by omega
      have hw : B.length ≠ 1 → partOf B 128 = wholeOf B := fun h => by
        unfold partOf wholeOf
        rw [if_neg h]
        apply List.map_congr_left
        intro i hi
        rw [if_pos (by simpa using hi)]
      by_cases h1 : B.length = 1
      · have e1 : ((B.length : Int) == 1) = true := by simp; omega
        have h2 := Lib.hid h1
        clear h1 hw hcell
        go_wp2
        go_ret
        exact ⟨_, rfl, .inl ⟨h2.out, rfl, HL.drop (l1 := [_, _])⟩⟩
      · have e1 : ((B.length : Int) == 1) = false := by simp; omega
        have h2 := Lib.hid h1
        have hw2 := Lib.hid (hw h1)
        clear h1 hw hcell
        go_wp2
        go_ret
        exact ⟨_, rfl, .inr ⟨h2.out, _, rfl, by rw [← hw2.out]; exact HL.take (l1 := [_])⟩⟩

end Go.Proofs.Ytbikjhmdpgoofab
