/- The walks of the document's Split and of its numbers. Condition: lengths. -/
import Derived.Test.YtaafedpjifaghaaDoorGp2
import Derived.Test.YtaafedpjifaghaaDoorGp4
import Derived.Test.YtaafedpjifaghaaDoorRtA
import Derived.Deep.CutBlock
set_option linter.unusedVariables false
set_option linter.unusedSimpArgs false
namespace Go.Proofs.YtaafedpjifaghaaDoor
open Go.RowKit

theorem txs_size (bs : List UInt8) : (⟨bs.toArray⟩ : ByteArray).size = bs.length := by simp [ByteArray.size]
theorem txs_at (bs : List UInt8) (i : Nat) (h : i < (⟨bs.toArray⟩ : ByteArray).size) {c : UInt8} (hx : bs[i]? = some c) : (⟨bs.toArray⟩ : ByteArray)[i] = c := (List.getElem?_eq_some_iff.1 hx).2
theorem txs_cat (a b : List UInt8) : (⟨a.toArray⟩ : ByteArray) ++ ⟨b.toArray⟩ = ⟨(a ++ b).toArray⟩ := ByteArray.mk_append_mk ..
theorem txs_eq (a b : List UInt8) : ((⟨a.toArray⟩ : ByteArray) == ⟨b.toArray⟩) = decide (a = b) := by
  show (a.toArray == b.toArray) = decide (a = b)
  rw [Bool.eq_iff_iff]
  simp
theorem txs_part (bs : List UInt8) (a n : Nat) : (⟨bs.toArray⟩ : ByteArray).extract a (a + n) = ⟨((bs.drop a).take n).toArray⟩ := by
  apply ByteArray.ext
  rw [ByteArray.data_extract]
  apply Array.ext'
  rw [Array.toList_extract, List.extract_eq_take_drop]
  simp
theorem txs_from (bs : List UInt8) (a : Nat) : (⟨bs.toArray⟩ : ByteArray).extract a (⟨bs.toArray⟩ : ByteArray).size = ⟨(bs.drop a).toArray⟩ := by
  apply ByteArray.ext
  rw [ByteArray.data_extract]
  apply Array.ext'
  rw [Array.toList_extract, List.extract_eq_take_drop, txs_size, List.take_of_length_le (by simp)]
theorem texts_one (l : List (List UInt8)) (w : List UInt8) : texts (l ++ [w]) = texts l ++ [textV w] := by simp [texts]

/-- The pieces of a text, cut at a text: fuel, the piece begun, what is left. -/
def splR (a : List UInt8) : Nat → List UInt8 → List UInt8 → List (List UInt8)
  | 0, w, _ => [w]
  | _ + 1, w, [] => [w]
  | f + 1, w, c :: r => if a.length ≤ (c :: r).length ∧ (c :: r).take a.length = a then w :: splR a f [] ((c :: r).drop a.length) else splR a f (w ++ [c]) r
def splA (a s : List UInt8) : List (List UInt8) := splR a s.length [] s
theorem splR_fuel {a : List UInt8} (ha : a ≠ []) : ∀ (f f' : Nat) (w s : List UInt8), s.length ≤ f → s.length ≤ f' → splR a f w s = splR a f' w s
  | 0, 0, _, _, _, _ => rfl
  | 0, f' + 1, w, s, h, _ => by
    obtain rfl := List.length_eq_zero_iff.1 (Nat.le_zero.1 h)
    rfl
  | f + 1, 0, w, s, _, h => by
    obtain rfl := List.length_eq_zero_iff.1 (Nat.le_zero.1 h)
    rfl
  | f + 1, f' + 1, w, [], _, _ => rfl
  | f + 1, f' + 1, w, c :: r, h, h' => by
    have hpos : 0 < a.length := List.length_pos_iff.2 ha
    simp only [List.length_cons] at h h'
    unfold splR
    split
    · rw [splR_fuel ha f f' [] ((c :: r).drop a.length) (by rw [List.length_drop]; simp only [List.length_cons]; omega) (by rw [List.length_drop]; simp only [List.length_cons]; omega)]
    · exact splR_fuel ha f f' (w ++ [c]) r (by omega) (by omega)
theorem splR_hit {a : List UInt8} (ha : a ≠ []) {s : List UInt8} {i : Nat} (hi : i < s.length) (w : List UInt8) (h1 : i + a.length ≤ s.length) (h2 : (s.drop i).take a.length = a) :
    splR a (s.length - i) w (s.drop i) = w :: splR a (s.length - (i + a.length)) [] (s.drop (i + a.length)) := by
  have hd := List.drop_eq_getElem_cons hi
  have e : s.length - i = (s.length - i - 1) + 1 := by omega
  have hpos : 0 < a.length := List.length_pos_iff.2 ha
  rw [e, hd, splR, ← hd, if_pos ⟨by rw [List.length_drop]; omega, h2⟩, List.drop_drop]
  rw [splR_fuel ha _ (s.length - (i + a.length)) [] _ (by rw [List.length_drop]; omega) (by rw [List.length_drop]; omega)]
theorem splR_miss {a : List UInt8} {s : List UInt8} {i : Nat} (hi : i < s.length) (w : List UInt8) (h : ¬ (i + a.length ≤ s.length ∧ (s.drop i).take a.length = a)) :
    splR a (s.length - i) w (s.drop i) = splR a (s.length - (i + 1)) (w ++ [s[i]]) (s.drop (i + 1)) := by
  have hd := List.drop_eq_getElem_cons hi
  have e : s.length - i = (s.length - (i + 1)) + 1 := by omega
  rw [e, hd, splR, ← hd, if_neg (by rw [List.length_drop]; intro hc; exact h ⟨by omega, hc.2⟩)]
theorem splR_end (a s w : List UInt8) : splR a (s.length - s.length) w (s.drop s.length) = [w] := by
  rw [Nat.sub_self]; rfl

set_option maxHeartbeats 4000000 in
set_option maxRecDepth 100000 in
theorem ref_split {s a : List UInt8} (ha : a ≠ []) (hl : s.length ≤ 1000000000) (hal : a.length ≤ 1000) (w : World) :
    Calls Tryd.prog 42 #[textV s, textV a] w fun e w' => ∃ v, e = .returned v ∧ St (fun _ => False) w w' [Row 9 1 v (splA a s).length (texts (splA a s))] := by
  have H0 : St (fun _ => False) w w [Row 9 1 (.slice none 0 0) 0 []] := (St.nil _ w).row_nil 9 1
  have hsz := txs_size s
  have hasz := txs_size a
  have hpos : 0 < a.length := List.length_pos_iff.2 ha
  unfold textV
  go_enter Tryd.func42, Tryd.ntmps42
  go_upto_block 1 with (fail)
  go_loopw [5, 6, 7] (fun o x j wr => ∃ (i n : Nat) (done : List (List UInt8)) (W : List UInt8), i ≤ s.length ∧ n = done.length ∧ n ≤ i ∧ W.length ≤ i ∧ x = .string ⟨W.toArray⟩ ∧ j = .int .i64 i ∧ done ++ splR a (s.length - i) W (s.drop i) = splA a s ∧ St (fun _ => False) w wr [Row 9 1 o n (texts done)]) (fun _ _ j _ => s.length - (intOf j).toNat)
  case atStart => exact ⟨0, 0, [], [], by omega, rfl, by omega, by simp, rfl, rfl, by simp [splA], H0⟩
  case round =>
    clear H0
    obtain ⟨i, n, done, W, hi, hn, hni, hWi, rfl, rfl, hT, HL⟩ := hrel
    obtain ⟨ao, co, rfl, _, _⟩ := slice_form' (HL.row 0 rfl)
    by_cases hlt : i < s.length
    · have hlt1 : decide ((i : Int) < (s.length : Int)) = true := by simp; omega
      have hw : IntKind.i64.wrap ((i : Int) + (a.length : Int)) = ((i + a.length : Nat) : Int) := by rw [IntKind.wrap_i64]; omega
      have hw1 : IntKind.i64.wrap ((i : Int) + 1) = ((i + 1 : Nat) : Int) := by rw [IntKind.wrap_i64]; omega
      have hp1 := txs_part s i 1
      have hone : (s.drop i).take 1 = [s[i]] := by rw [List.drop_eq_getElem_cons hlt]; rfl
      rw [hone] at hp1
      have hcat := txs_cat W [s[i]]
      have hW1 : W.length + 1 ≤ 9223372036854775807 := by omega
      by_cases h1 : i + a.length ≤ s.length
      · have z1 : decide (((i + a.length : Nat) : Int) ≤ (s.length : Int)) = true := by simp; omega
        have hpa := txs_part s i a.length
        have hbd : i + a.length ≤ (⟨s.toArray⟩ : ByteArray).size := by rw [hsz]; exact h1
        by_cases h2 : (s.drop i).take a.length = a
        · rw [splR_hit ha hlt W h1 h2] at hT
          have hTh := Lib.hid hT
          have heq : ((s.drop i).take a.length == a) = true := by simpa using h2
          have hnh := Lib.hid hn
          clear hT h2 hn
          go_wp2_with (at_builtin; go_must (refine St.list_app (HL.skip _) 0 rfl rfl (.tmp 30) (.tmp 32) 64 rfl Tryd.underlying64 Tryd.info9 (by decide) rfl [.string ⟨W.toArray⟩] rfl rfl (new_cells #[.string ⟨W.toArray⟩] _) (by simp [Value.oneCell']) (by omega) (by omega) ?_; intro g5 cap5 w5 H5 hz5))
          go_roundw
          case rel =>
            refine ⟨i + a.length, n + 1, done ++ [W], [], by omega, by have := hnh.out; simp; omega, by omega, by simp, rfl, by go_num, ?_, ?_⟩
            · rw [← hTh.out]; simp
            · rw [texts_one]; exact H5
          case measure => simp [intOf]; omega
        · rw [splR_miss hlt W (fun h => h2 h.2)] at hT
          have hTh := Lib.hid hT
          have heq : ((s.drop i).take a.length == a) = false := by simpa using h2
          have hnh := Lib.hid hn
          clear hT h2 hn
          go_wp2
          go_roundw
          case rel => exact ⟨i + 1, n, done, W ++ [s[i]], by omega, hnh.out, by omega, by simp; omega, rfl, by go_num, hTh.out, HL⟩
          case measure => simp [intOf]; omega
      · have z1 : decide (((i + a.length : Nat) : Int) ≤ (s.length : Int)) = false := by simp; omega
        rw [splR_miss hlt W (fun h => h1 h.1)] at hT
        have hTh := Lib.hid hT
        have hnh := Lib.hid hn
        clear hT hn
        go_wp2
        go_roundw
        case rel => exact ⟨i + 1, n, done, W ++ [s[i]], by omega, hnh.out, by omega, by simp; omega, rfl, by go_num, hTh.out, HL⟩
        case measure => simp [intOf]; omega
    · obtain rfl : i = s.length := by omega
      rw [splR_end] at hT
      have hTh := Lib.hid hT
      have hnh := Lib.hid hn
      clear hT hn
      go_wp2_with (at_builtin; go_must (refine St.list_app (HL.skip _) 0 rfl rfl (.tmp 47) (.tmp 49) 64 rfl Tryd.underlying64 Tryd.info9 (by decide) rfl [.string ⟨W.toArray⟩] rfl rfl (new_cells #[.string ⟨W.toArray⟩] _) (by simp [Value.oneCell']) (by omega) (by omega) ?_; intro g5 cap5 w5 H5 hz5))
      go_ret
      rw [← hTh.out, texts_one, List.length_append, ← hnh.out]
      exact ⟨_, rfl, H5⟩

end Go.Proofs.YtaafedpjifaghaaDoor
