/- The walks of the small functions of words: escaped, sign, ends, Plain. No condition but a text's length. -/
import Derived.Test.YtoffcoegghigoaaLexM
import Derived.Test.YtoffcoegghigoaaGen
import Derived.Test.YtoffcoegghigoaaApp
import Derived.Test.YtoffcoegghigoaaCalm
import Derived.Lib.ConvBytes
namespace Go.Proofs.Ytoffcoegghigoaa
open Go.RowKit

theorem u8_lt (c : UInt8) : c.toNat < 256 := UInt8.toNat_lt c
theorem lex_escaped (c : UInt8) (w : World) : Calls Try.prog 51 #[.int .u8 c.toNat] w fun e w' => e = .returned (.bool (lex.esc c)) ∧ w' = w := by
  unfold lex.esc
  by_cases h : c.toNat = 34
  · have h1 : (c.toNat == 34) = true := by simpa using h
    have h2 : ((c.toNat : Int) == 34) = true := by simp; omega
    rw [h1]
    go_enter Try.func51, Try.ntmps51
    go_wp2
    go_ret
    exact ⟨rfl, rfl⟩
  · have h1 : (c.toNat == 34) = false := by simpa using h
    have h2 : ((c.toNat : Int) == 34) = false := by simp; omega
    have h3 : (c.toNat == 92) = ((c.toNat : Int) == 92) := by rw [Bool.eq_iff_iff]; simp; omega
    rw [h1, h3]
    go_enter Try.func51, Try.ntmps51
    go_wp2
    go_ret
    exact ⟨by simp, rfl⟩
theorem lex_sign (c : UInt8) (w : World) : Calls Try.prog 50 #[.int .u8 c.toNat] w fun e w' => e = .returned (.bool (lex.sgn c)) ∧ w' = w := by
  unfold lex.sgn
  by_cases h : 32 < c.toNat
  · have h1 : decide (32 < c.toNat) = true := by simpa using h
    have h2 : decide ((32 : Int) < (c.toNat : Int)) = true := by simp; omega
    by_cases g : c.toNat ≤ 126
    · have g1 : decide (c.toNat ≤ 126) = true := by simpa using g
      have g2 : decide ((c.toNat : Int) ≤ 126) = true := by simp; omega
      rw [h1, g1]
      go_enter Try.func50, Try.ntmps50
      go_wp2_with (go_at_call 51; go_must (refine (lex_escaped c _).mono ?_; rintro e w' ⟨rfl, rfl⟩))
      go_ret
      exact ⟨by simp, rfl⟩
    · have g1 : decide (c.toNat ≤ 126) = false := by simpa using g
      have g2 : decide ((c.toNat : Int) ≤ 126) = false := by simp; omega
      rw [h1, g1]
      go_enter Try.func50, Try.ntmps50
      go_wp2
      go_ret
      exact ⟨by simp, rfl⟩
  · have h1 : decide (32 < c.toNat) = false := by simpa using h
    have h2 : decide ((32 : Int) < (c.toNat : Int)) = false := by simp; omega
    rw [h1]
    go_enter Try.func50, Try.ntmps50
    go_wp2
    go_ret
    exact ⟨by simp, rfl⟩
theorem text_size (bs : List UInt8) : (⟨bs.toArray⟩ : ByteArray).size = bs.length := by simp [ByteArray.size]
theorem text_at (bs : List UInt8) (i : Nat) (h : i < (⟨bs.toArray⟩ : ByteArray).size) {c : UInt8} {t : List UInt8} (hd : bs.drop i = c :: t) : (⟨bs.toArray⟩ : ByteArray)[i] = c := by
  have hi : i < bs.length := by rw [text_size] at h; exact h
  rw [List.drop_eq_getElem_cons hi] at hd
  have := (List.cons.inj hd).1
  rw [← this]
  rfl
theorem lex_ends (bs : List UInt8) (i : Nat) (hi : i ≤ bs.length) (hl : bs.length ≤ 9223372036854775807) (w : World) : Calls Try.prog 49 #[textV bs, .int .i64 i] w fun e w' => e = .returned (.bool (lex.ends (bs.drop i))) ∧ w' = w := by
  have hsz := text_size bs
  by_cases h : i = bs.length
  · have h2 : ((i : Int) == (bs.length : Int)) = true := by simp; omega
    have h3 : lex.ends (bs.drop i) = true := by rw [h, List.drop_length]; rfl
    rw [h3]
    unfold textV
    go_enter Try.func49, Try.ntmps49
    go_wp2
    go_ret
    exact ⟨rfl, rfl⟩
  · have h2 : ((i : Int) == (bs.length : Int)) = false := by simp; omega
    have hlt : i < bs.length := by omega
    obtain ⟨c, t, hd⟩ : ∃ c t, bs.drop i = c :: t := ⟨_, _, List.drop_eq_getElem_cons hlt⟩
    have hc0 := text_at bs i (by rw [hsz]; exact hlt) hd
    rw [hd]
    unfold textV lex.ends
    have h3 : (c.toNat == 32) = ((c.toNat : Int) == 32) := by rw [Bool.eq_iff_iff]; simp; omega
    simp only [h3]
    go_enter Try.func49, Try.ntmps49
    go_wp2
    go_ret
    exact ⟨by simp, rfl⟩

theorem all_take {bs : List UInt8} {i : Nat} {c : UInt8} {p : UInt8 → Bool} (h : bs[i]? = some c) : (bs.take (i + 1)).all p = ((bs.take i).all p && p c) := by
  rw [take_snoc' h, List.all_append]
  simp
theorem all_false {bs : List UInt8} {i : Nat} {c : UInt8} {p : UInt8 → Bool} (h : bs[i]? = some c) (hp : p c = false) : bs.all p = false := by
  rw [List.all_eq_false]
  exact ⟨c, List.mem_of_getElem? h, by simp [hp]⟩
theorem lex_unsigned (c : UInt8) (w : World) : Calls Try.prog 54 #[.int .u8 c.toNat] w fun e w' => e = .returned (.bool (!lex.sgn c)) ∧ w' = w := by
  go_enter Try.func54, Try.ntmps54
  go_wp2_with (go_at_call 50; go_must (refine (lex_sign c _).mono ?_; rintro e w' ⟨rfl, rfl⟩))
  go_ret
  exact ⟨rfl, rfl⟩
theorem lex_index {v : Value} {bs : List UInt8} {w : World} (hv : BytesRO (fun _ => False) w v bs) (hl : bs.length ≤ 9223372036854775807) :
    Calls Try.prog 68 #[v, .func (.func 54) #[] #[]] w fun e w' => (∃ k : Int, e = .returned (.int .i64 k) ∧ decide (0 ≤ k) = !bs.all lex.sgn) ∧ w' = w := by
  obtain ⟨ao, cap, rfl, hcap, hc⟩ := hv
  go_enter Try.func68, Try.ntmps68
  go_upto_block 1 with (fail)
  go_loopw [8] (fun j wr => ∃ i : Nat, i ≤ bs.length ∧ j = .int .i64 i ∧ (bs.take i).all lex.sgn = true ∧ wr = w) (fun j _ => bs.length - (intOf j).toNat)
  case atStart => exact ⟨0, by omega, rfl, by simp, rfl⟩
  case round =>
    obtain ⟨i, hi, rfl, ha, rfl⟩ := hrel
    by_cases hlt : i < bs.length
    · obtain ⟨b, o, rfl, hb, _, hcell⟩ := hc (by rintro rfl; simp at hlt)
      obtain ⟨c, hx⟩ : ∃ c, bs[i]? = some c := ⟨_, List.getElem?_eq_getElem hlt⟩
      have h1 := hcell i hlt
      rw [(List.getElem?_eq_some_iff.1 hx).2] at h1
      unfold bv at h1
      have h2 := all_take (p := lex.sgn) hx
      rw [ha] at h2
      clear hcell hc
      obtain ⟨sg, hsg⟩ : ∃ sg, lex.sgn c = sg := ⟨_, rfl⟩
      have k1 := fun w' => lex_unsigned c w'
      rw [hsg] at k1 h2
      cases sg with
      | true =>
        go_wp2_with (go_at_call 54; go_must (refine (k1 _).mono ?_; rintro e w' ⟨rfl, rfl⟩))
        go_roundw
        case rel => exact ⟨i + 1, by omega, by go_num, by rw [h2]; rfl, by first | rfl | trivial⟩
        case measure => simp [intOf]; omega
      | false =>
        have h3 := all_false hx hsg
        go_wp2_with (go_at_call 54; go_must (refine (k1 _).mono ?_; rintro e w' ⟨rfl, rfl⟩))
        go_ret
        exact ⟨⟨i, rfl, by rw [h3]; simp⟩, rfl⟩
    · obtain rfl : i = bs.length := by omega
      rw [List.take_length] at ha
      go_wp2
      go_ret
      exact ⟨⟨-1, rfl, by rw [ha]; simp⟩, rfl⟩
theorem lex_contains {v : Value} {bs : List UInt8} {w : World} (hv : BytesRO (fun _ => False) w v bs) (hl : bs.length ≤ 9223372036854775807) :
    Calls Try.prog 53 #[v, .func (.func 54) #[] #[]] w fun e w' => e = .returned (.bool (!bs.all lex.sgn)) ∧ w' = w := by
  obtain ⟨ao, cap, rfl, _⟩ := id hv
  go_enter Try.func53, Try.ntmps53
  go_wp2_with fail
  refine (lex_index hv hl).mono ?_
  rintro e w' ⟨⟨k, rfl, hk⟩, rfl⟩
  go_wp2
  go_ret
  exact ⟨by rw [← hk]; rfl, rfl⟩

theorem St.freshBelow {S : Nat → Prop} {w0 w w' : World} {L : List SP} (H : St S w0 w L) (h : Below w.heap.size w w') : St S w0 w' L := H.past h
/-- A text's bytes, in a new row. -/
theorem conv_bytes (bs : List UInt8) (w : World) : ∃ cap w', (convert 9 75 (.string ⟨bs.toArray⟩)).run Try.prog w = .ok (.slice (some ⟨w.heap.size, 0, none⟩) bs.length cap) w' ∧ Below w.heap.size w w' ∧
    BytesRO (fun _ => False) w' (.slice (some ⟨w.heap.size, 0, none⟩) bs.length cap) bs := by
  refine ⟨grownCap w bs.length 0 5, Lib.bytesWorld w 5 ⟨bs.toArray⟩, by rw [Lib.run_convert_string_bytes (P := Try.prog) w 9 75 5 ⟨bs.toArray⟩ Try.underlying9 Try.underlying75 Try.underlying5, text_size bs], ⟨rfl, rfl, rfl, by rw [Lib.bytesWorld_size]; omega, fun j hj => Lib.bytesWorld_at_old _ _ _ _ hj⟩, ?_⟩
  refine ⟨_, _, rfl, by have := grownCap_ge w bs.length 0 5; exact this, fun _ => ⟨_, _, rfl, by rw [Lib.bytesWorld_size]; omega, id, fun i hi => ?_⟩⟩
  rw [Nat.zero_add, Lib.bytesWorld_cell _ _ _ _ (by rw [text_size]; exact hi)]
  simp [bv, List.getD, hi]
theorem lex_plain (bs : List UInt8) (hl : bs.length ≤ 140000000000000) (w : World) : Calls Try.prog 17 #[textV bs] w fun e w' => e = .returned (.bool (lex.plainB bs)) ∧ Below w.heap.size w w' := by
  have hsz := text_size bs
  unfold lex.plainB
  by_cases h : bs = []
  · subst h
    unfold textV
    go_enter Try.func17, Try.ntmps17
    go_wp2
    go_ret
    exact ⟨rfl, Below.refl _ _⟩
  · have h1 : bs.isEmpty = false := by simpa using h
    have h2 : ¬ bs = [] := h
    obtain ⟨cap, w1, hcv, hb, hro⟩ := conv_bytes bs w
    rw [h1]
    unfold textV
    go_enter Try.func17, Try.ntmps17
    go_wp2_with (go_at_call 53; go_must (refine (lex_contains hro (by omega)).mono ?_; rintro e w' ⟨rfl, rfl⟩))
    go_ret
    exact ⟨by simp, hb⟩

end Go.Proofs.Ytoffcoegghigoaa
