/- The walk of Join: how words are told as a line. Condition: the words' lengths. -/
import Derived.Test.YtoffcoegghigoaaLexB
import Derived.Test.YtoffcoegghigoaaShelfJoin
import Derived.Test.YtoffcoegghigoaaRet
import Derived.Lib.Join
namespace Go.Proofs.Ytoffcoegghigoaa
open Go.RowKit

theorem Try.info9 : (Try.prog.info? 9).map (fun i => (i.zero, i.size, i.bytes)) = some (some (.string ⟨#[]⟩), 1, 16) := by kernel_rfl
/-- Texts that can be read. -/
def StrsRO (w : World) (v : Value) (l : List (List UInt8)) : Prop :=
  ∃ ad cap, v = .slice ad l.length cap ∧ l.length ≤ cap ∧ (l ≠ [] → ∃ b o, ad = some ⟨b, o, none⟩ ∧ b < w.heap.size ∧ ∀ i (hi : i < l.length), w.cell? ⟨b, o + i, none⟩ = some (textV l[i]))
theorem StrsRO.later {w w' : World} {v : Value} {l : List (List UInt8)} (hv : StrsRO w v l) (hk : Kept (fun _ => False) w w') : StrsRO w' v l := by
  obtain ⟨ad, cap, e1, e2, e3⟩ := hv
  refine ⟨ad, cap, e1, e2, fun hl => ?_⟩
  obtain ⟨b, o, g1, g2, g4⟩ := e3 hl
  exact ⟨b, o, g1, Nat.lt_of_lt_of_le g2 hk.size, fun i hi => (World.cell?_of_block (w := w) (hk.block b g2 id)).trans (g4 i hi)⟩
theorem strs_row {w : World} {v : Value} {n : Nat} {l : List (List UInt8)} (h : w.ownsRow 0 9 1 v n (texts l)) : StrsRO w v l ∧ n = l.length := by
  have hn : n = l.length := by have := h.1; simp [texts] at this; omega
  refine ⟨?_, hn⟩
  rcases own_shape h with ⟨rfl, h0⟩ | ⟨g, cap, rfl, hc, hg⟩
  · obtain rfl : l = [] := List.eq_nil_of_length_eq_zero (by omega)
    exact ⟨none, 0, rfl, Nat.le_refl _, fun h => absurd rfl h⟩
  · subst hn
    exact ⟨_, cap, rfl, hc, fun _ => ⟨g, 0, rfl, hg, fun i hi => by rw [Nat.zero_add]; exact own_cell h (by simp [texts, hi])⟩⟩
theorem texts_snoc (l : List (List UInt8)) (a : List UInt8) : texts (l ++ [a]) = texts l ++ [textV a] := by simp [texts]
theorem join_inter : ∀ l : List (List UInt8), Lib.join l [32] = lex.inter l
  | [] => rfl
  | [a] => by simp [Lib.join, lex.inter]
  | a :: b :: l => by
    rw [Lib.join_cons, lex.inter, ← join_inter (b :: l), Lib.join_cons]
    simp [Lib.joinTail]
namespace lex
theorem quote_told {w : List UInt8} (h : (quoteW w).2 = 0) : (quoteW w).1 = told w ∧ (told w).length ≤ 4096 := by
  unfold quoteW at h ⊢
  split at h
  · rename_i h1
    rw [if_pos h1]
    split at h
    · simp at h
    · rename_i h2; rw [if_neg h2]; exact ⟨rfl, by omega⟩
  · simp at h
theorem quote_bad {w : List UInt8} (h : (quoteW w).2 ≠ 0) : quoteW w = ([], (quoteW w).2) := by
  unfold quoteW at h ⊢
  split
  · split
    · rfl
    · rename_i h1 h2; rw [if_pos h1, if_neg h2] at h; exact absurd rfl h
  · rfl
theorem firstErr_at : ∀ {l : List (List UInt8)} {i : Nat} {w : List UInt8}, firstErr (l.take i) = 0 → l[i]? = some w → (quoteW w).2 ≠ 0 → firstErr l = (quoteW w).2
  | [], i, w, _, h, _ => by simp at h
  | a :: l, 0, w, _, h, h2 => by
    obtain rfl : a = w := by simpa using h
    rw [firstErr, if_neg h2]
  | a :: l, i + 1, w, h0, h, h2 => by
    rw [List.take_succ_cons, firstErr] at h0
    split at h0
    · rename_i ha
      rw [firstErr, if_pos ha]
      exact firstErr_at h0 (by simpa using h) h2
    · rename_i ha; exact absurd h0 ha
theorem firstErr_on : ∀ {l : List (List UInt8)} {i : Nat} {w : List UInt8}, firstErr (l.take i) = 0 → l[i]? = some w → (quoteW w).2 = 0 → firstErr (l.take (i + 1)) = 0
  | [], i, w, _, h, _ => by simp at h
  | a :: l, 0, w, _, h, h2 => by
    obtain rfl : a = w := by simpa using h
    simp [firstErr, h2]
  | a :: l, i + 1, w, h0, h, h2 => by
    rw [List.take_succ_cons, firstErr] at h0
    split at h0
    · rename_i ha
      rw [List.take_succ_cons, firstErr, if_pos ha]
      exact firstErr_on h0 (by simpa using h) h2
    · rename_i ha; exact absurd h0 ha
theorem firstErr_len : ∀ {l : List (List UInt8)}, firstErr l = 0 → ∀ w ∈ l, (told w).length ≤ 4096
  | a :: l, h, w, hw => by
    rw [firstErr] at h
    split at h
    · rename_i h0
      rcases List.mem_cons.1 hw with rfl | hw
      · exact (quote_told h0).2
      · exact firstErr_len h w hw
    · rename_i h0; exact absurd h h0
theorem span_most : ∀ {l : List (List UInt8)}, (∀ w ∈ l, (told w).length ≤ 4096) → span l ≤ 4097 * l.length
  | [], _ => by simp [span]
  | a :: l, h => by
    have h1 := h a (by simp)
    have h2 := span_most (l := l) (fun w hw => h w (List.mem_cons_of_mem _ hw))
    rw [span_cons, List.length_cons]
    omega
end lex

set_option maxHeartbeats 1000000 in
set_option maxRecDepth 100000 in
theorem lex_join {v : Value} {l : List (List UInt8)} {w : World} (hv : StrsRO w v l) (hl : l.length ≤ 9223372036854775807) (hw : ∀ x ∈ l, x.length ≤ 10000000000000) :
    Calls Try.prog 19 #[v] w fun e w' => e = .returned (.tuple #[textV (lex.joinW l).1, .int .i64 (lex.joinW l).2]) ∧ Below w.heap.size w w' := by
  obtain ⟨ao, cap, rfl, hcap, hcell⟩ := hv
  have hj : lex.joinW l = if 64 < l.length then ([], 30) else if lex.firstErr l ≠ 0 then ([], lex.firstErr l) else if 4096 < (lex.inter (l.map lex.told)).length then ([], 12) else (lex.inter (l.map lex.told), 0) := rfl
  have hjh := Lib.hid hj
  clear hj
  go_enter Try.func19, Try.ntmps19
  by_cases h64 : (64 : Int) < l.length
  · have z1 : decide ((64 : Int) < (l.length : Int)) = true := by simpa using h64
    go_wp2
    go_ret2
    rw [hjh.out, if_pos (by omega)]
    exact ⟨rfl, Below.refl _ _⟩
  · have z1 : decide ((64 : Int) < (l.length : Int)) = false := by simpa using h64
    go_upto_block 1 with (fail)
    have H0 : St (fun _ => False) w w [Row 9 1 (.slice none 0 0) 0 (texts [])] := (St.nil (fun _ => False) w).row_nil 9 1
    go_loopw [4, 15] (fun v j wr => ∃ (i : Nat), i ≤ l.length ∧ j = .int .i64 i ∧ lex.firstErr (l.take i) = 0 ∧ St (fun _ => False) w wr [Row 9 1 v i (texts ((l.take i).map lex.told))]) (fun _ j _ => l.length - (intOf j).toNat)
    case atStart => exact ⟨0, by omega, rfl, rfl, H0⟩
    case round =>
      clear H0
      obtain ⟨i, hi, rfl, hf, HL⟩ := hrel
      by_cases hlt : i < l.length
      · obtain ⟨b, o, rfl, hb, hc⟩ := hcell (by rintro rfl; simp at hlt)
        obtain ⟨x, hx⟩ : ∃ x, l[i]? = some x := ⟨_, List.getElem?_eq_getElem hlt⟩
        have hc0 := (World.cell?_of_block (w := w) (HL.kept.block b hb id)).trans (hc i hlt)
        rw [(List.getElem?_eq_some_iff.1 hx).2] at hc0
        have hxl := hw x (List.mem_of_getElem? hx)
        clear hc hcell
        have kq := fun w' => lex_quote x hxl w'
        by_cases hq : (lex.quoteW x).2 = 0
        · have h1 := lex.firstErr_on hf hx hq
          have h2 : ((l.take (i + 1)).map lex.told) = (l.take i).map lex.told ++ [lex.told x] := by rw [take_snoc' hx]; simp
          have h2h := Lib.hid h2
          rw [(lex.quote_told hq).1, hq] at kq
          clear hf hx hq h2
          unfold textV at hc0
          go_upto_region 10 with (go_at_call 15; go_must (refine (St.callPast (kq _) HL).mono ?_; rintro e w7 ⟨rfl, H7⟩))
          unfold textV
          go_wp2_with (at_builtin; go_must (refine St.list_app (H7.skip _) 0 rfl rfl (.tmp 27) (.tmp 29) 23 rfl Try.underlying23 Try.info9 (by decide) rfl [textV (lex.told x)] rfl rfl (new_cells #[textV (lex.told x)] _) (by simp [Value.oneCell', textV]) (by omega) (by omega) ?_; intro g5 cap5 w5 H5 hz5))
          go_roundw
          case rel =>
            refine ⟨i + 1, by omega, by go_num, h1, ?_⟩
            rw [h2h.out, texts_snoc]
            exact H5
          case measure => simp [intOf]; omega
        · have h1 := Lib.hid (lex.firstErr_at hf hx hq)
          rw [lex.quote_bad hq] at kq
          have hqh := Lib.hid hq
          have z3 : decide ((lex.quoteW x).2 = 0) = false := by simpa using hq
          have z4 : ((lex.quoteW x).2 == 0) = false := by simpa using hq
          have z5 : ((lex.quoteW x).2 != 0) = true := by simpa using hq
          clear hf hx hq
          unfold textV at hc0
          go_wp2_with (go_at_call 15; go_must (refine (St.callPast (kq _) HL).mono ?_; rintro e w7 ⟨rfl, H7⟩))
          go_ret2
          rw [hjh.out, if_neg (by omega), h1.out, if_pos hqh.out]
          exact ⟨rfl, H7.below (Nat.le_refl _) (fun _ h => h.elim)⟩
      · obtain rfl : i = l.length := by omega
        rw [List.take_length] at hf HL
        have hlen := lex.firstErr_len hf
        have hspan := lex.span_most hlen
        obtain ⟨J, hJ⟩ : ∃ J, lex.inter (l.map lex.told) = J := ⟨_, rfl⟩
        have hJl : J.length ≤ 4097 * l.length := by
          rw [← hJ]
          rcases hcs : l with _ | ⟨a, t⟩
          · simp [lex.inter]
          · have h1 := lex.inter_len l (by rw [hcs]; simp)
            rw [← hcs]
            omega
        have hjt : lex.joinW l = if 4096 < J.length then ([], 12) else (J, 0) := by
          rw [hjh.out, if_neg (by omega), if_neg (by omega), hJ]
        have hjth := Lib.hid hjt
        have hs := text_size J
        have kj : ∀ w', St (fun _ => False) w w' [Row 9 1 u4 l.length (texts (l.map lex.told))] → ∃ ad cap', u4 = .slice ad l.length cap' ∧ Calls Try.prog 55 #[.slice ad l.length cap', .string ⟨#[32]⟩] w' fun e w'' => e = .returned (.string ⟨J.toArray⟩) ∧ Below w'.heap.size w' w'' := by
          intro w' H
          obtain ⟨⟨ad, cap', e1, e2, e3⟩, _⟩ := strs_row (H.row 0 rfl)
          rw [List.length_map] at e1 e2
          refine ⟨ad, cap', e1, ?_⟩
          rcases hcs : l with _ | ⟨a, t⟩
          · subst hcs
            have hJ0 : J = [] := by rw [← hJ]; rfl
            subst hJ0
            exact (strings_Join_none ad cap' ⟨#[32]⟩ w').mono fun e w'' ⟨h1, h2⟩ => ⟨h1, h2 ▸ Below.refl _ _⟩
          · rw [← hcs]
            obtain ⟨b, o, rfl, h1, h2⟩ := e3 (by rw [hcs]; simp)
            have hmm : ((l.map lex.told).map fun x => (⟨x.toArray⟩ : ByteArray)).map (·.data.toList) = l.map lex.told := by rw [List.map_map]; exact (List.map_congr_left (fun x _ => by simp)).trans (List.map_id _)
            have hres : (Lib.join (((l.map lex.told).map fun x => (⟨x.toArray⟩ : ByteArray)).map (·.data.toList)) (⟨#[32]⟩ : ByteArray).data.toList) = J := by
              rw [hmm, ← hJ]; exact join_inter _
            have := strings_Join b o cap' ((l.map lex.told).map fun x => (⟨x.toArray⟩ : ByteArray)) ⟨#[32]⟩ w' (fun j x hx => by
              obtain ⟨hj, rfl⟩ := List.getElem?_eq_some_iff.1 hx
              rw [List.length_map] at hj
              rw [h2 j hj]
              simp [textV]) h1 (by simp; omega) (by simp; omega) (by rw [hres]; omega)
            rw [hres, List.length_map, List.length_map] at this
            exact this
        obtain ⟨ad, cap', rfl, hk⟩ := kj _ HL
        by_cases h4 : (4096 : Int) < J.length
        · have z4 : decide ((4096 : Int) < (J.length : Int)) = true := by simpa using h4
          clear hf hlen kj hJ
          go_wp2_with (go_at_call 55; go_must (refine (St.callPast hk HL).mono ?_; rintro e w7 ⟨rfl, H7⟩))
          go_ret2
          rw [hjth.out, if_pos (by omega)]
          exact ⟨rfl, H7.below (Nat.le_refl _) (fun _ h => h.elim)⟩
        · have z4 : decide ((4096 : Int) < (J.length : Int)) = false := by simpa using h4
          clear hf hlen kj hJ
          go_wp2_with (go_at_call 55; go_must (refine (St.callPast hk HL).mono ?_; rintro e w7 ⟨rfl, H7⟩))
          go_ret2
          rw [hjth.out, if_neg (by omega)]
          exact ⟨rfl, H7.below (Nat.le_refl _) (fun _ h => h.elim)⟩

end Go.Proofs.Ytoffcoegghigoaa
