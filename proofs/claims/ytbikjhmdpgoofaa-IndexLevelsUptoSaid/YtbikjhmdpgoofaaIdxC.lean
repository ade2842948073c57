/- The walk of above: the level above one. Condition: a right width. -/
import Derived.Test.YtbikjhmdpgoofaaIdxB
namespace Go.Proofs.Ytbikjhmdpgoofaa
open Go.RowKit

theorem Try.info76 : (Try.prog.info? 76).map (fun i => (i.zero, i.size, i.bytes)) = some (some (.agg #[.int .i64 0, .int .i64 0, .int .i64 0, .int .i64 0]), 4, 32) := by kernel_rfl
def strs (l : List Str) : List Value := (l.map fun s => (strC s).toList).flatten
theorem strs_len (l : List Str) : (strs l).length = l.length * 4 := by
  induction l with
  | nil => rfl
  | cons s l ih => simp only [strs, List.map_cons, List.flatten_cons, List.length_append, List.length_cons] at ih ⊢; rw [ih]; simp; omega
theorem strs_app (l m : List Str) : strs (l ++ m) = strs l ++ strs m := by simp [strs]
theorem strs_one (s : Str) : strs [s] = [.int .i64 s.fr, .int .i64 s.to, .int .i64 s.least, .int .i64 s.great] := by simp [strs]
/-- Stretches that can be read. -/
def StrRO (w : World) (v : Value) (l : List Str) : Prop :=
  ∃ ad cap, v = .slice ad l.length cap ∧ l.length ≤ cap ∧ (l ≠ [] → ∃ b o, ad = some ⟨b, o, none⟩ ∧ b < w.heap.size ∧ ∀ i s, l[i]? = some s → w.rangeAt b (o + i * 4) (strC s).toList)
theorem StrRO.later {w w' : World} {v : Value} {l : List Str} (hv : StrRO w v l) (hk : Kept (fun _ => False) w w') : StrRO w' v l := by
  obtain ⟨ad, cap, e1, e2, e4⟩ := hv
  refine ⟨ad, cap, e1, e2, fun hl => ?_⟩
  obtain ⟨b, o, g1, g2, g4⟩ := e4 hl
  exact ⟨b, o, g1, Nat.lt_of_lt_of_le g2 hk.size, fun i x hi j v hj => (World.cell?_of_block (w := w) (hk.block b g2 id)).trans (g4 i x hi j v hj)⟩
theorem str_row {w : World} {v : Value} {n : Nat} {l : List Str} (h : w.ownsRow 0 76 4 v n (strs l)) : StrRO w v l ∧ n = l.length := by
  have hn : n = l.length := by have := h.1; rw [strs_len] at this; omega
  refine ⟨?_, hn⟩
  rcases own_shape h with ⟨rfl, h0⟩ | ⟨g, cap, rfl, hc, hg⟩
  · obtain rfl : l = [] := List.eq_nil_of_length_eq_zero (by omega)
    exact ⟨none, 0, rfl, Nat.le_refl _, fun h => absurd rfl h⟩
  · subst hn
    refine ⟨_, cap, rfl, hc, fun _ => ⟨g, 0, rfl, hg, fun i s hi => ?_⟩⟩
    rw [Nat.zero_add]
    obtain ⟨e1, e2⟩ := own_at (ls := l.map fun s => (strC s).toList) (k := 4) h (fun x hx => by obtain ⟨s, _, rfl⟩ := List.mem_map.1 hx; rfl) (i := i) (x := (strC s).toList) (by rw [List.getElem?_map, hi]; rfl)
    have := rangeAt_cellsAt e2
    rwa [e1] at this
theorem str_cells {w w' : World} {b o i : Nat} {s : Str} (h : w.rangeAt b (o + i * 4) (strC s).toList) (hb : w'.heap[b]? = w.heap[b]?) :
    w'.cell? ⟨b, o + i * 4, none⟩ = some (.int .i64 s.fr) ∧ w'.cell? ⟨b, o + i * 4 + 1, none⟩ = some (.int .i64 s.to) ∧ w'.cell? ⟨b, o + i * 4 + 2, none⟩ = some (.int .i64 s.least) ∧ w'.cell? ⟨b, o + i * 4 + 3, none⟩ = some (.int .i64 s.great) :=
  ⟨(World.cell?_of_block hb).trans (h 0 _ rfl), (World.cell?_of_block hb).trans (h 1 _ rfl), (World.cell?_of_block hb).trans (h 2 _ rfl), (World.cell?_of_block hb).trans (h 3 _ rfl)⟩
def upStep (width i : Nat) (out : List Str) (s : Str) : List Str :=
  if i % width = 0 then out ++ [s] else match out.getLast? with
    | some t => out.dropLast ++ [joinS t s]
    | none => out ++ [s]
def upTake (width : Nat) (l : List Str) : Nat → List Str
  | 0 => []
  | i + 1 => match l[i]? with
    | some s => upStep width i (upTake width l i) s
    | none => upTake width l i
def aboveS (width : Nat) (l : List Str) : List Str := upTake width l l.length
theorem upTake_one (width : Nat) (l : List Str) : ∀ i, 0 < i → i ≤ l.length → upTake width l i ≠ []
  | i + 1, _, h => by
    rw [upTake, List.getElem?_eq_getElem (by omega)]
    simp only [upStep]
    split
    · simp
    · split <;> simp
theorem upTake_len (width : Nat) (l : List Str) : ∀ i, (upTake width l i).length ≤ i
  | 0 => by simp [upTake]
  | i + 1 => by
    have ih := upTake_len width l i
    rw [upTake]
    split
    · simp only [upStep]
      split
      · simp only [List.length_append, List.length_cons, List.length_nil]; omega
      · split
        · simp only [List.length_append, List.length_dropLast, List.length_cons, List.length_nil]; omega
        · simp only [List.length_append, List.length_cons, List.length_nil]; omega
    · omega
theorem set4 (A : List Value) (a b c d a' b' c' d' : Value) {k : Nat} (hk : A.length = k) : ((((A ++ [a, b, c, d]).set k a').set (k + 1) b').set (k + 2) c').set (k + 3) d' = A ++ [a', b', c', d'] := by
  subst hk
  simp

theorem last4 (A : List Value) (a b c d : Value) {k : Nat} (hk : A.length = k) : (A ++ [a, b, c, d])[k]? = some a ∧ (A ++ [a, b, c, d])[k + 1]? = some b ∧ (A ++ [a, b, c, d])[k + 2]? = some c ∧ (A ++ [a, b, c, d])[k + 3]? = some d := by
  subst hk
  refine ⟨?_, ?_, ?_, ?_⟩ <;> simp
theorem snoc_of {O : List Str} (h : O ≠ []) : ∃ (O0 : List Str) (y : Str), O = O0 ++ [y] := ⟨O.dropLast, O.getLast h, (List.dropLast_concat_getLast h).symm⟩

set_option maxHeartbeats 4000000 in
set_option maxRecDepth 100000 in
theorem idx_above {v : Value} {l : List Str} (width : Nat) (w : World) (hv : StrRO w v l) (hl : l.length ≤ 1000000000) (hw : 0 < width ∧ width ≤ 64) :
    Calls Try.prog 58 #[.int .i64 width, v] w fun e w' => ∃ v', e = .returned v' ∧ St (fun _ => False) w w' [Row 76 4 v' (aboveS width l).length (strs (aboveS width l))] := by
  obtain ⟨ao, cap, rfl, hcap, hcell⟩ := hv
  go_enter Try.func58, Try.ntmps58
  have H0 : St (fun _ => False) w w [Row 76 4 (.slice none 0 0) 0 (strs [])] := (St.nil (fun _ => False) w).row_nil 76 4
  go_upto_block 1 with (fail)
  go_loopw [5, 10] (fun u j wr => ∃ (i n : Nat) (O : List Str), i ≤ l.length ∧ j = .int .i64 i ∧ O = upTake width l i ∧ n = O.length ∧ St (fun _ => False) w wr [Row 76 4 u n (strs O)]) (fun _ j _ => l.length - (intOf j).toNat)
  case atStart => exact ⟨0, 0, [], by omega, rfl, rfl, rfl, H0⟩
  case round =>
    clear H0
    obtain ⟨i, n, O, hi, rfl, hO, hn, HL⟩ := hrel
    by_cases hlt : i < l.length
    · obtain ⟨b, o, rfl, hb, hc⟩ := hcell (by rintro rfl; simp at hlt)
      obtain ⟨x, hx⟩ : ∃ x, l[i]? = some x := ⟨_, List.getElem?_eq_getElem hlt⟩
      have hup : upTake width l (i + 1) = upStep width i O x := by rw [upTake, hx, hO]
      have hnl : n ≤ i := by rw [hn, hO]; exact upTake_len width l i
      have hne : 0 < i → O ≠ [] := fun h => by rw [hO]; exact upTake_one width l i h (by omega)
      obtain ⟨q0, q1, q2, q3⟩ := str_cells (hc i x hx) (HL.kept.block b hb id)
      have huph := Lib.hid hup
      have hnh := Lib.hid hn
      clear hup hx hc hcell hO hn
      obtain ⟨xf, xt, xl, xg⟩ := x
      simp only at q0 q1 q2 q3
      have HA : St (fun _ => False) w _ [_, _] := HL.allocAt rfl #[.int .i64 xf, .int .i64 xt, .int .i64 xl, .int .i64 xg] 76
      go_upto_region 5 with (fail)
      obtain ⟨wa, hwa⟩ : ∃ wa, wr.alloc (.cells #[.int .i64 xf, .int .i64 xt, .int .i64 xl, .int .i64 xg] 76) = wa := ⟨_, rfl⟩
      obtain ⟨ob, hob⟩ : ∃ ob, wr.heap.size = ob := ⟨_, rfl⟩
      rw [hwa, hob] at HA
      try rw [hwa]
      try simp only [hob]
      clear hwa hob q0 q1 q2 q3 HL
      have d0 := HA.cell 0 0 rfl rfl
      have d1 := HA.cell 0 1 rfl rfl
      have d2 := HA.cell 0 2 rfl rfl
      have d3 := HA.cell 0 3 rfl rfl
      have hrem : (i : Int).tmod (width : Int) = ((i % width : Nat) : Int) := by rw [Int.tmod_eq_emod_of_nonneg (by omega)]; rfl
      by_cases hm : i % width = 0
      · have z1 : (((i % width : Nat) : Int) == 0) = true := by simp; omega
        have hw0 : ((width : Int) == 0) = false := by simp; omega
        have hup2 := Lib.hid (show upTake width l (i + 1) = O ++ [⟨xf, xt, xl, xg⟩] by rw [huph.out, upStep, if_pos hm])
        clear hm huph
        go_wp2_with (at_builtin; go_must (refine St.list_app (HA.skip _) 1 rfl rfl (.tmp 19) (.tmp 21) 67 rfl Try.underlying67 Try.info76 (by decide) rfl [.int .i64 xf, .int .i64 xt, .int .i64 xl, .int .i64 xg] rfl rfl (new_cells #[.int .i64 xf, .int .i64 xt, .int .i64 xl, .int .i64 xg] _) (by simp [Value.oneCell']) (by omega) (by omega) ?_; intro g5 cap5 w5 H5 hz5))
        go_roundw
        case rel =>
          refine ⟨i + 1, n + 1, O ++ [⟨xf, xt, xl, xg⟩], by omega, by go_num, hup2.out.symm, by have := hnh.out; simp; omega, ?_⟩
          rw [strs_app, strs_one]
          exact St.tail H5
        case measure => simp [intOf]; omega
      · have z1 : (((i % width : Nat) : Int) == 0) = false := by simp; omega
        have hw0 : ((width : Int) == 0) = false := by simp; omega
        have hi0 : 0 < i := by
          rcases Nat.eq_zero_or_pos i with h | h
          · subst h; simp at hm
          · exact h
        obtain ⟨O0, y, rfl⟩ := snoc_of (hne hi0)
        obtain ⟨m, hm0⟩ : ∃ m, O0.length = m := ⟨_, rfl⟩
        have hup2 := Lib.hid (show upTake width l (i + 1) = O0 ++ [joinS y ⟨xf, xt, xl, xg⟩] by rw [huph.out, upStep, if_neg hm]; simp)
        have hnm : n = m + 1 := by rw [hnh.out, List.length_append, hm0]; rfl
        subst hnm
        have hlen : (strs O0).length = m * 4 := by rw [strs_len, hm0]
        have kj := fun w' => idx_join y ⟨xf, xt, xl, xg⟩ w'
        obtain ⟨J, hJ⟩ : ∃ J, joinS y ⟨xf, xt, xl, xg⟩ = J := ⟨_, rfl⟩
        rw [hJ] at kj hup2
        clear hJ hm huph hnh hne
        obtain ⟨yf, yt, yl, yg⟩ := y
        obtain ⟨jf, jt, jl, jg⟩ := J
        rw [strs_app, strs_one] at HA
        simp only at HA
        obtain ⟨l0, l1, l2, l3⟩ := last4 (strs O0) (.int .i64 yf) (.int .i64 yt) (.int .i64 yl) (.int .i64 yg) hlen
        obtain ⟨g, cp, rfl⟩ := row_form (HA.row 1 rfl) rfl (by omega)
        unfold strV at kj
        simp only at kj
        have hlh := Lib.hid hlen
        have hwr : IntKind.i64.wrap (m : Int) = m := by rw [IntKind.wrap_i64]; omega
        have hmm : (m : Int) < (m : Int) + 1 := by omega
        clear hlen
        go_upto_region 7 with (fail)
        refine wp_calm_tail 13 (fun w' => St (fun _ => False) w w' [Blk ob #[.int .i64 xf, .int .i64 xt, .int .i64 xl, .int .i64 xg] 76, Row 76 4 (.slice (some ⟨g, 0, none⟩) (m + 1) cp) (m + 1) (strs O0 ++ [.int .i64 yf, .int .i64 yt, .int .i64 yl, .int .i64 yg])]) (by kernel_rfl) (by kernel_rfl) (HA.drew) ?_
        simp only [List.take_succ_cons, List.take_zero, List.drop_succ_cons, List.drop_zero]
        iterate 13 first
          | (apply calm_pass
             · rfl
             intro K hK
             go_simp
             refine hK _ ?_
             clear hK K)
          | (apply calm_step
             · rfl
             · intro w1 h1
               have d0 := h1.cell 0 0 rfl rfl
               have d1 := h1.cell 0 1 rfl rfl
               have d2 := h1.cell 0 2 rfl rfl
               have d3 := h1.cell 0 3 rfl rfl
               have e0 := h1.rowCell 1 (m * 4) rfl l0
               have e1 := h1.rowCell 1 (m * 4 + 1) rfl l1
               have e2 := h1.rowCell 1 (m * 4 + 2) rfl l2
               have e3 := h1.rowCell 1 (m * 4 + 3) rfl l3
               first
                 | (go_simp
                    first
                      | rfl
                      | exact ⟨rfl, h1⟩
                      | (go_at_call 37; with_reducible exact St.callPast (kj w1) h1)
                   )
             intro K hK
             go_simp
             refine hK _ ?_
             clear hK K)
        refine calm_nil ?_
        intro w7 H7
        clear d0 d1 d2 d3
        have e0 := H7.rowCell 1 (m * 4) rfl l0
        have e1 := H7.rowCell 1 (m * 4 + 1) rfl l1
        have e2 := H7.rowCell 1 (m * 4 + 2) rfl l2
        have e3 := H7.rowCell 1 (m * 4 + 3) rfl l3
        have f0 := H7.rowFree 1 (m * 4) rfl
        have f1 := H7.rowFree 1 (m * 4 + 1) rfl
        have f2 := H7.rowFree 1 (m * 4 + 2) rfl
        have f3 := H7.rowFree 1 (m * 4 + 3) rfl
        have H8 := (((H7.rowSet 1 rfl (m * 4) (.int .i64 jf)).rowSet 1 rfl (m * 4 + 1) (.int .i64 jt)).rowSet 1 rfl (m * 4 + 2) (.int .i64 jl)).rowSet 1 rfl (m * 4 + 3) (.int .i64 jg)
        go_wp2
        go_roundw
        case rel =>
          refine ⟨i + 1, m + 1, O0 ++ [⟨jf, jt, jl, jg⟩], by omega, by go_num, hup2.out.symm, by simp [hm0], ?_⟩
          rw [strs_app, strs_one]
          rw [set4 (strs O0) _ _ _ _ _ _ _ _ hlh.out] at H8
          exact St.tail H8
        case measure => simp [intOf]; omega
    · obtain rfl : i = l.length := by omega
      have hO2 := Lib.hid (show aboveS width l = O from hO.symm)
      have hn2 := Lib.hid hn
      clear hO hn
      obtain ⟨ad, cp, rfl, _, _⟩ := slice_form' (HL.row 0 rfl)
      go_wp2
      go_ret
      rw [hO2.out, ← hn2.out]
      exact ⟨_, rfl, HL⟩

end Go.Proofs.Ytbikjhmdpgoofaa
