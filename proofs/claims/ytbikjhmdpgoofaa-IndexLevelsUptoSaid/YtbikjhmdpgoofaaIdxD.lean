/- The walk of Of: the levels over records. Condition: so many records. -/
import Derived.Test.YtbikjhmdpgoofaaIdxC
import Derived.Test.YtbikjhmdpgoofaaBlkRow
namespace Go.Proofs.Ytbikjhmdpgoofaa
open Go.RowKit

theorem idx_wide (n : Int) (w : World) : Calls Try.prog 57 #[.int .i64 n] w fun e w' => e = .returned (.bool (decide (2 ≤ n) && decide (n ≤ 64))) ∧ w' = w := by
  go_enter Try.func57, Try.ntmps57
  by_cases h : 2 ≤ n
  · have z1 : decide (2 ≤ n) = true := by simpa using h
    go_wp2
    go_ret
    exact ⟨by simp [h], rfl⟩
  · have z1 : decide (2 ≤ n) = false := by simpa using h
    go_wp2
    go_ret
    exact ⟨by simp [h], rfl⟩

theorem Try.info67 : (Try.prog.info? 67).map (fun i => (i.zero, i.size, i.bytes)) = some (some (.slice none 0 0), 1, 24) := by kernel_rfl
structure Rcd where
  seq : Int
  iv : Value
  items : List Itm
  cells : List Value
def Rcd.good (w : World) (r : Rcd) : Prop := r.cells.length = 36 ∧ r.cells[1]? = some (.int .i64 r.seq) ∧ r.cells[2]? = some r.iv ∧ ItmsRO w r.iv r.items ∧ r.items.length ≤ 9223372036854775807 ∧ (-9223372036854775808 ≤ r.seq ∧ r.seq ≤ 9223372036854775807) ∧ allOne r.cells.toArray = true
theorem Rcd.good.later {w w' : World} {r : Rcd} (h : r.good w) (hk : Kept (fun _ => False) w w') : r.good w' := ⟨h.1, h.2.1, h.2.2.1, h.2.2.2.1.later hk, h.2.2.2.2⟩
/-- Records that can be read. -/
def RcsRO (w : World) (v : Value) (l : List Rcd) : Prop :=
  ∃ ad cap, v = .slice ad l.length cap ∧ l.length ≤ cap ∧ (∀ r ∈ l, r.good w) ∧ (l ≠ [] → ∃ b o, ad = some ⟨b, o, none⟩ ∧ b < w.heap.size ∧ ∀ i r, l[i]? = some r → w.rangeAt b (o + i * 36) r.cells)
theorem RcsRO.later {w w' : World} {v : Value} {l : List Rcd} (hv : RcsRO w v l) (hk : Kept (fun _ => False) w w') : RcsRO w' v l := by
  obtain ⟨ad, cap, e1, e2, e3, e4⟩ := hv
  refine ⟨ad, cap, e1, e2, fun r hr => (e3 r hr).later hk, fun hl => ?_⟩
  obtain ⟨b, o, g1, g2, g4⟩ := e4 hl
  exact ⟨b, o, g1, Nat.lt_of_lt_of_le g2 hk.size, fun i x hi j v hj => (World.cell?_of_block (w := w) (hk.block b g2 id)).trans (g4 i x hi j v hj)⟩
/-- The levels: each above the one before, till one stretch is left. -/
def climb (width : Nat) : Nat → List Str → List (List Str)
  | 0, l => [l]
  | f + 1, l => if l.length ≤ 1 then [l] else l :: climb width f (aboveS width l)
def ofS (width : Int) (l : List Rcd) : List (List Str) :=
  if (2 ≤ width ∧ width ≤ 64) ∧ l ≠ [] then climb width.toNat l.length (l.map fun r => oneS r.seq r.items) else []
theorem upTake_mul {width : Nat} (hw : 0 < width) (l : List Str) : ∀ i, i ≤ l.length → (upTake width l i).length * width < i + width ∧ i ≤ (upTake width l i).length * width
  | 0, _ => by simp [upTake]; exact hw
  | i + 1, h => by
    obtain ⟨h1, h2⟩ := upTake_mul hw l i (by omega)
    rw [upTake, List.getElem?_eq_getElem (by omega)]
    simp only [upStep]
    by_cases hm : i % width = 0
    · rw [if_pos hm]
      simp only [List.length_append, List.length_cons, List.length_nil, Nat.zero_add, Nat.add_mul, Nat.one_mul]
      obtain ⟨k, rfl⟩ : ∃ k, i = width * k := ⟨i / width, by have := Nat.div_add_mod i width; omega⟩
      obtain ⟨n, hn⟩ : ∃ n, (upTake width l (width * k)).length = n := ⟨_, rfl⟩
      rw [hn] at h1 h2 ⊢
      have e1 : n < k + 1 := by
        have : width * n < width * (k + 1) := by rw [Nat.mul_comm width n, Nat.mul_succ]; exact h1
        exact Nat.lt_of_mul_lt_mul_left this
      have e2 : k ≤ n := by
        have : width * k ≤ width * n := by rw [Nat.mul_comm width n]; exact h2
        exact Nat.le_of_mul_le_mul_left this hw
      obtain rfl : n = k := by omega
      rw [Nat.mul_comm n width]
      omega
    · rw [if_neg hm]
      have hlt : i < (upTake width l i).length * width := by
        rcases Nat.lt_or_ge i ((upTake width l i).length * width) with g | g
        · exact g
        · exfalso
          apply hm
          have : i = (upTake width l i).length * width := by omega
          rw [this, Nat.mul_mod_left]
      have hne : upTake width l i ≠ [] := by
        intro e
        rw [e] at hlt
        simp at hlt
      obtain ⟨O0, y, hO⟩ := snoc_of hne
      rw [hO] at h1 hlt ⊢
      simp only [List.getLast?_append, List.getLast?_singleton, Option.some_or, List.dropLast_concat, List.length_append, List.length_cons, List.length_nil, Nat.zero_add] at h1 hlt ⊢
      omega
theorem aboveS_less {width : Nat} (hw : 2 ≤ width) {l : List Str} (hl : 1 < l.length) : (aboveS width l).length < l.length := by
  have h := (upTake_mul (show 0 < width by omega) l l.length (Nat.le_refl _)).1
  unfold aboveS
  rcases Nat.lt_or_ge (upTake width l l.length).length l.length with g | g
  · exact g
  · exfalso
    have h2 : l.length * width ≤ (upTake width l l.length).length * width := Nat.mul_le_mul_right _ g
    obtain ⟨n, hn⟩ : ∃ n, l.length = n + 2 := ⟨l.length - 2, by omega⟩
    obtain ⟨m, hm⟩ : ∃ m, width = m + 2 := ⟨width - 2, by omega⟩
    have h3 : (n + 2) * (m + 2) < (n + 2) + (m + 2) := by rw [← hn, ← hm]; omega
    have h4 : (n + 2) * (m + 2) = n * m + 2 * n + 2 * m + 4 := by simp only [Nat.add_mul, Nat.mul_add]; omega
    have h5 : 0 ≤ n * m := Nat.zero_le _
    omega

theorem run_load_rec {w : World} {a : Act} {dst : Option Tmp} {ty' : TypeId} {pos : String} {after : Array Edge} {g : Option (Nat × Bool)} {x : Operand} (hp : plainPtr (a.eval x) = true) (hc : hasCells w (blockOf (a.eval x)) (placeOf (a.eval x)) 36 = true) :
    (execOp a.eval ⟨dst, .load 82 x, ty', pos, after, g⟩).run Try.prog w = .ok (.value (.agg (cellsAt w (blockOf (a.eval x)) (placeOf (a.eval x)) 36).toArray)) w :=
  run_load_at Try.underlying82 rfl (by kernel_rfl) hp hc

theorem run_store_rec {w : World} {a : Act} {dst : Option Tmp} {ty' : TypeId} {pos : String} {after : Array Edge} {g : Option (Nat × Bool)} {x y : Operand}
    (hp : plainPtr (a.eval x) = true) (ho : placeOf (a.eval x) = 0) (hr : rowSize w (blockOf (a.eval x)) = 36) (hv : isAggV (a.eval y) = true) (hs : (aggOf (a.eval y)).size = 36) (h1 : allOne (aggOf (a.eval y)) = true) :
    (execOp a.eval ⟨dst, .store 82 x y, ty', pos, after, g⟩).run Try.prog w = .ok .skip (w.setRow (blockOf (a.eval x)) (aggOf (a.eval y))) :=
  run_store_at (by kernel_rfl) (by omega) hp ho hr hv hs h1
/-- Each level's row is among the rows. -/
def Cover (vals : List Value) (rows : List SP) (lv : List (List Str)) : Prop :=
  vals.length = lv.length ∧ ∀ (k : Nat) (v : Value) (s : List Str), vals[k]? = some v → lv[k]? = some s → Row 76 4 v s.length (strs s) ∈ rows
theorem Cover.snoc {vals : List Value} {rows : List SP} {lv : List (List Str)} (h : Cover vals rows lv) (v : Value) (s : List Str) : Cover (vals ++ [v]) (rows ++ [Row 76 4 v s.length (strs s)]) (lv ++ [s]) := by
  refine ⟨by simp [h.1], fun k u z hu hz => ?_⟩
  by_cases hk : k < vals.length
  · rw [List.getElem?_append_left hk] at hu
    rw [List.getElem?_append_left (by rw [← h.1]; exact hk)] at hz
    exact List.mem_append_left _ (h.2 k u z hu hz)
  · have hk2 : k = vals.length := by
      have := (List.getElem?_eq_some_iff.1 hu).1
      simp at this
      omega
    subst hk2
    rw [List.getElem?_append_right (Nat.le_refl _)] at hu
    rw [h.1, List.getElem?_append_right (Nat.le_refl _)] at hz
    simp at hu hz
    subst hu hz
    exact List.mem_append_right _ (by simp)
theorem rows_get {w0 w : World} {S : Nat → Prop} {rows L : List SP} {v : Value} {n : Nat} {xs : List Value} (H : St S w0 w (SP.all rows :: L)) (hm : Row 76 4 v n xs ∈ rows) : w.ownsRow 0 76 4 v n xs := by
  obtain ⟨i, hi⟩ := List.getElem?_of_mem hm
  have h2 := St.all_iff.1 H
  exact h2.row i (by rw [List.getElem?_append_left (List.getElem?_eq_some_iff.1 hi).1]; exact hi)
theorem rows_snoc {w0 w : World} {S : Nat → Prop} {rows L : List SP} {A : SP} (H : St S w0 w (SP.all rows :: A :: L)) : St S w0 w (SP.all (rows ++ [A]) :: L) := by
  have h2 := St.all_iff.1 H
  refine St.all_iff.2 ?_
  rwa [List.append_assoc]
def lenV : Value → Nat
  | .slice _ n _ => n
  | _ => 0
theorem climb_step {width f : Nat} {l : List Str} (h : 1 < l.length) : climb width (f + 1) l = l :: climb width f (aboveS width l) := by rw [climb, if_neg (by omega)]
theorem climb_stop {width f : Nat} {l : List Str} (h : l.length ≤ 1) : climb width f l = [l] := by
  cases f with
  | zero => rfl
  | succ f => rw [climb, if_pos h]
section
attribute [local go_sem ↓] run_load_rec run_store_rec

set_option maxHeartbeats 4000000 in
set_option maxRecDepth 100000 in
theorem idx_of_good {l : List Rcd} {v : Value} (width : Nat) (w : World) (hv : RcsRO w v l) (hl : l ≠ []) (hll : l.length ≤ 1000000) (hw : 2 ≤ width ∧ width ≤ 64) :
    Calls Try.prog 29 #[.int .i64 width, v] w fun e w' => ∃ v' vals rows, e = .returned v' ∧ Cover vals rows (climb width l.length (l.map fun r => oneS r.seq r.items)) ∧ St (fun _ => False) w w' [SP.all rows, Row 67 1 v' vals.length vals] := by
  obtain ⟨ao, cap, rfl, hcap, hgood, hcell⟩ := hv
  have z1 : decide ((2 : Int) ≤ width) = true := by simp; omega
  have z2 : decide ((width : Int) ≤ 64) = true := by simp; omega
  have kw := fun w' => idx_wide width w'
  rw [z1, z2] at kw
  have hl0 : 0 < l.length := List.length_pos_iff.2 hl
  have z3 : ((l.length : Int) == 0) = false := by simp; omega
  have H0 : St (fun _ => False) w w [Row 76 4 (.slice none 0 0) 0 (strs [])] := (St.nil (fun _ => False) w).row_nil 76 4
  go_enter Try.func29, Try.ntmps29
  go_upto_block 1 with (go_at_call 57; go_must (refine (kw _).mono ?_; rintro e w0 ⟨rfl, hw0⟩; have hw0 := hw0.symm; subst hw0))
  go_loopw [5, 19] (fun u j wr => ∃ (i : Nat), i ≤ l.length ∧ j = .int .i64 i ∧ St (fun _ => False) w wr [Row 76 4 u i (strs ((l.take i).map fun r => oneS r.seq r.items))]) (fun _ j _ => l.length - (intOf j).toNat)
  case atStart => exact ⟨0, by omega, rfl, H0⟩
  case round =>
    clear H0
    obtain ⟨i, hi, rfl, HL⟩ := hrel
    by_cases hlt : i < l.length
    · obtain ⟨b, o, rfl, hb, hc⟩ := hcell hl
      obtain ⟨r, hx⟩ : ∃ r, l[i]? = some r := ⟨_, List.getElem?_eq_getElem hlt⟩
      have hg := hgood r (List.mem_of_getElem? hx)
      obtain ⟨q1, q2⟩ : cellsAt wr b (o + i * 36) 36 = r.cells ∧ hasCells wr b (o + i * 36) 36 = true := cellsAt_of_range (fun j v hj => (World.cell?_of_block (w := w) (HL.kept.block b hb id)).trans (hc i r hx j v hj)) hg.1
      have htk : ((l.take (i + 1)).map fun r => oneS r.seq r.items) = ((l.take i).map fun r => oneS r.seq r.items) ++ [oneS r.seq r.items] := by rw [take_snoc' hx]; simp
      have hz : r.cells.toArray.size = 36 := by simpa using hg.1
      have ho := hg.2.2.2.2.2.2
      have htkh := Lib.hid htk
      clear hx hc hcell htk
      have HA : St (fun _ => False) w _ [_, _] := HL.allocAt rfl r.cells.toArray 82
      go_upto_region 7 with (fail)
      obtain ⟨wa, hwa⟩ : ∃ wa, wr.alloc (.cells r.cells.toArray 82) = wa := ⟨_, rfl⟩
      obtain ⟨ob, hob⟩ : ∃ ob, wr.heap.size = ob := ⟨_, rfl⟩
      rw [hwa, hob] at HA
      try rw [hwa]
      try simp only [hob]
      clear hwa hob q1 q2 HL
      obtain ⟨q1, q2⟩ := blk_whole (HA.blk 0 rfl) (n := 36) hg.1
      have ko := idx_one (RC := r.cells.toArray) wa (by simpa using hg.2.1) (by simpa using hg.2.2.1) (hg.2.2.2.1.later HA.kept) hg.2.2.2.2.1
      obtain ⟨J, hJ⟩ : ∃ J, oneS r.seq r.items = J := ⟨_, rfl⟩
      rw [hJ] at ko htkh
      clear hJ
      obtain ⟨jf, jt, jl, jg⟩ := J
      unfold strV at ko
      simp only at ko
      go_wp2_with (first
        | (go_at_call 55; go_must (refine (St.callPast ko HA).mono ?_; rintro e w3 ⟨rfl, H3⟩))
        | (at_builtin; go_must (refine St.list_app (H3.skip _) 1 rfl rfl (.tmp 23) (.tmp 26) 67 rfl Try.underlying67 Try.info76 (by decide) rfl [.int .i64 jf, .int .i64 jt, .int .i64 jl, .int .i64 jg] rfl rfl (new_cells #[.int .i64 jf, .int .i64 jt, .int .i64 jl, .int .i64 jg] _) (by simp [Value.oneCell']) (by omega) (by omega) ?_; intro g5 cap5 w5 H5 hz5)))
      go_roundw
      case rel =>
        refine ⟨i + 1, by omega, by go_num, ?_⟩
        rw [htkh.out, strs_app, strs_one]
        exact St.tail H5
      case measure => simp [intOf]; omega
    · obtain rfl : i = l.length := by omega
      rw [List.take_length] at HL
      obtain ⟨low, hlow⟩ : ∃ low, (l.map fun r => oneS r.seq r.items) = low := ⟨_, rfl⟩
      have hlowl : low.length = l.length := by rw [← hlow]; simp
      rw [hlow] at HL
      obtain ⟨g, cp, rfl⟩ := row_form (HL.row 0 rfl) hlowl.symm (by omega)
      have hT := Lib.hid (show climb width l.length (l.map fun r => oneS r.seq r.items) = [] ++ climb width l.length low by rw [hlow]; rfl)
      have hfu : low.length ≤ l.length + 1 := by omega
      clear hlow
      have HX : St (fun _ => False) w _ [_, _] := HL.allocAt rfl #[.slice (some ⟨g, 0, none⟩) low.length cp] 67
      rw [hlowl] at HX
      have HY := St.blkRow (n := 1) (size := 1) HX rfl (by decide)
      have HZ : St (fun _ => False) w (wr.alloc (.cells #[.slice (some ⟨g, 0, none⟩) l.length cp] 67)) [SP.all ([] ++ [Row 76 4 (.slice (some ⟨g, 0, none⟩) l.length cp) l.length (strs low)]), Row 67 1 (.slice (some ⟨wr.heap.size, 0, none⟩) 1 1) (0 + 1) ([] ++ [.slice (some ⟨g, 0, none⟩) l.length cp])] := rows_snoc (rows := []) (St.all_iff.2 (HY.pick [1, 0]))
      have hcov : Cover ([] ++ [.slice (some ⟨g, 0, none⟩) l.length cp]) ([] ++ [Row 76 4 (.slice (some ⟨g, 0, none⟩) l.length cp) l.length (strs low)]) ([] ++ [low]) := by
        have h := Cover.snoc (vals := []) (rows := []) (lv := []) ⟨rfl, fun k v s h => by simp at h⟩ (.slice (some ⟨g, 0, none⟩) l.length cp) low
        rw [hlowl] at h
        exact h
      go_upto_block 5 with (fail)
      go_loopw [8] (fun u wr => ∃ (m f c' : Nat) (a : Option Addr) (pre : List (List Str)) (vals0 : List Value) (rows : List SP) (cur : List Str),
        Hid (climb width l.length (l.map fun r => oneS r.seq r.items) = pre ++ climb width f cur) ∧ m + f = l.length ∧ cur.length ≤ f + 1 ∧ vals0.length = m ∧ cur.length ≤ 1000000 ∧ Cover (vals0 ++ [.slice a cur.length c']) rows (pre ++ [cur]) ∧
        St (fun _ => False) w wr [SP.all rows, Row 67 1 u (m + 1) (vals0 ++ [.slice a cur.length c'])]) (fun u _ => l.length + 1 - lenV u)
      case atStart => exact ⟨0, l.length, cp, some ⟨g, 0, none⟩, [], [], _, low, hT, by omega, hfu, rfl, by omega, by rw [hlowl]; exact hcov, by rw [hlowl]; exact HZ⟩
      case round =>
        clear HZ HX HY HL hcov hT
        obtain ⟨m, f, c', a, pre, vals0, rows, cur, hT, hmf, hcf, hv0, hcl, hcov, HL⟩ := hrel
        obtain ⟨g, cp, rfl⟩ := row_form (HL.row 1 rfl) rfl (by omega)
        have hlast : (vals0 ++ [.slice a cur.length c'])[m]? = some (.slice a cur.length c') := by rw [← hv0]; simp
        have c0 := HL.rowCell 1 m rfl hlast
        have hwr : IntKind.i64.wrap (m : Int) = m := by rw [IntKind.wrap_i64]; omega
        have hmm : (m : Int) < (m : Int) + 1 := by omega
        have hmem := hcov.2 m (.slice a cur.length c') cur hlast (by rw [List.getElem?_append_right (by have := hcov.1; simp at this; omega)]; have := hcov.1; simp at this; simp [show m - pre.length = 0 by omega])
        have hro := (str_row (rows_get HL hmem)).1
        by_cases h1 : (1 : Int) < cur.length
        · have z5 : decide ((1 : Int) < (cur.length : Int)) = true := by simpa using h1
          obtain ⟨f', rfl⟩ : ∃ f', f = f' + 1 := ⟨f - 1, by omega⟩
          have hT2 : Hid (climb width l.length (l.map fun r => oneS r.seq r.items) = (pre ++ [cur]) ++ climb width f' (aboveS width cur)) := by
            have := hT.out
            rw [climb_step (width := width) (f := f') (l := cur) (by omega)] at this
            exact Lib.hid (by rw [this, List.append_assoc]; rfl)
          have hless := aboveS_less hw.1 (l := cur) (by omega)
          have ka := idx_above width wr hro (by omega) ⟨by omega, hw.2⟩
          obtain ⟨up, hup⟩ : ∃ up, aboveS width cur = up := ⟨_, rfl⟩
          rw [hup] at ka hT2 hless
          clear hT hmem hro hlast hup
          go_wp2_with (first
            | (go_at_call 58; go_must (refine ka.mono ?_; rintro e w3 ⟨v', rfl, H3⟩; have H4 : St (fun _ => False) w w3 [Row 76 4 v' up.length (strs up), SP.all rows, Row 67 1 (.slice (some ⟨g, 0, none⟩) (m + 1) cp) (m + 1) (vals0 ++ [.slice a cur.length c'])] := HL.call0 H3; obtain ⟨a2, c2, rfl, _, _⟩ := slice_form' (H4.row 0 rfl)))
            | (at_builtin; go_must (refine St.list_app (H4.skip _) 2 rfl rfl (.tmp 39) (.tmp 48) 63 rfl Try.underlying63 Try.info67 (by decide) rfl [.slice a2 up.length c2] rfl rfl (new_cells #[.slice a2 up.length c2] _) (by simp [Value.oneCell']) (by omega) (by omega) ?_; intro g5 cap5 w5 H5 hz5)))
          go_roundw
          case rel =>
            refine ⟨m + 1, f', c2, a2, pre ++ [cur], vals0 ++ [.slice a cur.length c'], rows ++ [Row 76 4 (.slice a2 up.length c2) up.length (strs up)], up, hT2, by omega, by omega, by simp [hv0], by omega, hcov.snoc _ _, ?_⟩
            exact rows_snoc (H5.pick [1, 0, 2])
          case measure => simp [lenV]; omega
        · have z5 : decide ((1 : Int) < (cur.length : Int)) = false := by simpa using h1
          have hT2 : Hid (climb width l.length (l.map fun r => oneS r.seq r.items) = pre ++ [cur]) := by
            have := hT.out
            rw [climb_stop (width := width) (f := f) (l := cur) (by omega)] at this
            exact Lib.hid this
          clear hT hmem hro hlast
          go_wp2
          go_ret
          rw [hT2.out]
          refine ⟨_, rfl, _, rows, hcov, ?_⟩
          have hvl : (vals0 ++ [Value.slice a cur.length c']).length = m + 1 := by simp [hv0]
          rw [hvl]
          exact HL
end

end Go.Proofs.Ytbikjhmdpgoofaa
