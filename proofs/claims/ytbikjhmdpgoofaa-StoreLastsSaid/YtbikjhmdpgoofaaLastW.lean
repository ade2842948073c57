/- The walk of StoreLasts. Conditions: the ops and what is kept can be read. -/
import Derived.Test.YtbikjhmdpgoofaaLastM
import Derived.Test.YtbikjhmdpgoofaaBits
namespace Go.Proofs.Ytbikjhmdpgoofaa
open Go.RowKit

/-- An op as it lies in memory. -/
structure OpV where
  kind : Int
  at' : Int
  n : Int
  Bv : Value
  kv : Value
  B : List UInt8
  keep : List Bool
def OpsRO (w : World) (v : Value) (l : List OpV) : Prop :=
  ∃ ad cap, v = .slice ad l.length cap ∧ l.length ≤ 9223372036854775807 ∧ (∀ x ∈ l, BytesRO (fun _ => False) w x.Bv x.B ∧ x.B.length ≤ 9223372036854775807 ∧ BoolsRO (fun _ => False) w x.kv x.keep) ∧
    (l ≠ [] → ∃ b o, ad = some ⟨b, o, none⟩ ∧ b < w.heap.size ∧ ∀ i x, l[i]? = some x → w.rangeAt b (o + i * 5) (opCells x.kind x.at' x.n x.Bv x.kv).toList)

/-- An element of it, while what came in lies there. -/
theorem OpsRO.elem {w wr : World} {bo o k : Nat} {cs : List Value} {l : List SP} (HL : St (fun _ => False) w wr l) (hb : bo < w.heap.size) (h : w.rangeAt bo o cs) (hn : cs.length = k) : cellsAt wr bo o k = cs ∧ hasCells wr bo o k = true :=
  cellsAt_of_range (fun j v hj => (World.cell?_of_block (w := w) (HL.kept.block bo hb id)).trans (h j v hj)) hn
theorem run_load52 {a : Act} {w : World} {dst : Option Tmp} {ty' : TypeId} {pos : String} {after : Array Edge} {g : Option (Nat × Bool)} {x : Operand}
    (hp : plainPtr (a.eval x) = true) (hc : hasCells w (blockOf (a.eval x)) (placeOf (a.eval x)) 5 = true) :
    (execOp a.eval ⟨dst, .load 52 x, ty', pos, after, g⟩).run Try.prog w = .ok (.value (.agg (cellsAt w (blockOf (a.eval x)) (placeOf (a.eval x)) 5).toArray)) w :=
  run_load_at Try.underlying52 rfl (by kernel_rfl) hp hc
theorem run_store52 {a : Act} {w : World} {dst : Option Tmp} {ty' : TypeId} {pos : String} {after : Array Edge} {g : Option (Nat × Bool)} {x y : Operand}
    (hp : plainPtr (a.eval x) = true) (ho : placeOf (a.eval x) = 0) (hr : rowSize w (blockOf (a.eval x)) = 5) (hv : isAggV (a.eval y) = true) (hs : (aggOf (a.eval y)).size = 5) (h1 : allOne (aggOf (a.eval y)) = true) :
    (execOp a.eval ⟨dst, .store 52 x y, ty', pos, after, g⟩).run Try.prog w = .ok .skip (w.setRow (blockOf (a.eval x)) (aggOf (a.eval y))) :=
  run_store_at (by kernel_rfl) (by omega) hp ho hr hv hs h1
theorem run_load49 {a : Act} {w : World} {dst : Option Tmp} {ty' : TypeId} {pos : String} {after : Array Edge} {g : Option (Nat × Bool)} {x : Operand}
    (hp : plainPtr (a.eval x) = true) (hc : hasCells w (blockOf (a.eval x)) (placeOf (a.eval x)) 8 = true) :
    (execOp a.eval ⟨dst, .load 49 x, ty', pos, after, g⟩).run Try.prog w = .ok (.value (.agg (cellsAt w (blockOf (a.eval x)) (placeOf (a.eval x)) 8).toArray)) w :=
  run_load_at Try.underlying49 rfl (by kernel_rfl) hp hc
theorem run_store49 {a : Act} {w : World} {dst : Option Tmp} {ty' : TypeId} {pos : String} {after : Array Edge} {g : Option (Nat × Bool)} {x y : Operand}
    (hp : plainPtr (a.eval x) = true) (ho : placeOf (a.eval x) = 0) (hr : rowSize w (blockOf (a.eval x)) = 8) (hv : isAggV (a.eval y) = true) (hs : (aggOf (a.eval y)).size = 8) (h1 : allOne (aggOf (a.eval y)) = true) :
    (execOp a.eval ⟨dst, .store 49 x y, ty', pos, after, g⟩).run Try.prog w = .ok .skip (w.setRow (blockOf (a.eval x)) (aggOf (a.eval y))) :=
  run_store_at (by kernel_rfl) (by omega) hp ho hr hv hs h1
attribute [local go_sem ↓] run_load52 run_store52 run_load49 run_store49

set_option maxHeartbeats 4000000 in
set_option maxRecDepth 100000 in
theorem lasts_walk {lv kv : Value} {torn cut : Int} {ops : List OpV} {keep : List Bool} (w : World) (hl : OpsRO w lv ops) (hk : BoolsRO (fun _ => False) w kv keep) :
    Calls Try.prog 4 #[.agg #[lv, kv, .int .i64 torn, .int .i64 cut]] w fun e w' => e = .returned (.bool true) ∧ Below w.heap.size w w' := by
  obtain ⟨ad, cap, rfl, hlen, hops, hl⟩ := hl
  have hk0 := hk
  obtain ⟨kad, kcap, rfl, hklen, hkc⟩ := hk0
  go_enter Try.func4, Try.ntmps4
  go_wp2_with fail
  refine (first12 _).mono ?_
  rintro e w1 ⟨rfl, hb⟩
  go_wp2_with fail
  have H0 := ((St.nil (fun _ => False) w).allocAt rfl #[.slice ad ops.length cap, .slice kad keep.length kcap, .int .i64 torn, .int .i64 cut] 48).past hb
  have c0 := H0.cell 0 0 rfl rfl
  have c1 := H0.cell 0 1 rfl rfl
  have c2 := H0.cell 0 2 rfl rfl
  have c3 := H0.cell 0 3 rfl rfl
  go_quiet (fail)
  have H1 := H0.drewN nq
  clear H0 c0 c1 c2 c3
  go_wp2_with fail
  refine (store_made 8 (by omega) (by omega) _).mono ?_
  rintro e w2 ⟨b, rfl, H2⟩
  have H3 : St _ w w2 [StoreAt b (newStore 8)] := (H1.tail.call0 H2)
  clear H1 H2
  go_wp2_with fail
  have H4 : St _ w _ [Blk (w2.heap.size + 1) _ _, Blk w2.heap.size _ _, StoreAt b (newStore 8)] := (H3.allocAt (B := w2.heap.size) rfl (texts none8).toArray 49).allocAt (B := w2.heap.size + 1) (by simp) (texts none8).toArray 49
  clear H3 hb
  go_loopw [41] (fun j wr => ∃ (k : Nat) (m : StM) (want synced : List (List UInt8)), k ≤ ops.length ∧ k ≤ 40 ∧ j = .int .i64 k ∧ Lasts m want synced k ∧
      St (fun _ => False) w wr [StoreAt b m, Blk w2.heap.size (texts want).toArray 49, Blk (w2.heap.size + 1) (texts synced).toArray 49])
    (fun j _ => 40 - (intOf j).toNat)
  case atStart => exact ⟨0, _, _, _, by omega, by omega, rfl, lasts_start, H4.pick [2, 1, 0]⟩
  case round =>
    clear H4
    obtain ⟨k, m, want, synced, hk1, hk2, rfl, hL, HL⟩ := hrel
    by_cases hlt : k < ops.length
    · obtain ⟨x, hx⟩ : ∃ x, ops[k]? = some x := ⟨_, List.getElem?_eq_getElem hlt⟩
      obtain ⟨hB, hBl, hB5⟩ := hops x (List.mem_of_getElem? hx)
      obtain ⟨bo, o, rfl, hbo, hcells⟩ := hl (by rintro rfl; simp at hlt)
      have hc0 := hcells k x hx
      obtain ⟨q1, q2⟩ := OpsRO.elem HL hbo hc0 (k := 5) rfl
      clear hc0 hcells hops hl
      obtain ⟨kind, at', n5, x4, x5, B, x7⟩ := x
      clear hx
      simp only at hB hBl q1 q2 hB5
      obtain ⟨ad4, cap4, rfl, hB4⟩ := hB
      obtain ⟨ad5, cap5, rfl, _⟩ := hB5
      have hB : BytesRO (fun _ => False) w (.slice ad4 B.length cap4) B := ⟨ad4, cap4, rfl, hB4⟩
      by_cases h40 : k = 40
      · subst h40
        go_wp2
        go_ret
        exact ⟨rfl, (HL.skip _).below (Nat.le_refl _) (fun _ h => h.elim)⟩
      · have h40' : decide ((40 : Int) ≤ k) = false := by simp; omega
        go_wp2_with fail
        have H5 := HL.alloc #[.int .i64 kind, .int .i64 at', .int .i64 n5, .slice ad4 B.length cap4, .slice ad5 x7.length cap5] 52
        refine (op_whole (hB.move H5.kept) hBl).mono ?_
        rintro e w3 ⟨v, rfl, hv⟩
        have H6 : St (fun _ => False) w w3 [Blk wr.heap.size #[.int .i64 kind, .int .i64 at', .int .i64 n5, .slice ad4 B.length cap4, .slice ad5 x7.length cap5] 52, StoreAt b m, Blk w2.heap.size (texts want).toArray 49, Blk (w2.heap.size + 1) (texts synced).toArray 49] := by
          rcases hv with ⟨_, _, h⟩ | ⟨_, g, _, h⟩
          · exact H5.call0 h
          · exact (H5.call0 h).tail
        have c0 := H6.cell 0 0 rfl rfl
        have c1 := H6.cell 0 1 rfl rfl
        obtain ⟨at8, h8, hat⟩ := and7 at'
        have hkd := and1 kind
        have hpath : (kind % 2 = 0 ∧ B.length = 1) ∨ (kind % 2 = 0 ∧ B.length ≠ 1) ∨ kind % 2 ≠ 0 := by omega
        rcases hpath with ⟨hev, hB1⟩ | ⟨hev, hB1⟩ | hev
        case' inl =>
          have hev' : (kind % 2 == 0) = true := by simp [hev]
          obtain ⟨_, rfl, _⟩ := hv.resolve_right (fun h => h.1 hB1)
          have hB' := hB
          rw [hB1] at hB'
          have hW := (hL.write (by omega) h8 B).2 (by omega)
          go_wp2_with fail
          obtain ⟨S1, K1, R1, G1⟩ := St.lendIn (l1 := [_]) (H6.pick [1, 0, 2, 3]) hB'
          refine (store_write hL.good (by have := hL.few; omega) R1 K1).mono ?_
          rintro e w4 ⟨rfl, H7⟩
          rw [hW] at H7 ⊢
          obtain ⟨m2, want2, synced2, hL2, H8⟩ : ∃ m2 want2 synced2, Lasts m2 want2 synced2 (k + 1) ∧ St (fun _ => False) w w4 [StoreAt b m2, Blk w2.heap.size (texts want2).toArray 49, Blk (w2.heap.size + 1) (texts synced2).toArray 49] :=
            ⟨m, want, synced, hL.more (by omega), (G1 _ _ H7).pick [0, 2, 3]⟩
          obtain ⟨w5, hw5⟩ : ∃ w5, w4 = w5 := ⟨_, rfl⟩
          subst hw5
          clear H7 G1 K1 R1 H6 c0 c1 hW hv H5 HL hL q1 q2
          obtain ⟨q3, q4⟩ := blk_whole (H8.blk 1 rfl) (n := 8) (len_texts hL2.want8)
          go_wp2_with fail
        case' inr.inl =>
          have hev' : (kind % 2 == 0) = true := by simp [hev]
          obtain ⟨_, g, rfl, hv'⟩ := hv.resolve_left (fun h => hB1 h.1)
          have H6 : St _ w w3 [_, _, _, _, _] := H5.call0 hv'
          have hW := (hL.write (by omega) h8 (wholeOf B)).1 (length_whole B hB1)
          go_wp2_with fail
          obtain ⟨S1, K1, R1, G1⟩ := St.lend (l1 := [_]) (H6.pick [2, 0, 1, 3, 4]) (n := 128) (length_whole B hB1)
          refine (store_write hL.good (by have := hL.few; omega) R1 K1).mono ?_
          rintro e w4 ⟨rfl, H7⟩
          have H8 : St _ w w4 [StoreAt b _, _, _, _, _] := G1 _ _ H7
          rw [hW.1]
          have c0 := H8.cell 2 0 rfl rfl
          have c1 := H8.cell 2 1 rfl rfl
          have hcv : (convert 50 9 (.slice (some ⟨g, 0, none⟩) 128 128)).run Try.prog w4 = .ok (.string ⟨(wholeOf B).toArray⟩) w4 :=
            conv_text (o := 0) (fun j v hj => by rw [cell_blk (H8.blk 1 rfl)]; simpa using hj) (length_whole B hB1)
          have f1 := H8.free 3 at8 rfl
          have c2 := H8.cell 3 at8 rfl (v := .string ⟨(want.getD at8 []).toArray⟩) (texts_at hL.want8 h8)
          have H9 : St _ _ _ [_, _, _, _, _] := H8.set 3 rfl at8 (.string ⟨(wholeOf B).toArray⟩)
          rw [texts_set] at H9
          obtain ⟨q3, q4⟩ := blk_whole (H9.blk 3 rfl) (n := 8) (len_texts hW.2.want8)
          go_wp2_with fail
          obtain ⟨w5, hw5⟩ : ∃ w5, w4.setCell ⟨w2.heap.size, at8, none⟩ (.string ⟨(wholeOf B).toArray⟩) = w5 := ⟨_, rfl⟩
          rw [hw5] at H9 q3 q4 ⊢
          obtain ⟨m2, want2, synced2, he2, hL2, H8⟩ : ∃ m2 want2 synced2, want.set at8 (wholeOf B) = want2 ∧ Lasts m2 want2 synced2 (k + 1) ∧ St (fun _ => False) w w5 [StoreAt b m2, Blk w2.heap.size (texts want2).toArray 49, Blk (w2.heap.size + 1) (texts synced2).toArray 49] :=
            ⟨_, _, _, rfl, hW.2, H9.pick [0, 3, 4]⟩
          rw [he2] at q3 ⊢
        case' inr.inr =>
          have hev' : (kind % 2 == 0) = false := by simp [hev]
          have hW := hL.sync
          go_wp2_with fail
          obtain ⟨S1, K1, G1⟩ := St.call (l1 := [_]) (H6.pick [1, 2, 3])
          refine (store_sync hL.good K1).mono ?_
          rintro e w4 ⟨rfl, H7⟩
          have H8 : St _ w w4 [StoreAt b m.sync.2, _, _] := G1 _ _ H7
          rw [hW.1]
          obtain ⟨q3, q4⟩ := blk_whole (H8.blk 1 rfl) (n := 8) (len_texts hL.want8)
          have r1 := (rowSize_of (H8.blk 2 rfl)).trans (size_texts hL.sync8)
          have r2 := size_texts hL.want8
          have r3 := all_texts want
          have H9 : St _ _ _ [_, _, _] := H8.setRow 2 rfl (texts want).toArray
          obtain ⟨q5, q6⟩ := blk_whole (H9.blk 1 rfl) (n := 8) (len_texts hL.want8)
          go_wp2_with fail
          obtain ⟨w5, hw5⟩ : ∃ w5, w4.setRow (w2.heap.size + 1) (texts want).toArray = w5 := ⟨_, rfl⟩
          rw [hw5] at H9 q5 q6 ⊢
          obtain ⟨m2, want2, synced2, he2, hL2, H8⟩ : ∃ m2 want2 synced2, want = want2 ∧ Lasts m2 want2 synced2 (k + 1) ∧ St (fun _ => False) w w5 [StoreAt b m2, Blk w2.heap.size (texts want2).toArray 49, Blk (w2.heap.size + 1) (texts synced2).toArray 49] :=
            ⟨_, _, _, rfl, hW.2, H9⟩
          rw [he2] at q5 ⊢
        all_goals
          go_loopw [72] (fun j wr2 => ∃ (q : Nat) (m3 : StM), q ≤ 8 ∧ j = .int .i64 q ∧ Lasts m3 want2 synced2 (k + 1) ∧
              St (fun _ => False) w wr2 [StoreAt b m3, Blk w2.heap.size (texts want2).toArray 49, Blk (w2.heap.size + 1) (texts synced2).toArray 49])
            (fun j _ => 8 - (intOf j).toNat)
          case atStart => exact ⟨0, _, by omega, rfl, hL2, H8⟩
          case round =>
            clear hL2 H8
            obtain ⟨q, m3, hq8, rfl, hL3, H11⟩ := hrel
            by_cases hq : q < 8
            · have t1 : (Instr.index 49 (.agg (texts want2).toArray) (.int .i64 q)).run Try.prog wr = .ok _ wr := run_index_one Try.underlying49 (by kernel_rfl) (by kernel_rfl) hq (texts_at hL3.want8 hq)
              obtain ⟨g1, g2, g3, _, _⟩ := hL3.read hq
              have hwant := hL3.wants q hq
              have hgood := hL3.good
              clear hL3
              obtain ⟨y, hy⟩ : ∃ y, want2.getD q [] = y := ⟨_, rfl⟩
              rw [hy] at t1 hwant
              clear hy
              go_wp2_with fail
              obtain ⟨S1, K1, G1⟩ := St.call (l1 := [_]) H11
              refine (store_read hgood K1).mono ?_
              rintro e w6 ⟨v, rfl, H12⟩
              rw [g2] at H12
              have H13 : St _ w w6 [BytesAt v (m3.look q), StoreAt b (m3.read q).2.2, _, _] := G1 _ _ H12
              rw [g1]
              obtain ⟨S6, hS6⟩ := H13.sep.get 0 rfl
              have hcv := conv_at hS6
              obtain ⟨av, lv, cv, rfl⟩ : ∃ av lv cv, v = .slice av lv cv := by
                rcases hS6 with ⟨_, h, _⟩ | ⟨_, _, h, _⟩
                · exact ⟨_, _, _, h⟩
                · exact ⟨_, _, _, h⟩
              clear hS6 G1 K1 H12 t1 g1 g2 H11
              have H14 : St _ w w6 [_, _, _] := H13.tail
              clear H13
              by_cases hy : y = []
              · clear hwant hcv
                subst hy
                go_wp2
                go_roundw
                case rel => exact ⟨q + 1, _, by omega, by go_num, g3, H14⟩
                case measure => simp [intOf]; omega
              · rw [hwant hy] at hcv
                clear hwant
                go_wp2
                go_roundw
                case rel => exact ⟨q + 1, _, by omega, by go_num, g3, H14⟩
                case measure => simp [intOf]; omega
            · obtain rfl : q = 8 := by omega
              go_wp2
              go_roundw
              case rel => exact ⟨k + 1, _, _, _, by omega, by omega, by go_num, hL3, H11⟩
              case measure => simp [intOf]; omega
    · obtain rfl : k = ops.length := by omega
      clear hl hops
      go_wp2_with fail
      have H1 : St _ _ _ [_, _, _, _] := HL.allocAt (B := wr.heap.size) rfl (bools (List.replicate 8 false)).toArray 57
      obtain ⟨S1, K1, G1⟩ := St.call (l1 := [_]) (H1.pick [1, 0, 2, 3])
      refine (store_waits hL.good K1).mono ?_
      rintro e w3 ⟨vw, rfl, H2⟩
      have H3 : St _ w w3 [Row 3 1 vw m.waits.length (intCells (m.waits.map (·.1))), StoreAt b m, Blk wr.heap.size (bools (List.replicate 8 false)).toArray 57, _, _] := G1 _ _ H2
      clear H1 H2 G1 K1 HL
      obtain ⟨aw, cw, rfl, hrow⟩ : ∃ aw cw, vw = .slice aw m.waits.length cw ∧ (0 < m.waits.length → ∃ g, aw = some ⟨g, 0, none⟩) := by
        rcases own_shape (H3.row 0 rfl) with ⟨h, h2⟩ | ⟨g, cap, h, _⟩
        · exact ⟨none, 0, by rw [h, h2], fun h3 => by omega⟩
        · exact ⟨_, _, h, fun _ => ⟨g, rfl⟩⟩
      have hwl : m.waits.length ≤ 1000000 := hL.good.room
      go_wp2_with fail
      obtain ⟨ba, hba⟩ : ∃ ba, wr.heap.size = ba := ⟨_, rfl⟩
      rw [hba] at H3 ⊢
      go_loopw [99] (fun j w4 => ∃ i : Nat, i ≤ m.waits.length ∧ j = .int .i64 i ∧ St (fun _ => False) w w4 [Row 3 1 (.slice aw m.waits.length cw) m.waits.length (intCells (m.waits.map (·.1))), StoreAt b m,
          Blk ba (bools (awayOf ((m.waits.map (·.1)).take i))).toArray 57, Blk w2.heap.size (texts want).toArray 49, Blk (w2.heap.size + 1) (texts synced).toArray 49])
        (fun j _ => m.waits.length - (intOf j).toNat)
      case atStart => exact ⟨0, by omega, rfl, H3⟩
      case round =>
        clear H3
        obtain ⟨i, hi, rfl, H4⟩ := hrel
        by_cases hlt : i < m.waits.length
        · obtain ⟨g, rfl⟩ := hrow (by omega)
          obtain ⟨y, hy⟩ : ∃ y, m.waits[i]? = some y := ⟨_, List.getElem?_eq_getElem hlt⟩
          obtain ⟨y1, y2, _⟩ := hL.good.waits y (List.mem_of_getElem? hy)
          rw [hL.eight] at y2
          obtain ⟨a, ha⟩ := Int.eq_ofNat_of_zero_le y1
          have hy2 : (m.waits.map (·.1))[i]? = some (a : Int) := by simp [hy, ha]
          have c0 : wr.cell? ⟨g, i, none⟩ = some (.int .i64 (a : Int)) := own_cell (H4.row 0 rfl) (by simp only [intCells, List.getElem?_map, hy2, Option.map_some])
          have f0 := H4.free 2 a rfl
          have ha8 : a < 8 := by omega
          have c1 := H4.cell 2 a rfl (bools_at (away_len _) ha8)
          have d1 : decide ((7 : Int) < a) = false := by simp; omega
          have hsn := Lib.hid (take_snoc' hy2)
          have H5 : St _ w _ [_, _, _, _, _] := H4.set 2 rfl a (.bool true)
          have e5 := away_snoc ((m.waits.map (·.1)).take i) (a : Int)
          rw [bools_set, show (a : Nat) = ((a : Int)).toNat from rfl, ← e5, ← hsn.out] at H5
          clear hy hy2 H4 ha e5
          go_wp2
          go_roundw
          case rel => exact ⟨i + 1, by omega, by go_num, H5⟩
          case measure => simp [intOf]; omega
        · obtain rfl : i = m.waits.length := by omega
          have hr8 : ∀ y ∈ m.waits.map (·.1), 0 ≤ y ∧ y < 8 := by
            intro y hy
            obtain ⟨z, hz, rfl⟩ := List.mem_map.1 hy
            have := hL.good.waits z hz
            rw [hL.eight] at this
            exact ⟨this.1, this.2.1⟩
          rw [List.take_of_length_le (by simp)] at H4
          obtain ⟨away, haw⟩ : ∃ away, awayOf (m.waits.map (·.1)) = away := ⟨_, rfl⟩
          have hal : away.length = 8 := by rw [← haw]; exact away_len _
          have hC := hL.crash (away := away) (fun x hx => by rw [← haw]; exact away_has (List.mem_map.2 ⟨x, hx, rfl⟩) hr8) keep torn cut
          rw [haw] at H4
          clear haw hr8
          go_wp2_with fail
          obtain ⟨S1, K1, R1, G1⟩ := St.lendBools (l1 := [_]) (H4.pick [1, 2, 4, 0, 3]) hk
          refine (store_crash hL.good R1 K1).mono ?_
          rintro e w5 ⟨rfl, H5⟩
          have H6 : St _ w w5 [StoreAt b _, Blk ba (bools away).toArray 57, _] := (G1 _ _ H5).pick [0, 1, 2]
          obtain ⟨q3, q4⟩ := blk_whole (H6.blk 2 rfl) (n := 8) (len_texts hL.sync8)
          clear H5 K1 R1 G1 H4 hL
          obtain ⟨mc, hmc⟩ : ∃ mc, m.crash keep torn cut = mc := ⟨_, rfl⟩
          rw [hmc] at hC H6
          go_wp2_with fail
          go_loopw [118] (fun j wr2 => ∃ (q : Nat) (m3 : StM), q ≤ 8 ∧ j = .int .i64 q ∧ Lasted m3 synced away ∧
              St (fun _ => False) w wr2 [StoreAt b m3, Blk ba (bools away).toArray 57, Blk (w2.heap.size + 1) (texts synced).toArray 49])
            (fun j _ => 8 - (intOf j).toNat)
          case atStart => exact ⟨0, _, by omega, rfl, hC, H6⟩
          case round =>
            clear H6 hC
            obtain ⟨q, m3, hq8, rfl, hL3, H11⟩ := hrel
            by_cases hq : q < 8
            · have t1 : (Instr.index 49 (.agg (texts synced).toArray) (.int .i64 q)).run Try.prog wr = .ok _ wr := run_index_one Try.underlying49 (by kernel_rfl) (by kernel_rfl) hq (texts_at hL3.sync8 hq)
              obtain ⟨g1, g2, g3⟩ := hL3.read hq
              have hwant := hL3.syncs q hq
              have hgood := hL3.good
              clear hL3
              obtain ⟨y, hy⟩ : ∃ y, synced.getD q [] = y := ⟨_, rfl⟩
              rw [hy] at t1 hwant
              clear hy
              go_wp2_with fail
              obtain ⟨S1, K1, G1⟩ := St.call (l1 := [_]) H11
              refine (store_read hgood K1).mono ?_
              rintro e w6 ⟨v, rfl, H12⟩
              rw [g2] at H12
              have H13 : St _ w w6 [BytesAt v (m3.look q), StoreAt b (m3.read q).2.2, _, _] := G1 _ _ H12
              rw [g1]
              obtain ⟨S6, hS6⟩ := H13.sep.get 0 rfl
              have hcv := conv_at hS6
              obtain ⟨av, lv, cv, rfl⟩ : ∃ av lv cv, v = .slice av lv cv := by
                rcases hS6 with ⟨_, h, _⟩ | ⟨_, _, h, _⟩
                · exact ⟨_, _, _, h⟩
                · exact ⟨_, _, _, h⟩
              clear hS6 G1 K1 H12 t1 g1 g2 H11
              have H14 : St _ w w6 [_, _, _] := H13.tail
              clear H13
              by_cases hy : y = []
              · clear hwant hcv
                subst hy
                go_wp2
                go_roundw
                case rel => exact ⟨q + 1, _, by omega, by go_num, g3, H14⟩
                case measure => simp [intOf]; omega
              · have cw := H14.cell 1 q rfl (bools_at hal hq)
                have hwant := hwant hy
                obtain ⟨yb, hyb⟩ : ∃ yb, away.getD q false = yb := ⟨_, rfl⟩
                rw [hyb] at cw hwant
                clear hyb
                cases yb
                · rw [hwant rfl] at hcv
                  clear hwant
                  go_wp2
                  go_roundw
                  case rel => exact ⟨q + 1, _, by omega, by go_num, g3, H14⟩
                  case measure => simp [intOf]; omega
                · clear hwant hcv
                  go_wp2
                  go_roundw
                  case rel => exact ⟨q + 1, _, by omega, by go_num, g3, H14⟩
                  case measure => simp [intOf]; omega
            · obtain rfl : q = 8 := by omega
              have hno := hL3.none
              go_wp2_with fail
              obtain ⟨S1, K1, G1⟩ := St.call (l1 := [_]) H11
              refine (store_waits hL3.good K1).mono ?_
              rintro e w6 ⟨v, rfl, H12⟩
              have H13 : St _ w w6 [Row 3 1 v m3.waits.length _, StoreAt b m3, _, _] := G1 _ _ H12
              rw [hno] at H13
              obtain ⟨av, cv, rfl⟩ : ∃ av cv, v = .slice av 0 cv := by
                rcases own_shape (H13.row 0 rfl) with ⟨h, h2⟩ | ⟨g, cap, h, _⟩
                · exact ⟨none, 0, h⟩
                · exact ⟨_, _, h⟩
              go_wp2
              go_ret
              exact ⟨rfl, H13.below (Nat.le_refl _) (fun _ h => h.elim)⟩
end Go.Proofs.Ytbikjhmdpgoofaa
