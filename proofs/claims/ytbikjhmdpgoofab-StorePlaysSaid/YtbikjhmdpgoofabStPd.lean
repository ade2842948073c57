/- The walk of played: an op is answered by the store and the reference alike. Conditions: their blocks lie as their makers lay them; the op can be read. -/
import Derived.Test.YtbikjhmdpgoofabStBt
namespace Go.Proofs.Ytbikjhmdpgoofab
open Go.RowKit

theorem store_limit_at {b : Nat} {m : StM} {n : Int} {w : World} {S : Nat → Prop} (hn : -9223372036854775808 ≤ n ∧ n ≤ 9223372036854775807) (H : Sep w [StoreAt b m] S) :
    Calls Try.prog 14 #[.pointer (some ⟨b, 0, none⟩), .int .i64 n] w fun e w' => e = .returned (.tuple #[]) ∧ St S w w' [StoreAt b { m with calls := max n (-1) }] := by
  obtain ⟨bl, br, vw, H⟩ := StoreAt.out H
  obtain ⟨S1, K1, G1⟩ := St.call (l1 := [_]) (St.refl H)
  exact (store_limit hn K1).mono fun e w' ⟨he, H2⟩ => ⟨he, StoreAt.mk (bl := bl) (br := br) (vw := vw) (G1 _ _ H2)⟩
theorem limit_good {m : StM} (hg : m.Good) {n : Int} (hn : n ≤ 9223372036854775807) : ({ m with calls := max n (-1) } : StM).Good := ⟨hg.count, hg.full, hg.reads, hg.waits, hg.room, by simp only; omega⟩
set_option maxHeartbeats 1000000 in
theorem ints_same {v1 v2 : Value} {l : List Int} (w : World) (hl : l.length ≤ 9223372036854775807) (o1 : w.ownsRow 0 3 1 v1 l.length (intCells l)) (o2 : w.ownsRow 0 3 1 v2 l.length (intCells l)) :
    Calls Try.prog 85 #[v1, v2] w fun e w' => e = .returned (.bool true) ∧ Below w.heap.size w w' := by
  obtain ⟨a1, c1, rfl, _, g1⟩ := slice_form' o1
  obtain ⟨a2, c2, rfl, _, g2⟩ := slice_form' o2
  have H0 : St (fun _ => False) w w [] := St.nil (fun _ => False) w
  have hz : ((l.length : Int) == (l.length : Int)) = true := by simp
  go_enter Try.func85, Try.ntmps85
  go_upto_block 1 with (fail)
  go_loopw [5, 13] (fun _ j wr => ∃ (i : Nat), i ≤ l.length ∧ j = .int .i64 i ∧ St (fun _ => False) w wr []) (fun _ j _ => l.length - (intOf j).toNat)
  case atStart => exact ⟨0, by omega, rfl, H0⟩
  case round =>
    clear H0
    obtain ⟨i, hi, rfl, HL⟩ := hrel
    by_cases hlt : i < l.length
    · obtain ⟨b1, rfl⟩ := g1 (by omega)
      obtain ⟨b2, rfl⟩ := g2 (by omega)
      obtain ⟨y, hy⟩ : ∃ y, l[i]? = some y := ⟨_, List.getElem?_eq_getElem hlt⟩
      have e1 : w.cell? ⟨b1, i, none⟩ = some (.int .i64 y) := own_cell o1 (by simp [intCells, hy])
      have e2 : w.cell? ⟨b2, i, none⟩ = some (.int .i64 y) := own_cell o2 (by simp [intCells, hy])
      have n1 := (o1.lt b1 rfl).2
      have n2 := (o2.lt b2 rfl).2
      clear hy
      go_upto_region 6 with (fail)
      refine wp_calm (fun w' => St (fun _ => False) w w' []) (by kernel_rfl) (by kernel_rfl) (HL.drew) ?_
      iterate 9 first
        | (apply calm_pass
           · rfl
           intro K hK
           go_simp
           refine hK _ ?_
           clear hK K)
        | (apply calm_step
           · rfl
           · intro w1 h1
             have q1 := (World.cell?_of_block (w := w) (a := ⟨b1, i, none⟩) (h1.kept.block b1 n1 id)).trans e1
             have q2 := (World.cell?_of_block (w := w) (a := ⟨b2, i, none⟩) (h1.kept.block b2 n2 id)).trans e2
             first
               | (go_simp
                  first
                    | rfl
                    | exact ⟨rfl, h1⟩
                 )
           intro K hK
           go_simp
           refine hK _ ?_
           clear hK K)
      refine calm_nil ?_
      intro w9 H9
      go_wp2
      go_roundw
      case rel => exact ⟨i + 1, by omega, by go_num, H9⟩
      case measure => simp [intOf]; omega
    · obtain rfl : i = l.length := by omega
      go_wp2
      go_ret
      exact ⟨rfl, HL.below (Nat.le_refl _) (fun _ h => h.elim)⟩
/-- What an op leaves. -/
def Next (m m' : StM) : Prop := m'.Good ∧ m'.waits.length ≤ m.waits.length + 1 ∧ m'.last.length = m.last.length
theorem write_next {m : StM} (hg : m.Good) (hw : m.waits.length ≤ 1000) (at' : Int) (X : List UInt8) : Next m (m.write at' X).2 := by
  refine ⟨write_good hg (by omega) at' X, ?_⟩
  unfold StM.write
  split
  · simp
  · split
    · simp
    · split <;> simp
theorem lay_next {m : StM} (hg : m.Good) (at' : Int) (X : List UInt8) : Next m (m.lay at' X).2 := by
  refine ⟨hg.lay at' X, ?_⟩
  unfold StM.lay
  split
  · have := List.length_filter_le (fun x : Int × List UInt8 => !decide (x.1 = at')) m.waits
    simp only [List.length_set]
    exact ⟨by omega, by simp⟩
  · simp
set_option maxHeartbeats 8000000 in
set_option maxRecDepth 100000 in
theorem st_played {b b2 : Nat} {m : StM} {x : OpV} {imgs : List (List UInt8)} {iv : Value} {w : World} {S : Nat → Prop} (hg : m.Good) (hw : m.waits.length ≤ 1000)
    (hn : -9223372036854775808 ≤ x.n ∧ x.n ≤ 9223372036854775807) (hB : BytesRO S w x.Bv x.B) (hBl : x.B.length ≤ 9223372036854775807) (hk : BoolsRO S w x.kv x.keep)
    (hi0 : imgs ≠ []) (hil : imgs.length ≤ 1000) (hi : ∀ y ∈ imgs, y.length = 128 * m.last.length) (H : Sep w [StoreAt b m, RefAt b2 m, Row 9 1 iv imgs.length (texts imgs)] S) :
    Calls Try.prog 57 #[.pointer (some ⟨b, 0, none⟩), .pointer (some ⟨b2, 0, none⟩), .agg (opCells x.kind x.at' x.n x.Bv x.kv), iv] w fun e w' => e = .returned (.bool true) ∧ ∃ m', Next m m' ∧ St S w w' [StoreAt b m', RefAt b2 m', Row 9 1 iv imgs.length (texts imgs)] := by
  obtain ⟨kind, at', n, Bv, kv, B, keep⟩ := x
  simp only at hn hB hBl hk ⊢
  obtain ⟨ad4, cap4, rfl, _⟩ := id hB
  obtain ⟨ad5, cap5, rfl, _⟩ := id hk
  have hcnt := hg.count
  have H0 : St S w w [StoreAt b m, RefAt b2 m, Row 9 1 iv imgs.length (texts imgs)] := St.refl H
  obtain ⟨av, ac, rfl, _, hav⟩ := slice_form' (H0.row 2 rfl)
  obtain ⟨gv, rfl⟩ := hav (by rw [ne_eq, List.length_eq_zero_iff]; exact hi0)
  go_enter Try.func57, Try.ntmps57
  have HA : St S w _ [_, _, _, _] := H0.allocAt rfl (opCells kind at' n (.slice ad4 B.length cap4) (.slice ad5 keep.length cap5)) 86
  go_upto_region 1 with (fail)
  obtain ⟨wa, hwa⟩ : ∃ wa, w.alloc (.cells (opCells kind at' n (.slice ad4 B.length cap4) (.slice ad5 keep.length cap5)) 86) = wa := ⟨_, rfl⟩
  obtain ⟨ob, hob⟩ : ∃ ob, w.heap.size = ob := ⟨_, rfl⟩
  rw [hwa, hob] at HA
  try rw [hwa]
  try simp only [hob]
  clear hwa hob H0
  have d0 := HA.cell 0 0 rfl rfl
  have d1 := HA.cell 0 1 rfl rfl
  have d2 := HA.cell 0 2 rfl rfl
  have d3 := HA.cell 0 3 rfl rfl
  have d4 := HA.cell 0 4 rfl rfl
  have kw := op_whole' (kind := kind) (at' := at') (n := n) (kv := .slice ad5 keep.length cap5) hB hBl HA
  go_upto_region 2 with (go_at_call 79; go_must (refine kw.mono ?_; rintro e w1 ⟨ad, len, cap, X, P, rfl, hXl, hL, H1⟩))
  clear d0 d1 d2 d3 d4 HA kw
  have H1 : St S w w1 [P, Blk ob (opCells kind at' n (.slice ad4 B.length cap4) (.slice ad5 keep.length cap5)) 86, StoreAt b m, RefAt b2 m, Row 9 1 (.slice (some ⟨gv, 0, none⟩) imgs.length ac) imgs.length (texts imgs)] := H1
  obtain ⟨kk, hkk⟩ : ∃ kk : Nat, (IntKind.u64.wrap kind) % 9 = (kk : Int) := ⟨((IntKind.u64.wrap kind) % 9).toNat, by omega⟩
  have hk9 : kk < 9 := by omega
  have hw2 : (IntKind.u64.wrap kind).tmod 9 = (kk : Int) := by rw [Int.tmod_eq_emod_of_nonneg (by simp [IntKind.wrap, IntKind.bits, IntKind.signed]; omega)]; exact hkk
  clear hkk
  have d0 := H1.cell 1 0 rfl rfl
  have d1 := H1.cell 1 1 rfl rfl
  have d2 := H1.cell 1 2 rfl rfl
  have d3 := H1.cell 1 3 rfl rfl
  have d4 := H1.cell 1 4 rfl rfl
  have hcase : kk = 0 ∨ kk = 1 ∨ kk = 2 ∨ kk = 3 ∨ kk = 4 ∨ kk = 5 ∨ kk = 6 ∨ kk = 7 ∨ kk = 8 := by omega
  rcases hcase with rfl | rfl | rfl | rfl | rfl | rfl | rfl | rfl | rfl
  · have g1 := write_next hg hw at' X
    obtain ⟨R, hR⟩ : ∃ R, m.write at' X = R := ⟨_, rfl⟩
    rw [hR] at g1
    have ks := fun (w' : World) (h : St S w w' [P, Blk ob (opCells kind at' n (.slice ad4 B.length cap4) (.slice ad5 keep.length cap5)) 86, StoreAt b m, RefAt b2 m, Row 9 1 (.slice (some ⟨gv, 0, none⟩) imgs.length ac) imgs.length (texts imgs)]) => show Calls Try.prog 47 #[.pointer (some ⟨b, 0, none⟩), .int .i64 at', .slice ad len cap] w' fun e w2 => e = .returned (.int .i64 R.1) ∧ St S w w2 [P, Blk ob (opCells kind at' n (.slice ad4 B.length cap4) (.slice ad5 keep.length cap5)) 86, StoreAt b R.2, RefAt b2 m, Row 9 1 (.slice (some ⟨gv, 0, none⟩) imgs.length ac) imgs.length (texts imgs)] by
      obtain ⟨S1, K1, R1, G1⟩ := hL w' [StoreAt b m] [Blk ob (opCells kind at' n (.slice ad4 B.length cap4) (.slice ad5 keep.length cap5)) 86, RefAt b2 m, Row 9 1 (.slice (some ⟨gv, 0, none⟩) imgs.length ac) imgs.length (texts imgs)] (h.pick [2, 0, 1, 3, 4])
      rw [← hR]
      exact (store_write hg (by omega) R1 K1).mono fun e w2 ⟨he, h2⟩ => ⟨he, (G1 _ _ h2).pick [1, 2, 0, 3, 4]⟩
    have kr := fun (w' : World) (h : St S w w' [P, Blk ob (opCells kind at' n (.slice ad4 B.length cap4) (.slice ad5 keep.length cap5)) 86, StoreAt b R.2, RefAt b2 m, Row 9 1 (.slice (some ⟨gv, 0, none⟩) imgs.length ac) imgs.length (texts imgs)]) => show Calls Try.prog 66 #[.pointer (some ⟨b2, 0, none⟩), .int .i64 at', .string ⟨X.toArray⟩] w' fun e w2 => e = .returned (.int .i64 R.1) ∧ St S w w2 [P, Blk ob (opCells kind at' n (.slice ad4 B.length cap4) (.slice ad5 keep.length cap5)) 86, StoreAt b R.2, RefAt b2 R.2, Row 9 1 (.slice (some ⟨gv, 0, none⟩) imgs.length ac) imgs.length (texts imgs)] by
      obtain ⟨S2, K2, G2⟩ := St.call (l1 := [_]) (h.pick [3, 0, 1, 2, 4])
      rw [← hR] at G2 ⊢
      exact (ref_write hg (by omega) (by omega) K2).mono fun e w2 ⟨he, h2⟩ => ⟨he, (G2 _ _ h2).pick [1, 2, 3, 0, 4]⟩
    have hXs := text_len X
    go_upto_region 4 with (fail)
    clear d0 d1 d2 d3 d4
    refine wp_script [(0, false), (1, false), (2, false), (3, false), (5, false), (6, false), (7, false), (8, false), (9, false), (4, true), (10, true), (11, false), (12, false)] (Fam fun w' => ∃ M1 M2, St S w w' [P, Blk ob (opCells kind at' n (.slice ad4 B.length cap4) (.slice ad5 keep.length cap5)) 86, StoreAt b M1, RefAt b2 M2, Row 9 1 (.slice (some ⟨gv, 0, none⟩) imgs.length ac) imgs.length (texts imgs)]) (fun w' => St S w w' [P, Blk ob (opCells kind at' n (.slice ad4 B.length cap4) (.slice ad5 keep.length cap5)) 86, StoreAt b m, RefAt b2 m, Row 9 1 (.slice (some ⟨gv, 0, none⟩) imgs.length ac) imgs.length (texts imgs)]) (by kernel_rfl) (by rfl) (by kernel_rfl) (by kernel_rfl) H1.drew ⟨fun _ _ H hb => H.past hb, fun _ h => ⟨_, _, h⟩⟩ ?_
    iterate 9 first
      | (apply script_pass
         · rfl
         · rfl
         intro K hK
         go_simp
         refine hK _ ?_
         clear hK K)
      | (apply script_step
         · rfl
         · rfl
         · intro I hI w1 h1'
           have h1 := hI.2 _ h1'
           obtain ⟨M1, M2, h2⟩ := h1
           have d1 := h2.cell 1 1 rfl rfl
           have hcv := hL.conv h2
           first
             | (go_simp
                first
                  | rfl
                  | exact ⟨rfl, h1'⟩
               )
         intro K hK
         go_simp
         refine hK _ ?_
         clear hK K)
    obtain ⟨V1, hV1⟩ := hide_rel (fun v I' => v = .int .i64 R.1 ∧ I' = fun w' => St S w w' [P, Blk ob (opCells kind at' n (.slice ad4 B.length cap4) (.slice ad5 keep.length cap5)) 86, StoreAt b R.2, RefAt b2 m, Row 9 1 (.slice (some ⟨gv, 0, none⟩) imgs.length ac) imgs.length (texts imgs)])
    refine script_big V1 rfl rfl ?_ ?_
    · intro w3 h3
      go_simp
      refine (ks w3 h3).mono ?_
      rintro e w4 ⟨rfl, K4⟩
      exact ⟨_, rfl, _, (hV1.out _ _).2 ⟨rfl, rfl⟩, K4⟩
    · intro v I' hvI
      obtain ⟨rfl, rfl⟩ := (hV1.out _ _).1 hvI
      clear hvI hV1
      refine ⟨_, fun _ h => h, ⟨fun _ _ H hb => H.past hb, fun _ h => ⟨_, _, h⟩⟩, ?_⟩
      intro K hK
      go_simp
      refine hK _ ?_
      clear hK K
      obtain ⟨V2, hV2⟩ := hide_rel (fun v I' => v = .int .i64 R.1 ∧ I' = fun w' => St S w w' [P, Blk ob (opCells kind at' n (.slice ad4 B.length cap4) (.slice ad5 keep.length cap5)) 86, StoreAt b R.2, RefAt b2 R.2, Row 9 1 (.slice (some ⟨gv, 0, none⟩) imgs.length ac) imgs.length (texts imgs)])
      refine script_big V2 rfl rfl ?_ ?_
      · intro w3 h3
        go_simp
        refine (kr w3 h3).mono ?_
        rintro e w4 ⟨rfl, K4⟩
        exact ⟨_, rfl, _, (hV2.out _ _).2 ⟨rfl, rfl⟩, K4⟩
      · intro v I' hvI
        obtain ⟨rfl, rfl⟩ := (hV2.out _ _).1 hvI
        clear hvI hV2
        refine ⟨_, fun _ h => h, ⟨fun _ _ H hb => H.past hb, fun _ h => ⟨_, _, h⟩⟩, ?_⟩
        intro K hK
        go_simp
        refine hK _ ?_
        clear hK K
        iterate 2 first
          | (apply script_pass
             · rfl
             · rfl
             intro K hK
             go_simp
             refine hK _ ?_
             clear hK K)
          | (apply script_step
             · rfl
             · rfl
             · intro I hI w1 h1'
               have h1 := hI.2 _ h1'
               first
                 | (go_simp
                    first
                      | rfl
                      | exact ⟨rfl, h1'⟩
                   )
             intro K hK
             go_simp
             refine hK _ ?_
             clear hK K)
        refine script_nil ?_
        intro w9 H9
        go_wp2
        go_ret
        exact ⟨ret_bool (by simp), R.2, g1, H9.pick [2, 3, 4]⟩
  · have g1 := read_good hg at'
    go_upto_region 7 with (go_at_call 45; go_must (obtain ⟨S1, K1, G1⟩ := St.call (l1 := [_]) (H1.pick [2, 0, 1, 3, 4]); refine (store_read hg K1).mono ?_; rintro e w3 ⟨v3, rfl, K3⟩; have H3 : St S w w3 [BytesAt v3 (m.read at').1, StoreAt b (m.read at').2.2, P, Blk ob (opCells kind at' n (.slice ad4 B.length cap4) (.slice ad5 keep.length cap5)) 86, RefAt b2 m, Row 9 1 (.slice (some ⟨gv, 0, none⟩) imgs.length ac) imgs.length (texts imgs)] := G1 _ _ K3))
    clear d0 d1 d2 d3 d4 H1 K1 G1 K3
    have d1 := H3.cell 3 1 rfl rfl
    go_upto_region 8 with (go_at_call 68; go_must (obtain ⟨S2, K4, G2⟩ := St.call (l1 := [_]) (H3.pick [4, 0, 1, 2, 3, 5]); refine (ref_read hg K4).mono ?_; rintro e w4 ⟨rfl, K5⟩; have H4 : St S w w4 [RefAt b2 (m.read at').2.2, BytesAt v3 (m.read at').1, StoreAt b (m.read at').2.2, P, Blk ob (opCells kind at' n (.slice ad4 B.length cap4) (.slice ad5 keep.length cap5)) 86, Row 9 1 (.slice (some ⟨gv, 0, none⟩) imgs.length ac) imgs.length (texts imgs)] := G2 _ _ K5))
    obtain ⟨S6, hS6⟩ := H4.sep.get 1 rfl
    have hcv := conv_at hS6
    obtain ⟨xv, lv, cv, rfl⟩ : ∃ av lv cv, v3 = .slice av lv cv := by
      rcases hS6 with ⟨_, h, _⟩ | ⟨_, _, h, _⟩
      · exact ⟨_, _, _, h⟩
      · exact ⟨_, _, _, h⟩
    have g2 : (m.read at').2.2.waits.length ≤ m.waits.length + 1 ∧ (m.read at').2.2.last.length = m.last.length := by
      unfold StM.read; split
      · simp
      · split <;> simp
    obtain ⟨R, hR⟩ : ∃ R, m.read at' = R := ⟨_, rfl⟩
    rw [hR] at hcv g1 g2 H4 ⊢
    unfold textV
    clear hS6 G2 K4 K5 H3 hR d1
    go_wp2
    go_ret
    exact ⟨ret_bool (by simp), R.2.2, ⟨g1, g2.1, g2.2⟩, H4.pick [2, 0, 5]⟩
  · have g1 := sync_good hg
    go_wp2_with (first
      | (go_at_call 48; go_must (obtain ⟨S1, K1, G1⟩ := St.call (l1 := [_]) (H1.pick [2, 0, 1, 3, 4]); refine (store_sync hg K1).mono ?_; rintro e w3 ⟨rfl, K3⟩; have H3 : St S w w3 [StoreAt b m.sync.2, P, Blk ob (opCells kind at' n (.slice ad4 B.length cap4) (.slice ad5 keep.length cap5)) 86, RefAt b2 m, Row 9 1 (.slice (some ⟨gv, 0, none⟩) imgs.length ac) imgs.length (texts imgs)] := G1 _ _ K3))
      | (go_at_call 80; go_must (obtain ⟨S2, K4, G2⟩ := St.call (l1 := [_]) (H3.pick [3, 0, 1, 2, 4]); refine (ref_sync hg K4).mono ?_; rintro e w4 ⟨rfl, K5⟩; have H4 : St S w w4 [RefAt b2 m.sync.2, StoreAt b m.sync.2, P, Blk ob (opCells kind at' n (.slice ad4 B.length cap4) (.slice ad5 keep.length cap5)) 86, Row 9 1 (.slice (some ⟨gv, 0, none⟩) imgs.length ac) imgs.length (texts imgs)] := G2 _ _ K5)))
    go_ret
    refine ⟨ret_bool (by simp), m.sync.2, ⟨g1, ?_, ?_⟩, H4.pick [1, 0, 4]⟩
    · unfold StM.sync; split <;> simp [StM.settle, StM.spend]
    · unfold StM.sync; split <;> simp [StM.settle, StM.spend, settle_len]
  · have g1 := crash_good hg keep at' n
    obtain ⟨S1, K1, R1, G1⟩ := St.lendBoolsS (l1 := [_]) (H1.pick [2, 0, 1, 3, 4]) hk
    go_upto_region 13 with (go_at_call 46; go_must (refine (store_crash hg R1 K1).mono ?_; rintro e w3 ⟨rfl, K3⟩; have H3 : St S w w3 [StoreAt b (m.crash keep at' n), P, Blk ob (opCells kind at' n (.slice ad4 B.length cap4) (.slice ad5 keep.length cap5)) 86, RefAt b2 m, Row 9 1 (.slice (some ⟨gv, 0, none⟩) imgs.length ac) imgs.length (texts imgs)] := G1 _ _ K3))
    clear d0 d1 d2 d3 d4 H1 K1 R1 G1 K3
    have d1 := H3.cell 2 1 rfl rfl
    have d2 := H3.cell 2 2 rfl rfl
    have d4 := H3.cell 2 4 rfl rfl
    obtain ⟨S2, K4, R2, G2⟩ := St.lendBoolsS (l1 := [_]) (H3.pick [3, 0, 1, 2, 4]) hk
    go_upto_region 14 with (go_at_call 81; go_must (refine (ref_crash hg R2 K4).mono ?_; rintro e w4 ⟨rfl, K5⟩; have H4 : St S w w4 [RefAt b2 (m.crash keep at' n), StoreAt b (m.crash keep at' n), P, Blk ob (opCells kind at' n (.slice ad4 B.length cap4) (.slice ad5 keep.length cap5)) 86, Row 9 1 (.slice (some ⟨gv, 0, none⟩) imgs.length ac) imgs.length (texts imgs)] := G2 _ _ K5))
    go_wp2
    go_ret
    exact ⟨rfl, m.crash keep at' n, ⟨g1, by simp [StM.crash, StM.settle], by simp [StM.crash, StM.settle, settle_len]⟩, H4.pick [1, 0, 4]⟩
  · have g1 := limit_good hg hn.2
    go_upto_region 17 with (go_at_call 14; go_must (obtain ⟨S1, K1, G1⟩ := St.call (l1 := [_]) (H1.pick [2, 0, 1, 3, 4]); refine (store_limit_at hn K1).mono ?_; rintro e w3 ⟨rfl, K3⟩; have H3 : St S w w3 [StoreAt b { m with calls := max n (-1) }, P, Blk ob (opCells kind at' n (.slice ad4 B.length cap4) (.slice ad5 keep.length cap5)) 86, RefAt b2 m, Row 9 1 (.slice (some ⟨gv, 0, none⟩) imgs.length ac) imgs.length (texts imgs)] := G1 _ _ K3))
    clear d0 d1 d2 d3 d4 H1
    obtain ⟨vl, vw, vc, H4⟩ := RefAt.open (H3.pick [3, 0, 1, 2, 4])
    have H4 : St S w w3 [Blk b2 #[vl, vw, .int .i64 m.calls, vc] 41, Row 9 1 vl m.last.length (texts m.last), Row 46 2 vw m.waits.length (refWaits m.waits), Row 3 1 vc m.reads.length (intCells m.reads), StoreAt b { m with calls := max n (-1) }, P, Blk ob (opCells kind at' n (.slice ad4 B.length cap4) (.slice ad5 keep.length cap5)) 86, Row 9 1 (.slice (some ⟨gv, 0, none⟩) imgs.length ac) imgs.length (texts imgs)] := H4
    have d2 := H4.cell 6 2 rfl rfl
    have s2 := H4.cell 0 2 rfl rfl
    have f2 := H4.free 0 2 rfl
    have H5 : St S w _ [_, _, _, _, _, _, _, _] := H4.set 0 rfl 2 (.int .i64 (max n (-1)))
    clear H3
    have H6 : St S w _ (RefAt b2 { m with calls := max n (-1) } :: _) := RefAt.mk (l := [StoreAt b { m with calls := max n (-1) }, P, Blk ob (opCells kind at' n (.slice ad4 B.length cap4) (.slice ad5 keep.length cap5)) 86, Row 9 1 (.slice (some ⟨gv, 0, none⟩) imgs.length ac) imgs.length (texts imgs)]) (vl := vl) (vw := vw) (vc := vc) (m := { m with calls := max n (-1) }) H5
    have H7 : St S w _ [_, _, _] := H6.pick [1, 0, 4]
    clear H5 H6
    have hmx : (n ≤ -1 ∧ max n (-1) = -1) ∨ (¬ n ≤ -1 ∧ max n (-1) = n) := by omega
    obtain ⟨mx, hm0⟩ : ∃ mx, max n (-1) = mx := ⟨_, rfl⟩
    rw [hm0] at hmx H7 g1
    have g2 : Next m { m with calls := mx } := ⟨g1, by simp, by simp⟩
    clear hm0
    rcases hmx with ⟨hle, rfl⟩ | ⟨hle, rfl⟩
    · go_wp2
      all_goals go_ret
      all_goals first
        | exact ⟨rfl, _, g2, H7⟩
        | (have e : n = -1 := by omega
           subst e
           exact ⟨rfl, _, g2, H7⟩)
        | (exfalso; omega)
    · go_wp2
      all_goals go_ret
      all_goals first
        | exact ⟨rfl, _, g2, H7⟩
        | (have e : n = -1 := by omega
           subst e
           exact ⟨rfl, _, g2, H7⟩)
        | (exfalso; omega)
  · have g1 := lay_next hg at' X
    obtain ⟨R, hR⟩ : ∃ R, m.lay at' X = R := ⟨_, rfl⟩
    rw [hR] at g1
    have ks := fun (w' : World) (h : St S w w' [P, Blk ob (opCells kind at' n (.slice ad4 B.length cap4) (.slice ad5 keep.length cap5)) 86, StoreAt b m, RefAt b2 m, Row 9 1 (.slice (some ⟨gv, 0, none⟩) imgs.length ac) imgs.length (texts imgs)]) => show Calls Try.prog 54 #[.pointer (some ⟨b, 0, none⟩), .int .i64 at', .slice ad len cap] w' fun e w2 => e = .returned (.bool R.1) ∧ St S w w2 [P, Blk ob (opCells kind at' n (.slice ad4 B.length cap4) (.slice ad5 keep.length cap5)) 86, StoreAt b R.2, RefAt b2 m, Row 9 1 (.slice (some ⟨gv, 0, none⟩) imgs.length ac) imgs.length (texts imgs)] by
      obtain ⟨S1, K1, R1, G1⟩ := hL w' [StoreAt b m] [Blk ob (opCells kind at' n (.slice ad4 B.length cap4) (.slice ad5 keep.length cap5)) 86, RefAt b2 m, Row 9 1 (.slice (some ⟨gv, 0, none⟩) imgs.length ac) imgs.length (texts imgs)] (h.pick [2, 0, 1, 3, 4])
      rw [← hR]
      exact (store_lay hg R1 K1).mono fun e w2 ⟨he, h2⟩ => ⟨he, (G1 _ _ h2).pick [1, 2, 0, 3, 4]⟩
    have kr := fun (w' : World) (h : St S w w' [P, Blk ob (opCells kind at' n (.slice ad4 B.length cap4) (.slice ad5 keep.length cap5)) 86, StoreAt b R.2, RefAt b2 m, Row 9 1 (.slice (some ⟨gv, 0, none⟩) imgs.length ac) imgs.length (texts imgs)]) => show Calls Try.prog 82 #[.pointer (some ⟨b2, 0, none⟩), .int .i64 at', .string ⟨X.toArray⟩] w' fun e w2 => e = .returned (.bool R.1) ∧ St S w w2 [P, Blk ob (opCells kind at' n (.slice ad4 B.length cap4) (.slice ad5 keep.length cap5)) 86, StoreAt b R.2, RefAt b2 R.2, Row 9 1 (.slice (some ⟨gv, 0, none⟩) imgs.length ac) imgs.length (texts imgs)] by
      obtain ⟨S2, K2, G2⟩ := St.call (l1 := [_]) (h.pick [3, 0, 1, 2, 4])
      rw [← hR] at G2 ⊢
      exact (ref_lay hg (by omega) K2).mono fun e w2 ⟨he, h2⟩ => ⟨he, (G2 _ _ h2).pick [1, 2, 3, 0, 4]⟩
    have hXs := text_len X
    go_upto_region 20 with (fail)
    clear d0 d1 d2 d3 d4
    refine wp_script [(0, false), (1, false), (2, false), (3, false), (5, false), (6, false), (7, false), (8, false), (9, false), (4, true), (10, true), (11, false), (12, false)] (Fam fun w' => ∃ M1 M2, St S w w' [P, Blk ob (opCells kind at' n (.slice ad4 B.length cap4) (.slice ad5 keep.length cap5)) 86, StoreAt b M1, RefAt b2 M2, Row 9 1 (.slice (some ⟨gv, 0, none⟩) imgs.length ac) imgs.length (texts imgs)]) (fun w' => St S w w' [P, Blk ob (opCells kind at' n (.slice ad4 B.length cap4) (.slice ad5 keep.length cap5)) 86, StoreAt b m, RefAt b2 m, Row 9 1 (.slice (some ⟨gv, 0, none⟩) imgs.length ac) imgs.length (texts imgs)]) (by kernel_rfl) (by rfl) (by kernel_rfl) (by kernel_rfl) H1.drew ⟨fun _ _ H hb => H.past hb, fun _ h => ⟨_, _, h⟩⟩ ?_
    iterate 9 first
      | (apply script_pass
         · rfl
         · rfl
         intro K hK
         go_simp
         refine hK _ ?_
         clear hK K)
      | (apply script_step
         · rfl
         · rfl
         · intro I hI w1 h1'
           have h1 := hI.2 _ h1'
           obtain ⟨M1, M2, h2⟩ := h1
           have d1 := h2.cell 1 1 rfl rfl
           have hcv := hL.conv h2
           first
             | (go_simp
                first
                  | rfl
                  | exact ⟨rfl, h1'⟩
               )
         intro K hK
         go_simp
         refine hK _ ?_
         clear hK K)
    obtain ⟨V1, hV1⟩ := hide_rel (fun v I' => v = .bool R.1 ∧ I' = fun w' => St S w w' [P, Blk ob (opCells kind at' n (.slice ad4 B.length cap4) (.slice ad5 keep.length cap5)) 86, StoreAt b R.2, RefAt b2 m, Row 9 1 (.slice (some ⟨gv, 0, none⟩) imgs.length ac) imgs.length (texts imgs)])
    refine script_big V1 rfl rfl ?_ ?_
    · intro w3 h3
      go_simp
      refine (ks w3 h3).mono ?_
      rintro e w4 ⟨rfl, K4⟩
      exact ⟨_, rfl, _, (hV1.out _ _).2 ⟨rfl, rfl⟩, K4⟩
    · intro v I' hvI
      obtain ⟨rfl, rfl⟩ := (hV1.out _ _).1 hvI
      clear hvI hV1
      refine ⟨_, fun _ h => h, ⟨fun _ _ H hb => H.past hb, fun _ h => ⟨_, _, h⟩⟩, ?_⟩
      intro K hK
      go_simp
      refine hK _ ?_
      clear hK K
      obtain ⟨V2, hV2⟩ := hide_rel (fun v I' => v = .bool R.1 ∧ I' = fun w' => St S w w' [P, Blk ob (opCells kind at' n (.slice ad4 B.length cap4) (.slice ad5 keep.length cap5)) 86, StoreAt b R.2, RefAt b2 R.2, Row 9 1 (.slice (some ⟨gv, 0, none⟩) imgs.length ac) imgs.length (texts imgs)])
      refine script_big V2 rfl rfl ?_ ?_
      · intro w3 h3
        go_simp
        refine (kr w3 h3).mono ?_
        rintro e w4 ⟨rfl, K4⟩
        exact ⟨_, rfl, _, (hV2.out _ _).2 ⟨rfl, rfl⟩, K4⟩
      · intro v I' hvI
        obtain ⟨rfl, rfl⟩ := (hV2.out _ _).1 hvI
        clear hvI hV2
        refine ⟨_, fun _ h => h, ⟨fun _ _ H hb => H.past hb, fun _ h => ⟨_, _, h⟩⟩, ?_⟩
        intro K hK
        go_simp
        refine hK _ ?_
        clear hK K
        iterate 2 first
          | (apply script_pass
             · rfl
             · rfl
             intro K hK
             go_simp
             refine hK _ ?_
             clear hK K)
          | (apply script_step
             · rfl
             · rfl
             · intro I hI w1 h1'
               have h1 := hI.2 _ h1'
               first
                 | (go_simp
                    first
                      | rfl
                      | exact ⟨rfl, h1'⟩
                   )
             intro K hK
             go_simp
             refine hK _ ?_
             clear hK K)
        refine script_nil ?_
        intro w9 H9
        go_wp2
        go_ret
        exact ⟨ret_bool (by simp), R.2, g1, H9.pick [2, 3, 4]⟩
  · obtain ⟨N, hN⟩ : ∃ N : Nat, IntKind.u64.wrap n = (N : Int) := ⟨(IntKind.u64.wrap n).toNat, by simp [IntKind.wrap, IntKind.bits, IntKind.signed]; omega⟩
    have hi1 : 0 < imgs.length := List.length_pos_iff.2 hi0
    have hlw : IntKind.u64.wrap (imgs.length : Int) = (imgs.length : Int) := by simp [IntKind.wrap, IntKind.bits, IntKind.signed]; omega
    obtain ⟨j, hj⟩ : ∃ j, N % imgs.length = j := ⟨_, rfl⟩
    have hjl : j < imgs.length := by rw [← hj]; exact Nat.mod_lt _ hi1
    have hrem : (N : Int).tmod (imgs.length : Int) = (j : Int) := by rw [Int.tmod_eq_emod_of_nonneg (by omega), ← hj]; rfl
    have hlz : ((imgs.length : Int) == 0) = false := by simp; omega
    have hlz2 : (imgs.length == 0) = false := by simp; omega
    have hjw : IntKind.i64.wrap (j : Int) = (j : Int) := by rw [IntKind.wrap_i64]; omega
    obtain ⟨c, hc⟩ : ∃ c, imgs[j]? = some c := ⟨_, List.getElem?_eq_getElem hjl⟩
    have hcl := hi c (List.mem_of_getElem? hc)
    have cj := H1.rowCell 4 j rfl (texts_at hc)
    unfold textV at cj
    have hl2 : (m.load c).1 = true := by unfold StM.load; rw [if_pos hcl]
    have g1 := hg.load c
    have g2 : (m.load c).2.waits.length ≤ m.waits.length + 1 ∧ (m.load c).2.last.length = m.last.length := by unfold StM.load; rw [if_pos hcl]; simp [chunks_len]
    have ks := fun (w' : World) (v' : Value) (h : St S w w' [Conv v' c, P, Blk ob (opCells kind at' n (.slice ad4 B.length cap4) (.slice ad5 keep.length cap5)) 86, StoreAt b m, RefAt b2 m, Row 9 1 (.slice (some ⟨gv, 0, none⟩) imgs.length ac) imgs.length (texts imgs)]) => show Calls Try.prog 55 #[.pointer (some ⟨b, 0, none⟩), v'] w' fun e w2 => e = .returned (.bool true) ∧ St S w w2 [P, Blk ob (opCells kind at' n (.slice ad4 B.length cap4) (.slice ad5 keep.length cap5)) 86, StoreAt b (m.load c).2, RefAt b2 m, Row 9 1 (.slice (some ⟨gv, 0, none⟩) imgs.length ac) imgs.length (texts imgs)] by
      obtain ⟨S1, K1, R1, G1⟩ := St.lendConv (l1 := [StoreAt b m]) (rest := [P, Blk ob (opCells kind at' n (.slice ad4 B.length cap4) (.slice ad5 keep.length cap5)) 86, RefAt b2 m, Row 9 1 (.slice (some ⟨gv, 0, none⟩) imgs.length ac) imgs.length (texts imgs)]) (h.pick [3, 0, 1, 2, 4, 5])
      exact (store_load hg (by omega) R1 K1).mono fun e w2 ⟨he, h2⟩ => ⟨by rw [he, hl2], (G1 _ _ h2).pick [2, 3, 0, 4, 5]⟩
    have kr := fun (w' : World) (h : St S w w' [P, Blk ob (opCells kind at' n (.slice ad4 B.length cap4) (.slice ad5 keep.length cap5)) 86, StoreAt b (m.load c).2, RefAt b2 m, Row 9 1 (.slice (some ⟨gv, 0, none⟩) imgs.length ac) imgs.length (texts imgs)]) => show Calls Try.prog 83 #[.pointer (some ⟨b2, 0, none⟩), .string ⟨c.toArray⟩] w' fun e w2 => e = .returned (.bool true) ∧ St S w w2 [P, Blk ob (opCells kind at' n (.slice ad4 B.length cap4) (.slice ad5 keep.length cap5)) 86, StoreAt b (m.load c).2, RefAt b2 (m.load c).2, Row 9 1 (.slice (some ⟨gv, 0, none⟩) imgs.length ac) imgs.length (texts imgs)] by
      obtain ⟨S2, K2, G2⟩ := St.call (l1 := [_]) (h.pick [3, 0, 1, 2, 4])
      exact (ref_load hg (by omega) K2).mono fun e w2 ⟨he, h2⟩ => ⟨by rw [he, hl2], (G2 _ _ h2).pick [1, 2, 3, 0, 4]⟩
    have kb := fun (w' : World) (ao : Option Addr) (cap' : Nat) (h : St S w w' [P, Blk ob (opCells kind at' n (.slice ad4 B.length cap4) (.slice ad5 keep.length cap5)) 86, StoreAt b (m.load c).2, RefAt b2 (m.load c).2, Row 9 1 (.slice (some ⟨gv, 0, none⟩) imgs.length ac) imgs.length (texts imgs)]) => show Calls Try.prog 55 #[.pointer (some ⟨b, 0, none⟩), .slice ao (c.length + 1) cap'] w' fun e w2 => e = .returned (.bool false) ∧ St S w w2 [P, Blk ob (opCells kind at' n (.slice ad4 B.length cap4) (.slice ad5 keep.length cap5)) 86, StoreAt b (m.load c).2, RefAt b2 (m.load c).2, Row 9 1 (.slice (some ⟨gv, 0, none⟩) imgs.length ac) imgs.length (texts imgs)] by
      obtain ⟨S2, K2, G2⟩ := St.call (l1 := [_]) (h.pick [2, 0, 1, 3, 4])
      exact (store_load_bad g1 (by rw [g2.2]; omega) K2).mono fun e w2 ⟨he, h2⟩ => ⟨he, by subst h2; exact h⟩
    obtain ⟨R, hR⟩ : ∃ R, (m.load c).2 = R := ⟨_, rfl⟩
    rw [hR] at ks kr kb g1 g2
    have hcs := text_len c
    have hcle : c.length ≤ 600000 := by omega
    go_upto_region 23 with (fail)
    clear hj hrem hlw hlz hlz2 hjw hc hl2 hR d0 d1 d2 d3 d4 cj
    obtain ⟨cap1, w2, hcv1, H2⟩ := conv_new H1 c
    have hcl2 := Lib.hid hcl
    clear hcl
    obtain ⟨ga, hga⟩ : ∃ g, w1.heap.size = g := ⟨_, rfl⟩
    rw [hga] at hcv1 H2
    go_wp2_with (first
      | (go_at_call 55; first
          | (with_reducible refine (ks w2 _ H2).mono ?_; rintro e w3 ⟨rfl, H3⟩)
          | (go_must (refine (kb _ _ _ H7).mono ?_; rintro e w8 ⟨rfl, H8⟩)))
      | (go_at_call 83; go_must (refine (kr w3 H3).mono ?_; rintro e w4 ⟨rfl, H4⟩; obtain ⟨cap2, w5, hcv2, H5⟩ := conv_new H4 c))
      | (at_builtin; go_must (refine wpList_want (by kernel_rfl) ?_; refine list_conv_add (H5.skip _) rfl (by omega) rfl (.tmp 136) (.tmp 137) rfl rfl 0 rfl (new_byte _ _) ?_; intro ao cap' w7 H7)))
    go_ret
    exact ⟨rfl, R, ⟨g1, g2.1, g2.2⟩, H8.pick [2, 3, 4]⟩
  · have g1 := spend_good hg
    have hcal := hg.calls
    go_wp2_with (first
      | (go_at_call 49; go_must (obtain ⟨S1, K1, G1⟩ := St.call (l1 := [_]) (H1.pick [2, 0, 1, 3, 4]); refine (store_spend_at hg K1).mono ?_; rintro e w3 ⟨rfl, K3⟩; have H3 : St S w w3 [StoreAt b m.spend, P, Blk ob (opCells kind at' n (.slice ad4 B.length cap4) (.slice ad5 keep.length cap5)) 86, RefAt b2 m, Row 9 1 (.slice (some ⟨gv, 0, none⟩) imgs.length ac) imgs.length (texts imgs)] := G1 _ _ K3))
      | (go_at_call 84; go_must (obtain ⟨S2, K4, G2⟩ := St.call (l1 := [_]) (H3.pick [3, 0, 1, 2, 4]); refine (refAt_spend hcal K4).mono ?_; rintro e w4 ⟨rfl, K5⟩; have H4 : St S w w4 [RefAt b2 m.spend, StoreAt b m.spend, P, Blk ob (opCells kind at' n (.slice ad4 B.length cap4) (.slice ad5 keep.length cap5)) 86, Row 9 1 (.slice (some ⟨gv, 0, none⟩) imgs.length ac) imgs.length (texts imgs)] := G2 _ _ K5)))
    go_ret
    exact ⟨ret_bool (by simp), m.spend, ⟨g1, by simp [StM.spend], by simp [StM.spend]⟩, H4.pick [1, 0, 4]⟩
  · have g1 := hg.readsOut
    go_wp2_with (first
      | (go_at_call 52; go_must (obtain ⟨S1, K1, G1⟩ := St.call (l1 := [_]) (H1.pick [2, 0, 1, 3, 4]); refine (store_reads hg K1).mono ?_; rintro e w3 ⟨v3, rfl, K3⟩; have H3 : St S w w3 [Row 3 1 v3 m.reads.length (intCells m.reads), StoreAt b m.readsOut.2, P, Blk ob (opCells kind at' n (.slice ad4 B.length cap4) (.slice ad5 keep.length cap5)) 86, RefAt b2 m, Row 9 1 (.slice (some ⟨gv, 0, none⟩) imgs.length ac) imgs.length (texts imgs)] := G1 _ _ K3))
      | (go_at_call 86; go_must (obtain ⟨S2, K4, G2⟩ := St.call (l1 := [_]) (H3.pick [4, 0, 1, 2, 3, 5]); refine (ref_reads hg K4).mono ?_; rintro e w4 ⟨v4, rfl, K5⟩; have H4 : St S w w4 [Row 3 1 v4 m.reads.length (intCells m.reads), RefAt b2 m.readsOut.2, Row 3 1 v3 m.reads.length (intCells m.reads), StoreAt b m.readsOut.2, P, Blk ob (opCells kind at' n (.slice ad4 B.length cap4) (.slice ad5 keep.length cap5)) 86, Row 9 1 (.slice (some ⟨gv, 0, none⟩) imgs.length ac) imgs.length (texts imgs)] := G2 _ _ K5))
      | (go_at_call 85; go_must (refine (St.callPast (ints_same w4 (by have := hg.reads; omega) (H4.row 2 rfl) (H4.row 0 rfl)) H4).mono ?_; rintro e w5 ⟨rfl, H5⟩)))
    go_ret
    exact ⟨rfl, m.readsOut.2, ⟨g1, by simp [StM.readsOut], by simp [StM.readsOut]⟩, H5.pick [3, 1, 6]⟩

end Go.Proofs.Ytbikjhmdpgoofab
