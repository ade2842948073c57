/- The walk of Quote: how a word is told. Condition: its length. -/
import Derived.Test.YtoffcoegghigoaaLexA
namespace Go.Proofs.Ytoffcoegghigoaa
open Go.RowKit

/-- Bytes of the call's own that are only read. -/
def Bts (v : Value) (l : List UInt8) : SP where
  on w S := ∃ g cap, v = .slice (some ⟨g, 0, none⟩) l.length cap ∧ g < w.heap.size ∧ (∀ i (hi : i < l.length), w.cell? ⟨g, i, none⟩ = some (bv l[i])) ∧ ∀ k, S k ↔ k = g
  loc w w' S h hs := by
    obtain ⟨g, cap, h1, h2, h3, h4⟩ := h
    have hg := hs g ((h4 g).2 rfl)
    refine ⟨g, cap, h1, ?_, fun i hi => (World.cell?_of_block hg).trans (h3 i hi), h4⟩
    have h5 : w.heap[g]? = some w.heap[g] := Array.getElem?_eq_getElem h2
    rw [h5] at hg
    exact (Array.getElem?_eq_some_iff.1 hg).1
  lt w S k h hk := by
    obtain ⟨g, cap, h1, h2, h3, h4⟩ := h
    obtain rfl := (h4 k).1 hk
    exact h2
theorem St.bts {S : Nat → Prop} {w0 w : World} {L : List SP} (H : St S w0 w L) (i : Nat) {v : Value} {l : List UInt8} (hi : L[i]? = some (Bts v l)) : ∃ g cap, v = .slice (some ⟨g, 0, none⟩) l.length cap ∧ g < w.heap.size ∧ ∀ i (hi : i < l.length), w.cell? ⟨g, i, none⟩ = some (bv l[i]) := by
  obtain ⟨S1, g, cap, h1, h2, h3, _⟩ := Sep.get i hi H.sep
  exact ⟨g, cap, h1, h2, h3⟩
theorem conv_fresh {S : Nat → Prop} {w0 w : World} {L : List SP} (H : St S w0 w L) (bs : List UInt8) : ∃ cap w1, (convert 9 75 (.string ⟨bs.toArray⟩)).run Try.prog w = .ok (.slice (some ⟨w.heap.size, 0, none⟩) bs.length cap) w1 ∧
    St S w0 w1 (Bts (.slice (some ⟨w.heap.size, 0, none⟩) bs.length cap) bs :: L) := by
  refine ⟨grownCap w bs.length 0 5, Lib.bytesWorld w 5 ⟨bs.toArray⟩, by rw [Lib.run_convert_string_bytes (P := Try.prog) w 9 75 5 ⟨bs.toArray⟩ Try.underlying9 Try.underlying75 Try.underlying5, text_size bs], ?_⟩
  have hb : Below w.heap.size w (Lib.bytesWorld w 5 ⟨bs.toArray⟩) := ⟨rfl, rfl, rfl, by rw [Lib.bytesWorld_size]; omega, fun j hj => Lib.bytesWorld_at_old _ _ _ _ hj⟩
  have H1 := H.past hb
  refine ⟨H1.kept, fun k => k = w.heap.size, ⟨w.heap.size, _, rfl, by rw [Lib.bytesWorld_size]; omega, fun i hi => ?_, fun _ => Iff.rfl⟩, fun k e => .inr (by have := H.size; omega), ?_⟩
  · rw [Lib.bytesWorld_cell _ _ _ _ (by rw [text_size]; exact hi)]
    simp [bv, List.getD, hi]
  · refine (H.sep.clip.move (fun k hk _ => hb.block k hk)).mono ?_
    rintro k _ ⟨a, b⟩
    exact ⟨a, by omega⟩
/-- A row that was laid whole. -/
theorem St.blkRow {S : Nat → Prop} {w0 w : World} {L : List SP} {g : Nat} {cs : Array Value} {t : TypeId} (H : St S w0 w (Blk g cs t :: L)) {n size : Nat} (hn : cs.size = n * size) (hm : n ≤ maxLen) :
    St S w0 w (Row t size (.slice (some ⟨g, 0, none⟩) n n) n cs.toList :: L) := by
  obtain ⟨h, S1, h1, h2, h3⟩ := H
  refine ⟨h, S1, ⟨⟨by simpa using hn, .inr ⟨g, n, cs, rfl, Nat.zero_le _, h1.1, Nat.le_refl _, hm, hn, by rw [List.take_of_length_le (by simp [hn])]⟩⟩, fun k => ?_⟩, h2, h3⟩
  rw [h1.2 k]
  simp [Value.ownBlock, eq_comm]
theorem body_take {bs : List UInt8} {i : Nat} {c : UInt8} (h : bs[i]? = some c) : lex.body (bs.take (i + 1)) = lex.body (bs.take i) ++ if lex.esc c then [92, c] else [c] := by
  rw [take_snoc' h, lex.body_app]
  rfl
theorem body_most : ∀ bs : List UInt8, (lex.body bs).length ≤ 2 * bs.length
  | [] => by simp [lex.body]
  | c :: t => by
    have := body_most t
    rw [lex.body]
    split <;> simp only [List.length_cons] <;> omega
theorem bvs_snoc (L : List UInt8) (c : UInt8) : bvs (L ++ [c]) = bvs L ++ [.int .u8 c.toNat] := by rw [bvs_append]; rfl

set_option maxHeartbeats 1000000 in
set_option maxRecDepth 100000 in
theorem lex_quote (bs : List UInt8) (hl : bs.length ≤ 10000000000000) (w : World) :
    Calls Try.prog 15 #[textV bs] w fun e w' => e = .returned (.tuple #[textV (lex.quoteW bs).1, .int .i64 (lex.quoteW bs).2]) ∧ Below w.heap.size w w' := by
  have hbm := body_most bs
  unfold textV
  go_enter Try.func15, Try.ntmps15
  have H0 : St (fun _ => False) w (w.alloc (.cells #[.int .u8 34] 5)) [Row 5 1 (.slice (some ⟨w.heap.size, 0, none⟩) 1 1) 1 (bvs [34])] := St.blkRow (n := 1) (size := 1) ((St.nil (fun _ => False) w).alloc _ _) rfl (by decide)
  go_upto_region 2 with (fail)
  obtain ⟨w1, hw1⟩ : ∃ w1, w.alloc (.cells #[.int .u8 34] 5) = w1 := ⟨_, rfl⟩
  obtain ⟨vo, hvo⟩ : ∃ vo, Value.slice (some ⟨w.heap.size, 0, none⟩) 1 1 = vo := ⟨_, rfl⟩
  rw [hw1, hvo] at H0 ⊢
  clear hw1 hvo
  obtain ⟨cap, w2, hcv, H1⟩ := conv_fresh H0 bs
  obtain ⟨vb, hvb⟩ : ∃ vb, w1.heap.size = vb := ⟨_, rfl⟩
  rw [hvb] at hcv H1
  clear hvb H0
  go_upto_block 1 with (fail)
  clear hcv
  go_loopw [4, 12] (fun v j wr => ∃ (i n : Nat) (L : List UInt8), i ≤ bs.length ∧ j = .int .i64 i ∧ (bs.take i).all lex.fair = true ∧ L = 34 :: lex.body (bs.take i) ∧ n = L.length ∧ St (fun _ => False) w wr [Bts (.slice (some ⟨vb, 0, none⟩) bs.length cap) bs, Row 5 1 v n (bvs L)]) (fun _ j _ => bs.length - (intOf j).toNat)
  case atStart => exact ⟨0, 1, [34], by omega, rfl, by simp, by simp [lex.body], rfl, H1⟩
  case round =>
    clear H1
    obtain ⟨i, n, L, hi, rfl, hf, hL, hn, HL⟩ := hrel
    have hlL : n ≤ 2 * bs.length + 1 := by
      have h1 := body_most (bs.take i)
      rw [List.length_take] at h1
      rw [hn, hL, List.length_cons]
      omega
    have hnL := Lib.hid hn
    have hLh := Lib.hid hL
    clear hn hL
    by_cases hlt : i < bs.length
    · obtain ⟨c, hx⟩ : ∃ c, bs[i]? = some c := ⟨_, List.getElem?_eq_getElem hlt⟩
      have hbt := body_take hx
      have hat := all_take (p := lex.fair) hx
      rw [hf, Bool.true_and] at hat
      obtain ⟨g0, cap0, e0, hg0, hcell⟩ := HL.bts 0 rfl
      simp only [Value.slice.injEq, Option.some.injEq, Addr.mk.injEq, and_true, true_and] at e0
      obtain ⟨rfl, rfl⟩ := e0
      have hc0 := hcell i hlt
      rw [(List.getElem?_eq_some_iff.1 hx).2] at hc0
      unfold bv at hc0
      clear hcell
      by_cases hfc : lex.fair c = true
      · have hfb := hfc
        simp only [lex.fair, Bool.and_eq_true, decide_eq_true_eq] at hfb
        have z1 : decide ((c.toNat : Int) < 32) = false := by simp; omega
        have z2 : decide ((126 : Int) < (c.toNat : Int)) = false := by simp; omega
        have hat' : (bs.take (i + 1)).all lex.fair = true := by rw [hat, hfc]
        clear hat hfb hfc hx
        obtain ⟨es, hes⟩ : ∃ es, lex.esc c = es := ⟨_, rfl⟩
        have ke := fun w' => lex_escaped c w'
        rw [hes] at ke hbt
        cases es with
        | true =>
          have hLn := Lib.hid (show L ++ [92] ++ [c] = 34 :: lex.body (bs.take (i + 1)) by rw [hbt, hLh.out]; simp)
          clear hbt
          go_upto_region 9 with (first
            | (go_at_call 51; go_must (refine (ke _).mono ?_; rintro e w' ⟨rfl, rfl⟩))
            | (at_builtin; go_must (refine St.list_app (HL.skip _) 1 rfl rfl (.tmp 24) (.tmp 25) 75 rfl Try.underlying75 Try.info5 (by decide) rfl [.int .u8 92] rfl rfl (new_cells #[.int .u8 92] _) (by simp [Value.oneCell']) (by omega) (by omega) ?_; intro g cap2 w3 H4 hz3)))
          go_wp2_with (at_builtin; go_must (refine St.list_app (H4.skip _) 1 rfl rfl (.tmp 27) (.tmp 29) 75 rfl Try.underlying75 Try.info5 (by decide) rfl [.int .u8 c.toNat] rfl rfl (new_cells #[.int .u8 c.toNat] _) (by simp [Value.oneCell']) (by omega) (by omega) ?_; intro g5 cap5 w5 H5 hz5))
          go_roundw
          case rel =>
            refine ⟨i + 1, n + 1 + 1, L ++ [92] ++ [c], by omega, by go_num, hat', hLn.out, by have := hnL.out; simp only [List.length_append, List.length_cons, List.length_nil]; omega, ?_⟩
            rw [bvs_snoc, bvs_snoc]
            exact H5
          case measure => simp [intOf]; omega
        | false =>
          have hLn := Lib.hid (show L ++ [c] = 34 :: lex.body (bs.take (i + 1)) by rw [hbt, hLh.out]; simp)
          clear hbt
          go_upto_region 9 with (go_at_call 51; go_must (refine (ke _).mono ?_; rintro e w' ⟨rfl, rfl⟩))
          go_wp2_with (at_builtin; go_must (refine St.list_app (HL.skip _) 1 rfl rfl (.tmp 27) (.tmp 29) 75 rfl Try.underlying75 Try.info5 (by decide) rfl [.int .u8 c.toNat] rfl rfl (new_cells #[.int .u8 c.toNat] _) (by simp [Value.oneCell']) (by omega) (by omega) ?_; intro g5 cap5 w5 H5 hz5))
          go_roundw
          case rel =>
            refine ⟨i + 1, n + 1, L ++ [c], by omega, by go_num, hat', hLn.out, by have := hnL.out; simp only [List.length_append, List.length_cons, List.length_nil]; omega, ?_⟩
            rw [bvs_snoc]
            exact H5
          case measure => simp [intOf]; omega
      · have hq : lex.quoteW bs = ([], 11) := by
          unfold lex.quoteW
          rw [if_neg (by rw [all_false hx (by simpa using hfc)]; simp)]
        have hfb : ¬ (32 ≤ c.toNat ∧ c.toNat ≤ 126) := by
          intro h
          simp [lex.fair, h.1, h.2] at hfc
        have hqh := Lib.hid hq
        clear hat hbt hfc hq hx
        by_cases h32 : c.toNat < 32
        · have z1 : decide ((c.toNat : Int) < 32) = true := by simp; omega
          go_wp2
          go_ret2
          rw [hqh.out]
          exact ⟨rfl, HL.below (Nat.le_refl _) (fun _ h => h.elim)⟩
        · have z1 : decide ((c.toNat : Int) < 32) = false := by simp; omega
          have z2 : decide ((126 : Int) < (c.toNat : Int)) = true := by simp; omega
          go_wp2
          go_ret2
          rw [hqh.out]
          exact ⟨rfl, HL.below (Nat.le_refl _) (fun _ h => h.elim)⟩
    · obtain rfl : i = bs.length := by omega
      have hL := hLh.out
      rw [List.take_length] at hf hL
      have hq : lex.quoteW bs = if 4096 < (lex.told bs).length then ([], 12) else (lex.told bs, 0) := by
        unfold lex.quoteW
        rw [if_pos hf]
      have hqh := Lib.hid hq
      have hL2 := Lib.hid (show L ++ [34] = 34 :: (lex.body bs ++ [34]) by rw [hL]; rfl)
      clear hq hf hL hLh
      go_upto_region 12 with (at_builtin; go_must (refine St.list_app (HL.skip _) 1 rfl rfl (.tmp 32) (.tmp 33) 75 rfl Try.underlying75 Try.info5 (by decide) rfl [.int .u8 34] rfl rfl (new_cells #[.int .u8 34] _) (by simp [Value.oneCell']) (by omega) (by omega) ?_; intro g5 cap5 w5 H5 hz5; have H6 : St (fun _ => False) w w5 [Bts (.slice (some ⟨vb, 0, none⟩) bs.length cap) bs, Row 5 1 (.slice (some ⟨g5, 0, none⟩) (n + 1) cap5) (n + 1) (bvs (L ++ [34]))] := (by rw [bvs_snoc]; exact H5); have hcv := own_text' (H6.row 1 rfl)))
      obtain ⟨w6, hw6⟩ : ∃ w6, w5 = w6 := ⟨_, rfl⟩
      have kp := fun w' => lex_plain bs (by omega) w'
      obtain ⟨pl, hpl⟩ : ∃ pl, lex.plainB bs = pl := ⟨_, rfl⟩
      rw [hpl] at kp
      have hs1 := text_size bs
      have hs2 := text_size (L ++ [34])
      rw [hL2.out] at hs2 hcv ⊢
      obtain ⟨Q, hQ⟩ : ∃ Q, 34 :: (lex.body bs ++ [34]) = Q := ⟨_, rfl⟩
      rw [hQ] at hs2 ⊢
      clear hcv hw6 w6
      have htold := Lib.hid (show lex.told bs = if pl = true then bs else Q by unfold lex.told; rw [hpl, hQ])
      clear hpl hQ
      cases pl with
      | true =>
        have ht := htold.out
        rw [if_pos rfl] at ht
        have hqt := hqh.out
        rw [ht] at hqt
        have hqt := Lib.hid hqt
        clear ht
        by_cases h4 : (4096 : Int) < bs.length
        · have z1 : decide ((4096 : Int) < (bs.length : Int)) = true := by simpa using h4
          go_wp2_with (go_at_call 17; go_must (refine (St.callPast (kp _) H6).mono ?_; rintro e w7 ⟨rfl, H7⟩))
          go_ret2
          rw [hqt.out, if_pos (by omega)]
          exact ⟨rfl, H7.below (Nat.le_refl _) (fun _ h => h.elim)⟩
        · have z1 : decide ((4096 : Int) < (bs.length : Int)) = false := by simpa using h4
          go_wp2_with (go_at_call 17; go_must (refine (St.callPast (kp _) H6).mono ?_; rintro e w7 ⟨rfl, H7⟩))
          go_ret2
          rw [hqt.out, if_neg (by omega)]
          exact ⟨rfl, H7.below (Nat.le_refl _) (fun _ h => h.elim)⟩
      | false =>
        have ht := htold.out
        rw [if_neg (by simp)] at ht
        have hqt := hqh.out
        rw [ht] at hqt
        have hqt := Lib.hid hqt
        clear ht
        by_cases h4 : (4096 : Int) < Q.length
        · have z1 : decide ((4096 : Int) < (Q.length : Int)) = true := by simpa using h4
          go_wp2_with (go_at_call 17; go_must (refine (St.callPast (kp _) H6).mono ?_; rintro e w7 ⟨rfl, H7⟩))
          go_ret2
          rw [hqt.out, if_pos (by omega)]
          exact ⟨rfl, H7.below (Nat.le_refl _) (fun _ h => h.elim)⟩
        · have z1 : decide ((4096 : Int) < (Q.length : Int)) = false := by simpa using h4
          go_wp2_with (go_at_call 17; go_must (refine (St.callPast (kp _) H6).mono ?_; rintro e w7 ⟨rfl, H7⟩))
          go_ret2
          rw [hqt.out, if_neg (by omega)]
          exact ⟨rfl, H7.below (Nat.le_refl _) (fun _ h => h.elim)⟩

end Go.Proofs.Ytoffcoegghigoaa
