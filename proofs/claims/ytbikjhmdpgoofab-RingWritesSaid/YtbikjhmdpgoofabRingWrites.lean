/- RingWrites returns true at every input, and its arguments read as they did. No condition. -/
import Derived.Test.YtbikjhmdpgoofabRingG
import Derived.Test.YtbikjhmdpgoofabRingIn
import Derived.Test.YtbikjhmdpgoofabScript
import Derived.WalkKit
import Derived.ProofKit
import Derived.OpenShut
import Derived.ShutString
import Derived.ChangeOld
import Derived.Below
namespace Go.Proofs.Ytbikjhmdpgoofab.ringWrites
open Go.ChangeShapes Go.WideShapes Go.ChangeAt Go.RowKit
open Go.ChangeMaps (open_string shut_string)
set_option linter.unusedVariables false

theorem own : ownKnob Try.prog.godebug = none := by kernel_rfl
theorem laidOut : laidOutB Try.prog = true := by kernel_rfl

theorem limited_good {n : Int} (hn : n ≤ 9223372036854775807) : StM.Good { newStore 12 with calls := max n (-1) } := by
  have h := newStore_good (n := 12) (by omega) (by omega)
  exact ⟨h.count, h.full, h.reads, h.waits, h.room, by show max n (-1) ≤ _; omega⟩

theorem slice_form {w : World} {base : Nat} {e : TypeId} {size : Nat} {v : Value} {n : Nat} {xs : List Value} (h : w.ownsRow base e size v n xs) : ∃ ao cap, v = .slice ao n cap ∧ (n ≠ 0 → ∃ g, ao = some ⟨g, 0, none⟩) := by
  rcases own_shape h with ⟨h, h'⟩ | ⟨g, cap, h, _⟩
  · exact ⟨none, 0, by rw [h, h'], fun hn => absurd h' hn⟩
  · exact ⟨_, cap, h, fun _ => ⟨g, rfl⟩⟩
theorem ref_open2 {S : Nat → Prop} {w0 w : World} {b : Nat} {m : StM} {l : List SP} (H : St S w0 w (RefAt b m :: l)) : ∃ al cl aw cw vc, St S w0 w (refParts b (.slice al m.last.length cl) (.slice aw m.waits.length cw) vc m ++ l) := by
  obtain ⟨al, cl, vw, vc, H1⟩ := ref_open H
  rcases own_shape (H1.row 2 rfl) with ⟨h, h'⟩ | ⟨g, cap, h, _⟩
  · exact ⟨al, cl, none, 0, vc, by rw [show Value.slice none m.waits.length 0 = vw by rw [h, h']]; exact H1⟩
  · exact ⟨al, cl, some ⟨g, 0, none⟩, cap, vc, by rw [← h]; exact H1⟩

set_option maxHeartbeats 4000000 in
set_option maxRecDepth 100000 in
theorem writes_walk (f l n0 n1 n2 : Int) {v : Value} {bs : List UInt8} (w : World) (h1 : n1 ≤ 9223372036854775807) (h2 : -9223372036854775808 ≤ n2 ∧ n2 ≤ 9223372036854775807)
    (hv : BytesRO (fun _ => False) w v bs) (hbl : bs.length ≤ 9223372036854775807) :
    Calls Try.prog 4 #[ringV f l, .agg #[.int .i64 n0, .int .i64 n1, .int .i64 n2], v] w fun e w' => e = .returned (.bool true) ∧ Below w.heap.size w w' := by
  obtain ⟨ad, cap, rfl, hcap, hcell⟩ := id hv
  have H : St (fun _ => False) w _ [_, _] := ((St.nil _ w).allocAt rfl #[.int .i64 f, .int .i64 l] 23).allocAt (B := w.heap.size + 1) (by simp) #[.int .i64 n0, .int .i64 n1, .int .i64 n2] 28
  have H : St (fun _ => False) w _ [_, _] := H.pick [1, 0]
  unfold ringV
  go_enter Try.func4, Try.ntmps4
  go_wp2_with fail
  refine (St.callPast (first15 _) H).mono ?_
  rintro e w1 ⟨rfl, H1⟩
  clear H
  by_cases a3 : (2000 : Int) < bs.length
  · have b3 : decide ((2000 : Int) < bs.length) = true := by simpa using a3
    go_wp2
    go_ret
    exact ⟨rfl, H1.below (Nat.le_refl _) (fun _ h => h.elim)⟩
  · have b3 : decide ((2000 : Int) < bs.length) = false := by simpa using a3
    go_wp2_with fail
    refine (store_made 12 (by omega) (by omega) _).mono ?_
    rintro e w2 ⟨b, rfl, H2⟩
    have H3 : St _ w w2 [StoreAt b (newStore 12), _, _] := H1.call0 H2
    clear H1 H2
    go_wp2_with fail
    refine (ref_made 12 (by omega) _).mono ?_
    rintro e w3 ⟨b2, rfl, H4⟩
    have H5 : St _ w w3 [RefAt b2 (newStore 12), StoreAt b (newStore 12), _, _] := H3.call0 H4
    clear H3 H4
    have d2 := H5.cell 3 2 rfl rfl
    go_wp2_with fail
    refine (St.callOn (fun S' h => storeAt_limit h2 h) (H5.pick [1, 0, 2, 3])).mono ?_
    rintro e w4 ⟨rfl, H6⟩
    clear H5 d2
    have d2 := H6.cell 3 2 rfl rfl
    obtain ⟨al, cl, vw, vc, H7⟩ := ref_open (H6.pick [1, 0, 2, 3])
    have c2 := H7.cell 0 2 rfl rfl
    have f2 := H7.free 0 2 rfl
    have hb2 := H7.blk_lt 0 rfl
    go_upto_region 9 with (fail)
    have hmax : (if n2 < -1 then (-1 : Int) else n2) = max n2 (-1) := by split <;> omega
    rw [hmax]
    obtain ⟨m0, hm0⟩ : ∃ m0 : StM, { newStore 12 with calls := max n2 (-1) } = m0 := ⟨_, rfl⟩
    have hg0 : m0.Good := hm0 ▸ limited_good h2.2
    have hw0 : m0.waits.length = 0 := by rw [← hm0]; rfl
    have H8 : St _ w (w4.setCell ⟨b2, 2, none⟩ (.int .i64 (max n2 (-1)))) [RefAt b2 { newStore 12 with calls := max n2 (-1) }, StoreAt b { newStore 12 with calls := max n2 (-1) }, _, _] := RefAt.mk (l := [_, _, _]) (H7.set 0 rfl 2 (.int .i64 (max n2 (-1))))
    rw [hm0] at H8
    obtain ⟨w5, hw5⟩ : ∃ w5, w4.setCell ⟨b2, 2, none⟩ (.int .i64 (max n2 (-1))) = w5 := ⟨_, rfl⟩
    rw [hw5] at H8 ⊢
    clear H6 H7 d2 c2 f2 hb2 hmax hm0
    have d0 := H8.cell 2 0 rfl rfl
    have d1 := H8.cell 2 1 rfl rfl
    have d2 := H8.cell 3 0 rfl rfl
    go_wp2_with fail
    obtain ⟨S1, K1, R1, G1⟩ := St.lendS (l1 := [_]) (H8.pick [1, 0, 2, 3]) hv
    refine (ring_write f l n0 hg0 (by omega) R1 hbl K1).mono ?_
    rintro e w6 ⟨rfl, H9⟩
    have H10 : St _ w w6 [StoreAt b _, RefAt b2 m0, _, _] := G1 _ _ H9
    have hgw := rwrite_good hg0 f l n0 bs (by omega)
    obtain ⟨m1, hm1⟩ : ∃ m1, m0.rwrite f l n0 bs = m1 := ⟨_, rfl⟩
    have kw : ∀ (w' : World) (S : Nat → Prop), Sep w' [RefAt b2 m0] S → Calls Try.prog 16 #[.pointer (some ⟨b2, 0, none⟩), .agg #[.int .i64 f, .int .i64 l], .int .i64 n0, .string ⟨bs.toArray⟩] w' fun e w2 => e = .returned (.int .i64 m1.1) ∧ St S w' w2 [RefAt b2 m1.2] := fun w' S h => by
      have := ref_rwrite (bs := bs) f l n0 hg0 (by omega) hbl h
      rw [hm1] at this
      exact this
    rw [hm1] at H10 hgw ⊢
    obtain ⟨E, m1⟩ := m1
    obtain ⟨hg1, hw1⟩ := hgw
    simp only at kw hg1 hw1 H10 ⊢
    clear hm1 H8 H9 K1 R1 G1 hw5 d0 d1 d2 hcell
    go_upto_region 10 with (fail)
    have H11 : St _ w w6 [RefAt b2 m0, StoreAt b m1, Blk w.heap.size #[.int .i64 f, .int .i64 l] 23, Blk (w.heap.size + 1) #[.int .i64 n0, .int .i64 n1, .int .i64 n2] 28] := H10.pick [1, 0, 2, 3]
    refine wp_script [(0, false), (1, false), (2, false), (3, false), (4, false), (5, false), (6, false), (7, true), (8, false), (9, false), (10, false), (13, false), (14, false), (15, false), (16, false), (17, false), (11, true), (12, false), (18, false), (19, false)] (Fam fun w' => St (fun _ => False) w w' [Blk w.heap.size #[.int .i64 f, .int .i64 l] 23, Blk (w.heap.size + 1) #[.int .i64 n0, .int .i64 n1, .int .i64 n2] 28])
      (fun w' => St (fun _ => False) w w' [RefAt b2 m0, StoreAt b m1, Blk w.heap.size #[.int .i64 f, .int .i64 l] 23, Blk (w.heap.size + 1) #[.int .i64 n0, .int .i64 n1, .int .i64 n2] 28]) (by kernel_rfl) (by rfl) (by kernel_rfl) (by kernel_rfl) H11.drew (Fam.st (fun _ h => h.pick [2, 3])) ?_
    iterate 7 first
      | (apply script_pass
         · rfl
         · rfl
         intro K hK
         go_simp
         refine hK _ ?_
         clear hK K)
      | (apply script_step
         · rfl
         · rfl
         · intro I hI w1 h1'
           have h1 := hI.2 _ h1'
           have c0 := h1.cell 0 0 rfl rfl
           have c1 := h1.cell 0 1 rfl rfl
           have d0 := h1.cell 1 0 rfl rfl
           have d1 := h1.cell 1 1 rfl rfl
           have d2 := h1.cell 1 2 rfl rfl
           have hcv := conv_ro hv (fun b hb hn => h1.kept.block b hb hn)
           go_simp
           first
             | rfl
             | exact ⟨rfl, h1'⟩
         intro K hK
         go_simp
         refine hK _ ?_
         clear hK K)
    obtain ⟨V1, hV1⟩ := hide_rel (fun v I' => v = .int .i64 E ∧ ∃ al cl aw cw vc, I' = fun w' => St (fun _ => False) w w' [Blk b2 #[.slice al m1.last.length cl, .slice aw m1.waits.length cw, .int .i64 m1.calls, vc] 41, Row 9 1 (.slice al m1.last.length cl) m1.last.length (texts m1.last), Row 46 2 (.slice aw m1.waits.length cw) m1.waits.length (refWaits m1.waits), Row 3 1 vc m1.reads.length (intCells m1.reads), StoreAt b m1, Blk w.heap.size #[.int .i64 f, .int .i64 l] 23, Blk (w.heap.size + 1) #[.int .i64 n0, .int .i64 n1, .int .i64 n2] 28])
    refine script_big V1 rfl rfl ?_ ?_
    · intro w1 h1
      go_simp
      refine (St.callOn (fun S' h => kw _ S' h) h1).mono ?_
      rintro e w2 ⟨rfl, H2⟩
      obtain ⟨al, cl, aw, cw, vc, H3⟩ := ref_open2 H2
      exact ⟨_, rfl, _, (hV1.out _ _).2 ⟨rfl, al, cl, aw, cw, vc, rfl⟩, H3⟩
    · intro v I' hvI
      obtain ⟨rfl, al, cl, aw, cw, vc, rfl⟩ := (hV1.out _ _).1 hvI
      clear hvI hV1
      refine ⟨Fam fun w' => St (fun _ => False) w w' [Blk b2 #[.slice al m1.last.length cl, .slice aw m1.waits.length cw, .int .i64 m1.calls, vc] 41, Row 9 1 (.slice al m1.last.length cl) m1.last.length (texts m1.last), Row 46 2 (.slice aw m1.waits.length cw) m1.waits.length (refWaits m1.waits), Row 3 1 vc m1.reads.length (intCells m1.reads), StoreAt b m1, Blk w.heap.size #[.int .i64 f, .int .i64 l] 23, Blk (w.heap.size + 1) #[.int .i64 n0, .int .i64 n1, .int .i64 n2] 28], Fam.mono (fun _ h => h.pick [5, 6]), Fam.st (fun _ h => h), ?_⟩
      intro K hK
      go_simp
      refine hK _ ?_
      clear hK K
      iterate 8 first
        | (apply script_pass
           · rfl
           · rfl
           intro K hK
           go_simp
           refine hK _ ?_
           clear hK K)
        | (apply script_step
           · rfl
           · rfl
           · intro I hI w1 h1'
             have h1 := hI.2 _ h1'
             have c1 := h1.cell 0 1 rfl rfl
             go_simp
             first
               | rfl
               | exact ⟨rfl, h1'⟩
           intro K hK
           go_simp
           refine hK _ ?_
           clear hK K)
      obtain ⟨V2, hV2⟩ := hide_rel (fun v I' => (∃ ao cp, v = .slice ao m1.waits.length cp) ∧ I' = fun w' => St (fun _ => False) w w' [Blk b2 #[.slice al m1.last.length cl, .slice aw m1.waits.length cw, .int .i64 m1.calls, vc] 41, Row 9 1 (.slice al m1.last.length cl) m1.last.length (texts m1.last), Row 46 2 (.slice aw m1.waits.length cw) m1.waits.length (refWaits m1.waits), Row 3 1 vc m1.reads.length (intCells m1.reads), StoreAt b m1, Blk w.heap.size #[.int .i64 f, .int .i64 l] 23, Blk (w.heap.size + 1) #[.int .i64 n0, .int .i64 n1, .int .i64 n2] 28])
      refine script_big V2 rfl rfl ?_ ?_
      · intro w1 h1
        go_simp
        obtain ⟨S1, K1, G1⟩ := St.call (l1 := [_]) (h1.pick [4, 0, 1, 2, 3, 5, 6])
        refine (store_waits hg1 K1).mono ?_
        rintro e w2 ⟨v, rfl, H2⟩
        have H3 : St _ w w2 [Row 3 1 v _ _, StoreAt b m1, _, _, _, _, _, _] := G1 _ _ H2
        have hsh := own_shape (H3.row 0 rfl)
        refine ⟨v, rfl, _, (hV2.out _ _).2 ⟨?_, rfl⟩, H3.pick [2, 3, 4, 5, 1, 6, 7]⟩
        rcases hsh with ⟨h, h'⟩ | ⟨g, cap, h, _⟩
        · exact ⟨none, 0, by rw [h, h']⟩
        · exact ⟨_, cap, h⟩
      · intro v I' hvI
        obtain ⟨⟨ao, cp, rfl⟩, rfl⟩ := (hV2.out _ _).1 hvI
        clear hvI hV2
        refine ⟨_, fun _ h => h, Fam.st (fun _ h => h), ?_⟩
        intro K hK
        go_simp
        refine hK _ ?_
        clear hK K
        iterate 3 first
          | (apply script_pass
             · rfl
             · rfl
             intro K hK
             go_simp
             refine hK _ ?_
             clear hK K)
          | (apply script_step
             · rfl
             · rfl
             · intro I hI w1 h1'
               have h1 := hI.2 _ h1'
               go_simp
               first
                 | rfl
                 | exact ⟨rfl, h1'⟩
             intro K hK
             go_simp
             refine hK _ ?_
             clear hK K)
        refine script_nil ?_
        intro w7 H12
        clear H10 H11 kw
        go_wp2_with fail
        obtain ⟨S1, K1, G1⟩ := St.call (l1 := [_]) (H12.pick [4, 0, 1, 2, 3, 5, 6])
        refine (store_waits hg1 K1).mono ?_
        rintro e w8 ⟨vs, rfl, H13⟩
        have H14 : St _ w w8 [Row 3 1 vs _ _, StoreAt b m1, Blk b2 #[.slice al m1.last.length cl, .slice aw m1.waits.length cw, .int .i64 m1.calls, vc] 41, Row 9 1 (.slice al m1.last.length cl) m1.last.length (texts m1.last), Row 46 2 (.slice aw m1.waits.length cw) m1.waits.length (refWaits m1.waits), Row 3 1 vc m1.reads.length (intCells m1.reads), Blk w.heap.size #[.int .i64 f, .int .i64 l] 23, Blk (w.heap.size + 1) #[.int .i64 n0, .int .i64 n1, .int .i64 n2] 28] := G1 _ _ H13
        clear K1 G1 H13 H12
        obtain ⟨ax, cs, rfl, has⟩ := slice_form (H14.row 0 rfl)
        obtain ⟨haw⟩ : Nonempty (m1.waits.length ≠ 0 → ∃ g, aw = some ⟨g, 0, none⟩) := by
          obtain ⟨a1, c1, h1, h2⟩ := slice_form (H14.row 4 rfl)
          simp only [Value.slice.injEq, true_and] at h1
          obtain ⟨rfl, _⟩ := h1
          exact ⟨h2⟩
        have hn9 := hg1.room
        go_upto_block 1 with (fail)
        go_loopw [68] (fun j wr => ∃ k : Nat, k ≤ m1.waits.length ∧ j = .int .i64 k ∧ St (fun _ => False) w wr [Row 3 1 (.slice ax m1.waits.length cs) m1.waits.length (intCells (m1.waits.map (·.1))), StoreAt b m1, Blk b2 #[.slice al m1.last.length cl, .slice aw m1.waits.length cw, .int .i64 m1.calls, vc] 41, Row 9 1 (.slice al m1.last.length cl) m1.last.length (texts m1.last), Row 46 2 (.slice aw m1.waits.length cw) m1.waits.length (refWaits m1.waits), Row 3 1 vc m1.reads.length (intCells m1.reads), Blk w.heap.size #[.int .i64 f, .int .i64 l] 23, Blk (w.heap.size + 1) #[.int .i64 n0, .int .i64 n1, .int .i64 n2] 28])
          (fun j _ => m1.waits.length - (intOf j).toNat)
        case atStart => exact ⟨0, by omega, rfl, H14⟩
        case round =>
          clear H14
          obtain ⟨k, hk, rfl, HL⟩ := hrel
          by_cases hlt : k < m1.waits.length
          · obtain ⟨gs, rfl⟩ := has (by omega)
            obtain ⟨gw, rfl⟩ := haw (by omega)
            obtain ⟨y, hy⟩ : ∃ y, m1.waits[k]? = some y := ⟨_, List.getElem?_eq_getElem hlt⟩
            have q1 := HL.rowCell 4 (k * 2) rfl (refWaits_at hy).1
            have q2 : wr.cell? ⟨gs, k, none⟩ = some (.int .i64 y.1) := HL.rowCell 0 k rfl (by simp [intCells, hy])
            have c1 := HL.cell 2 1 rfl rfl
            clear hy
            go_wp2
            go_roundw
            case rel => exact ⟨k + 1, by omega, by go_num, HL⟩
            case measure => simp [intOf]; omega
          · obtain rfl : k = m1.waits.length := by omega
            have H15 : St _ w wr [RefAt b2 m1, StoreAt b m1, _, _] := RefAt.mk (l := [_, _, _]) (HL.pick [2, 3, 4, 5, 1, 6, 7])
            clear HL has haw
            have d0 := H15.cell 2 0 rfl rfl
            have d1 := H15.cell 2 1 rfl rfl
            have d2 := H15.cell 3 0 rfl rfl
            have d3 := H15.cell 3 1 rfl rfl
            go_wp2_with fail
            obtain ⟨res, hres⟩ : ∃ res, m1.rreadI f l n0 n1 = res := ⟨_, rfl⟩
            obtain ⟨S1, K1, G1⟩ := St.call (l1 := [_]) (H15.pick [1, 0, 2, 3])
            refine (ring_readI f l n0 n1 hg1 h1 K1).mono ?_
            rintro e w10 ⟨vc, rfl, H16⟩
            have H17 : St _ w w10 [Row 5 1 vc _ _, StoreAt b _, RefAt b2 m1, _, _] := G1 _ _ H16
            have kr := fun (w' : World) (S : Nat → Prop) (h : Sep w' [RefAt b2 m1] S) => ref_rread f l n0 n1 hg1 h
            rw [hres] at H17 kr ⊢
            obtain ⟨out, g, m2⟩ := res
            simp only [ringV] at H17 kr ⊢
            clear K1 G1 H16 H15 d0 d1 d2 d3 hres
            have d0 := H17.cell 3 0 rfl rfl
            have d1 := H17.cell 3 1 rfl rfl
            have d2 := H17.cell 4 0 rfl rfl
            have d3 := H17.cell 4 1 rfl rfl
            go_wp2_with fail
            refine (St.callOn (fun S' h => kr _ S' h) (H17.pick [2, 0, 1, 3, 4])).mono ?_
            rintro e w11 ⟨rfl, H18⟩
            clear H17 kr d0 d1 d2 d3
            have d0 := H18.cell 3 0 rfl rfl
            have d1 := H18.cell 3 1 rfl rfl
            go_wp2_with fail
            refine (St.callPast (ring_read_nil f l 0 1 _) H18).mono ?_
            rintro e w12 ⟨rfl, H19⟩
            have hcv2 := own_text (H19.row 1 rfl)
            unfold textV
            go_wp2
            go_ret
            exact ⟨rfl, H19.below (Nat.le_refl _) (fun _ h => h.elim)⟩

theorem walk (v0 v1 v2 : Value) (w : World) (h0 : R Try.prog w 23 v0.cells.toList) (s0 : ∃ cs, v0 = .agg cs) (h1 : R Try.prog w 28 v1.cells.toList) (s1 : ∃ cs, v1 = .agg cs)
    (h2 : R Try.prog w 29 v2.cells.toList) (s2 : ∃ a len cap, v2 = .slice a len cap) :
    Calls Try.prog 4 #[v0, v1, v2] w fun e w' => e = .returned (.bool true) ∧ Below w.heap.size w w' := by
  obtain ⟨a, len, cap, rfl⟩ := s2
  obtain ⟨f, l, rfl, _, _⟩ := ring_read_in h0 s0
  obtain ⟨v, bs, e, hx, hl⟩ := R.bytes Try.underlying29 Try.underlying5 (by kernel_rfl) h2
  have e2 : Value.slice a len cap = v := by simpa [Value.cells] using e
  subst e2
  obtain ⟨cs, rfl⟩ := s1
  have hl3 : cs.toList.length = 3 := (R.array Try.underlying28 h1).1.trans (by kernel_rfl)
  obtain ⟨c0, c1, c2, hc⟩ : ∃ a b c, cs.toList = [a, b, c] := by
    match cs.toList, hl3 with
    | [a, b, c], _ => exact ⟨a, b, c, rfl⟩
  have hc' : cs = #[c0, c1, c2] := by apply Array.ext'; rw [hc]
  subst hc'
  have r0 : R Try.prog w 3 [c0] := R.item Try.underlying28 (by kernel_rfl) h1 0 (by omega) rfl
  have r1 : R Try.prog w 3 [c1] := R.item Try.underlying28 (by kernel_rfl) h1 1 (by omega) rfl
  have r2 : R Try.prog w 3 [c2] := R.item Try.underlying28 (by kernel_rfl) h1 2 (by omega) rfl
  obtain ⟨n0, e0, _⟩ := R.int Try.underlying3 r0
  obtain ⟨n1, e1, g1⟩ := R.int Try.underlying3 r1
  obtain ⟨n2, e2, g2⟩ := R.int Try.underlying3 r2
  simp only [List.cons.injEq, and_true] at e0 e1 e2
  subst e0 e1 e2
  simp only [Lit.wf, Bool.and_eq_true, decide_eq_true_eq] at g1 g2
  exact writes_walk f l n0 n1 n2 w g1.2 g2 hx hl

set_option maxRecDepth 100000 in
theorem lifted (os : Os) (started : os.Started) (H : Type) (enc : TypeId × Value → H) :
    ReturnsInHanded {} Try.checked os 4 .any (Rows.ringWritesSpec.pre6 enc Try.prog Try.f4 Rows.ringWritesRow.domain false) (Rows.ringWritesSpec.post enc Try.prog Try.f4 false true false false) := by
  refine returnsInHanded_of_change (C := Try.checked) own started (by kernel_rfl) Try.func4
    (ChangeSpec.witness6 (enc := enc) (C := Try.checked) false ⟨#[], #[.agg #[.int .i64 0, .int .i64 0], .agg #[.int .i64 0, .int .i64 0, .int .i64 0], .slice none 0 0], []⟩ 8 (by kernel_rfl) (by kernel_rfl) (by kernel_rfl) (by kernel_rfl)) ?_
  intro W base args ds gs before hval0 hW hcnd _
  have hval : ∀ (j : Nat) t v, Try.f4.params[j]? = some t → args[j]? = some v → Value.okWide Try.prog W .any base t v := hval0
  have hW' := hW
  obtain ⟨p, q, hA0, hV, rfl, hfz, hnd⟩ := hW
  have hA : DataW.TrodAll enc Try.prog W 0 (fun _ => true) true Try.f4.params.toList args.toList ds p := hA0
  rw [Try.params4] at hA hval
  obtain ⟨v0, vs0, d0, ds0, p0, q0, hargs, rfl, rfl, h0, r0⟩ := trodAll_cons hA
  obtain ⟨v1, vs1, d1, ds1, p1, q1, rfl, rfl, rfl, h1, r1⟩ := trodAll_cons r0
  obtain ⟨v2, vs2, d2, ds2, p2, q2, rfl, rfl, rfl, h2, r2⟩ := trodAll_cons r1
  obtain ⟨rfl, rfl, rfl⟩ := trodAll_nil r2
  obtain rfl : args = #[v0, v1, v2] := by cases args; simp_all
  obtain ⟨rfl, rfl⟩ := trodVars_none hV
  have lt0 : ∀ x ∈ p0, x.block < W.heap.size := by obtain ⟨m, hm⟩ := h0; exact DataW.trod_lt m _ _ _ hm
  have w0 : R Try.prog W 23 v0.cells.toList := by
    obtain ⟨m, hm⟩ := h0
    exact ⟨H, enc, _, _, m, _, hm⟩
  have s0 : ∃ cs, v0 = .agg cs := by
    obtain ⟨cs, h, _⟩ := okWide_struct Try.underlying23 (hval 0 23 v0 rfl rfl)
    exact ⟨cs, h⟩
  have lt1 : ∀ x ∈ p1, x.block < W.heap.size := by obtain ⟨m, hm⟩ := h1; exact DataW.trod_lt m _ _ _ hm
  have w1 : R Try.prog W 28 v1.cells.toList := by
    obtain ⟨m, hm⟩ := h1
    exact ⟨H, enc, _, _, m, _, hm⟩
  have s1 : ∃ cs, v1 = .agg cs := by
    obtain ⟨cs, h, _⟩ := okWide_row Try.underlying28 (hval 1 28 v1 rfl rfl)
    exact ⟨cs, h⟩
  have lt2 : ∀ x ∈ p2, x.block < W.heap.size := by obtain ⟨m, hm⟩ := h2; exact DataW.trod_lt m _ _ _ hm
  have w2 : R Try.prog W 29 v2.cells.toList := by
    obtain ⟨m, hm⟩ := h2
    exact ⟨H, enc, _, _, m, _, hm⟩
  have s2 : ∃ a len cap, v2 = .slice a len cap := okWide_slice Try.underlying29 (hval 2 29 v2 rfl rfl)
  clear hA0 hval0
  refine (walk v0 v1 v2 W w0 s0 w1 s1 w2 s2).mono fun e W' ⟨he, bel⟩ => ?_
  subst he
  exact ⟨_, rfl, _, _, _, [], _, [], hW', trodAll_mk1 (shut_bool Try.underlying4 _), (trodAll_cons_mk (Below.trod laidOut (by kernel_rfl) (of_decide_eq_true (by kernel_rfl)) h0 bel lt0) (trodAll_cons_mk (Below.trod laidOut (by kernel_rfl) (of_decide_eq_true (by kernel_rfl)) h1 bel lt1) (trodAll_cons_mk (Below.trod laidOut (by kernel_rfl) (of_decide_eq_true (by kernel_rfl)) h2 bel lt2) trodAll_mk0))), rfl, bel.frame _, fun h => by cases h⟩

theorem over : Rows.ringWritesRow.holds Try.pinned (OpenSpec.ofChange Rows.ringWritesSpec) :=
  OpenClaim.holds_of_wide 4 Try.f4 rfl rfl rfl rfl rfl rfl rfl ⟨rfl, rfl, rfl, rfl, rfl⟩ rfl rfl rfl rfl rfl (by kernel_rfl) Try.func4 (by kernel_rfl)
    (of_decide_eq_true (by kernel_rfl)) (by unfold Func.isWrapper; first | (rw [if_pos (by decide +kernel)]; kernel_rfl) | (rw [if_neg (by decide +kernel)]; exact ⟨rfl, rfl⟩))
    (fun os started H enc _ => lifted os started H enc)

/-- THE STATEMENT -/
theorem proved : Rows.RingWritesSaid := over
#print axioms proved
end Go.Proofs.Ytbikjhmdpgoofab.ringWrites
