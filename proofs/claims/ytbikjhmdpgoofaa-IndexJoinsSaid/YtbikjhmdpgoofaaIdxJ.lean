/- The walk of IndexJoins: what any two stretches are joined to. No condition. -/
import Derived.Test.YtbikjhmdpgoofaaIdxG
namespace Go.Proofs.Ytbikjhmdpgoofaa
open Go.RowKit

theorem blk_apart {S : Nat → Prop} {w0 w : World} {L : List SP} {a b : Nat} {ca cb : Array Value} {ta tb : TypeId} (H : St S w0 w (Blk a ca ta :: Blk b cb tb :: L)) : ¬ a = b := by
  obtain ⟨_, S1, h1, _, S2, g1, g2, _⟩ := H
  intro e
  exact (g2 b ((g1.2 b).2 rfl)).2 ((h1.2 b).2 e.symm)
def wstep (W s : Str) : Str :=
  if s.great < s.least then W
  else if W.great < W.least then ⟨W.fr, W.to, s.least, s.great⟩
  else ⟨W.fr, W.to, min W.least s.least, max W.great s.great⟩
def want0 (a b : Str) : Str := ⟨a.fr, b.to, 1, 0⟩
theorem want_join (a b : Str) : wstep (wstep (want0 a b) a) b = joinS a b := by
  obtain ⟨f1, t1, l1, g1⟩ := a
  obtain ⟨f2, t2, l2, g2⟩ := b
  by_cases h1 : g1 < l1 <;> by_cases h2 : g2 < l2 <;> simp [wstep, want0, joinS, both, h1, h2, Int.min_def, Int.max_def]
def wantAt (a b : Str) : Nat → Str
  | 0 => want0 a b
  | 1 => wstep (want0 a b) a
  | _ => wstep (wstep (want0 a b) a) b
theorem want_next (a b : Str) {i : Nat} {x : Str} (h : [a, b][i]? = some x) : wantAt a b (i + 1) = wstep (wantAt a b i) x := by
  rcases i with _ | _ | i
  · cases h; rfl
  · cases h; rfl
  · simp at h

set_option maxHeartbeats 4000000 in
set_option maxRecDepth 100000 in
theorem joins_walk (a b : Str) (t0 t1 : Int) (w : World) : Calls Try.prog 6 #[strV a, strV b, .agg #[.int .i64 t0, .int .i64 t1]] w fun e w' => e = .returned (.bool true) ∧ Below w.heap.size w w' := by
  obtain ⟨a0, a1, a2, a3⟩ := a
  obtain ⟨b0, b1, b2, b3⟩ := b
  unfold strV
  simp only
  go_enter Try.func6, Try.ntmps6
  obtain ⟨ba, hba⟩ : ∃ ba, w.heap.size = ba := ⟨_, rfl⟩
  have H0 : St (fun _ => False) w _ [Blk (ba + 1 + 1) #[.int .i64 t0, .int .i64 t1] 61, Blk (ba + 1) #[.int .i64 b0, .int .i64 b1, .int .i64 b2, .int .i64 b3] 76, Blk ba #[.int .i64 a0, .int .i64 a1, .int .i64 a2, .int .i64 a3] 76] :=
    (((St.nil (fun _ => False) w).allocAt hba #[.int .i64 a0, .int .i64 a1, .int .i64 a2, .int .i64 a3] 76).allocAt (by simp [hba]) #[.int .i64 b0, .int .i64 b1, .int .i64 b2, .int .i64 b3] 76).allocAt (by simp [hba]) #[.int .i64 t0, .int .i64 t1] 61
  go_upto_region 3 with (go_at_call 27; go_must (refine (St.callPast (first32 _) H0).mono ?_; rintro e w1 ⟨rfl, H1⟩))
  have c0 := H1.cell 2 0 rfl rfl
  have c1 := H1.cell 1 1 rfl rfl
  have H2 : St (fun _ => False) w _ [_, _, _, _] := H1.alloc #[.int .i64 a0, .int .i64 b1, .int .i64 1, .int .i64 0] 76
  go_upto_region 4 with (fail)
  obtain ⟨w2, hw2⟩ : ∃ w2, w1.alloc (.cells #[.int .i64 a0, .int .i64 b1, .int .i64 1, .int .i64 0] 76) = w2 := ⟨_, rfl⟩
  rw [hw2] at H2
  try rw [hw2]
  obtain ⟨bw, hbw⟩ : ∃ bw, w1.heap.size = bw := ⟨_, rfl⟩
  rw [hbw] at H2
  try simp only [hbw]
  clear hw2 hbw H1 c0 c1
  have c0 := H2.cell 3 0 rfl rfl
  have c1 := H2.cell 3 1 rfl rfl
  have c2 := H2.cell 3 2 rfl rfl
  have c3 := H2.cell 3 3 rfl rfl
  have d0 := H2.cell 2 0 rfl rfl
  have d1 := H2.cell 2 1 rfl rfl
  have d2 := H2.cell 2 2 rfl rfl
  have d3 := H2.cell 2 3 rfl rfl
  have H3 : St (fun _ => False) w _ [_, _, _, _, _] := H2.alloc #[.int .i64 a0, .int .i64 a1, .int .i64 a2, .int .i64 a3, .int .i64 b0, .int .i64 b1, .int .i64 b2, .int .i64 b3] 76
  go_upto_block 1 with (fail)
  obtain ⟨w3, hw3⟩ : ∃ w3, w2.alloc (.cells #[.int .i64 a0, .int .i64 a1, .int .i64 a2, .int .i64 a3, .int .i64 b0, .int .i64 b1, .int .i64 b2, .int .i64 b3] 76) = w3 := ⟨_, rfl⟩
  rw [hw3] at H3
  try rw [hw3]
  obtain ⟨bl, hbl⟩ : ∃ bl, w2.heap.size = bl := ⟨_, rfl⟩
  rw [hbl] at H3
  try simp only [hbl]
  clear hw3 hbl H2 c0 c1 c2 c3 d0 d1 d2 d3
  have kj := fun w' => idx_join ⟨a0, a1, a2, a3⟩ ⟨b0, b1, b2, b3⟩ w'
  have km := fun w' => idx_meets ⟨a0, a1, a2, a3⟩ t0 t1 w'
  have kr := fun w' => ref_meets ⟨a0, a1, a2, a3⟩ t0 t1 w'
  rw [← want_join] at kj
  have hn : ∀ (i : Nat) (x : Str), [(⟨a0, a1, a2, a3⟩ : Str), ⟨b0, b1, b2, b3⟩][i]? = some x → wantAt ⟨a0, a1, a2, a3⟩ ⟨b0, b1, b2, b3⟩ (i + 1) = wstep (wantAt ⟨a0, a1, a2, a3⟩ ⟨b0, b1, b2, b3⟩ i) x := fun _ _ h => want_next _ _ h
  go_loopw [21] (fun j wr => ∃ (i : Nat) (W : Str), i ≤ 2 ∧ j = .int .i64 i ∧ wantAt ⟨a0, a1, a2, a3⟩ ⟨b0, b1, b2, b3⟩ i = W ∧ St (fun _ => False) w wr [Blk bl #[.int .i64 a0, .int .i64 a1, .int .i64 a2, .int .i64 a3, .int .i64 b0, .int .i64 b1, .int .i64 b2, .int .i64 b3] 76, Blk bw #[.int .i64 W.fr, .int .i64 W.to, .int .i64 W.least, .int .i64 W.great] 76, Blk (ba + 1 + 1) #[.int .i64 t0, .int .i64 t1] 61, Blk (ba + 1) #[.int .i64 b0, .int .i64 b1, .int .i64 b2, .int .i64 b3] 76, Blk ba #[.int .i64 a0, .int .i64 a1, .int .i64 a2, .int .i64 a3] 76]) (fun j _ => 2 - (intOf j).toNat)
  case atStart => exact ⟨0, _, by omega, rfl, rfl, H3⟩
  case round =>
    clear H3 H0
    obtain ⟨i, W, hi, rfl, hW, HL⟩ := hrel
    by_cases hlt : i < 2
    · obtain ⟨x, hx⟩ : ∃ x, [(⟨a0, a1, a2, a3⟩ : Str), ⟨b0, b1, b2, b3⟩][i]? = some x := ⟨_, List.getElem?_eq_getElem (by simpa using hlt)⟩
      have hnx := hn i x hx
      rw [hW] at hnx
      have hnh := Lib.hid hnx
      have q0 : wr.cell? ⟨bl, i * 4, none⟩ = some (.int .i64 x.fr) ∧ wr.cell? ⟨bl, i * 4 + 1, none⟩ = some (.int .i64 x.to) ∧ wr.cell? ⟨bl, i * 4 + 2, none⟩ = some (.int .i64 x.least) ∧ wr.cell? ⟨bl, i * 4 + 3, none⟩ = some (.int .i64 x.great) := by
        rcases i with _ | _ | i
        · cases hx
          exact ⟨HL.cell 0 0 rfl rfl, HL.cell 0 1 rfl rfl, HL.cell 0 2 rfl rfl, HL.cell 0 3 rfl rfl⟩
        · cases hx
          exact ⟨HL.cell 0 4 rfl rfl, HL.cell 0 5 rfl rfl, HL.cell 0 6 rfl rfl, HL.cell 0 7 rfl rfl⟩
        · omega
      obtain ⟨q0, q1, q2, q3⟩ := q0
      obtain ⟨x0, x1, x2, x3⟩ := x
      obtain ⟨W0, W1, Wl, Wg⟩ := W
      simp only at q0 q1 q2 q3 HL
      clear hn hx hnx hW kj km kr
      have HA : St (fun _ => False) w _ [_, _, _, _, _, _] := HL.allocAt rfl #[.int .i64 x0, .int .i64 x1, .int .i64 x2, .int .i64 x3] 76
      go_upto_region 7 with (fail)
      obtain ⟨wa, hwa⟩ : ∃ wa, wr.alloc (.cells #[.int .i64 x0, .int .i64 x1, .int .i64 x2, .int .i64 x3] 76) = wa := ⟨_, rfl⟩
      obtain ⟨ob, hob⟩ : ∃ ob, wr.heap.size = ob := ⟨_, rfl⟩
      rw [hwa, hob] at HA
      try rw [hwa]
      try simp only [hob]
      clear hwa hob q0 q1 q2 q3 HL
      have d2 := HA.cell 0 2 rfl rfl
      have d3 := HA.cell 0 3 rfl rfl
      have e2 := HA.cell 2 2 rfl rfl
      have e3 := HA.cell 2 3 rfl rfl
      by_cases hs : x3 < x2
      · have z1 : decide (x3 < x2) = true := by simpa using hs
        have hnh2 := Lib.hid (show wantAt ⟨a0, a1, a2, a3⟩ ⟨b0, b1, b2, b3⟩ (i + 1) = ⟨W0, W1, Wl, Wg⟩ by rw [hnh.out, wstep, if_pos hs])
        clear hnh hs
        go_wp2
        go_roundw
        case rel => exact ⟨i + 1, _, by omega, by go_num, hnh2.out, HA.pick [1, 2, 3, 4, 5]⟩
        case measure => simp [intOf]; omega
      · have z1 : decide (x3 < x2) = false := by simpa using hs
        have p2 := HA.free 2 2 rfl
        have p3 := HA.free 2 3 rfl
        have hne : ¬ ob = bw := blk_apart (HA.pick [0, 2])
        have hne2 : ¬ bw = ob := fun e => hne e.symm
        by_cases hw : Wg < Wl
        case' pos =>
          have z2 : decide (Wg < Wl) = true := by simpa using hw
          have hnx : wantAt ⟨a0, a1, a2, a3⟩ ⟨b0, b1, b2, b3⟩ (i + 1) = ⟨W0, W1, min x2 x2, max x3 x3⟩ := by
            rw [hnh.out, wstep, if_neg hs, if_pos hw]
            simp
          have H5 := ((HA.set 2 rfl 2 (.int .i64 x2)).set 2 rfl 3 (.int .i64 x3)).drew
          clear hnh hs hw
          go_upto_region 9 with (fail)
          go_region
          obtain ⟨wb, hwb⟩ : ∃ wb, (((wa.setCell ⟨bw, 2, none⟩ (.int .i64 x2)).setCell ⟨bw, 3, none⟩ (.int .i64 x3))).drew = wb := ⟨_, rfl⟩
          obtain ⟨lo, go, hst, H6⟩ : ∃ lo go, wantAt ⟨a0, a1, a2, a3⟩ ⟨b0, b1, b2, b3⟩ (i + 1) = ⟨W0, W1, min lo x2, max go x3⟩ ∧ St (fun _ => False) w wb [Blk ob #[.int .i64 x0, .int .i64 x1, .int .i64 x2, .int .i64 x3] 76, Blk bl #[.int .i64 a0, .int .i64 a1, .int .i64 a2, .int .i64 a3, .int .i64 b0, .int .i64 b1, .int .i64 b2, .int .i64 b3] 76, Blk bw #[.int .i64 W0, .int .i64 W1, .int .i64 lo, .int .i64 go] 76, Blk (ba + 1 + 1) #[.int .i64 t0, .int .i64 t1] 61, Blk (ba + 1) #[.int .i64 b0, .int .i64 b1, .int .i64 b2, .int .i64 b3] 76, Blk ba #[.int .i64 a0, .int .i64 a1, .int .i64 a2, .int .i64 a3] 76] := ⟨_, _, hnx, by rw [← hwb]; exact H5⟩
          try rw [hwb]
          clear hnx HA H5 hwb d2 d3 e2 e3 p2 p3
          go_upto_region 10 with (fail)
        case' neg =>
          have z2 : decide (Wg < Wl) = false := by simpa using hw
          have hnx : wantAt ⟨a0, a1, a2, a3⟩ ⟨b0, b1, b2, b3⟩ (i + 1) = ⟨W0, W1, min Wl x2, max Wg x3⟩ := by rw [hnh.out, wstep, if_neg hs, if_neg hw]
          clear hnh hs hw
          go_upto_region 10 with (fail)
          obtain ⟨lo, go, hst, H6⟩ : ∃ lo go, wantAt ⟨a0, a1, a2, a3⟩ ⟨b0, b1, b2, b3⟩ (i + 1) = ⟨W0, W1, min lo x2, max go x3⟩ ∧ St (fun _ => False) w wa [Blk ob #[.int .i64 x0, .int .i64 x1, .int .i64 x2, .int .i64 x3] 76, Blk bl #[.int .i64 a0, .int .i64 a1, .int .i64 a2, .int .i64 a3, .int .i64 b0, .int .i64 b1, .int .i64 b2, .int .i64 b3] 76, Blk bw #[.int .i64 W0, .int .i64 W1, .int .i64 lo, .int .i64 go] 76, Blk (ba + 1 + 1) #[.int .i64 t0, .int .i64 t1] 61, Blk (ba + 1) #[.int .i64 b0, .int .i64 b1, .int .i64 b2, .int .i64 b3] 76, Blk ba #[.int .i64 a0, .int .i64 a1, .int .i64 a2, .int .i64 a3] 76] := ⟨_, _, hnx, HA⟩
          clear hnx HA d2 d3 e2 e3 p2 p3
        all_goals
          have hsth := Lib.hid hst
          clear hst
          have d2 := H6.cell 0 2 rfl rfl
          have d3 := H6.cell 0 3 rfl rfl
          have e2 := H6.cell 2 2 rfl rfl
          have e3 := H6.cell 2 3 rfl rfl
          have p2 := H6.free 2 2 rfl
          have p3 := H6.free 2 3 rfl
          have H7 := ((H6.set 2 rfl 2 (.int .i64 (min lo x2))).set 2 rfl 3 (.int .i64 (max go x3)))
          go_region
          go_wp2
          go_roundw
          case rel => exact ⟨i + 1, _, by omega, by go_num, hsth.out, H7.drew.pick [1, 2, 3, 4, 5]⟩
          case measure => simp [intOf]; omega
    · obtain rfl : i = 2 := by omega
      rw [show wantAt ⟨a0, a1, a2, a3⟩ ⟨b0, b1, b2, b3⟩ 2 = wstep (wstep (want0 ⟨a0, a1, a2, a3⟩ ⟨b0, b1, b2, b3⟩) ⟨a0, a1, a2, a3⟩) ⟨b0, b1, b2, b3⟩ from rfl] at hW
      rw [hW] at kj
      obtain ⟨mt, hmt⟩ : ∃ mt, meetsS ⟨a0, a1, a2, a3⟩ t0 t1 = mt := ⟨_, rfl⟩
      rw [hmt] at km kr
      clear hW hmt hn
      obtain ⟨W0, W1, W2, W3⟩ := W
      simp only [strV] at kj km kr HL
      go_upto_region 12 with (fail)
      have HL : St (fun _ => False) w wr [Blk bl #[.int .i64 a0, .int .i64 a1, .int .i64 a2, .int .i64 a3, .int .i64 b0, .int .i64 b1, .int .i64 b2, .int .i64 b3] 76, Blk bw #[.int .i64 W0, .int .i64 W1, .int .i64 W2, .int .i64 W3] 76, Blk (ba + 1 + 1) #[.int .i64 t0, .int .i64 t1] 61, Blk (ba + 1) #[.int .i64 b0, .int .i64 b1, .int .i64 b2, .int .i64 b3] 76, Blk ba #[.int .i64 a0, .int .i64 a1, .int .i64 a2, .int .i64 a3] 76] := HL
      have hmm : (mt == mt) = true := by simp
      refine wp_calm (fun w' => St (fun _ => False) w w' [Blk bl #[.int .i64 a0, .int .i64 a1, .int .i64 a2, .int .i64 a3, .int .i64 b0, .int .i64 b1, .int .i64 b2, .int .i64 b3] 76, Blk bw #[.int .i64 W0, .int .i64 W1, .int .i64 W2, .int .i64 W3] 76, Blk (ba + 1 + 1) #[.int .i64 t0, .int .i64 t1] 61, Blk (ba + 1) #[.int .i64 b0, .int .i64 b1, .int .i64 b2, .int .i64 b3] 76, Blk ba #[.int .i64 a0, .int .i64 a1, .int .i64 a2, .int .i64 a3] 76]) (by kernel_rfl) (by kernel_rfl) (HL.drew) ?_
      iterate 21 first
        | (apply calm_pass
           · rfl
           intro K hK
           go_simp
           refine hK _ ?_
           clear hK K)
        | (apply calm_step
           · rfl
           · intro w1 h1
             have c0 := h1.cell 4 0 rfl rfl
             have c1 := h1.cell 4 1 rfl rfl
             have c2 := h1.cell 4 2 rfl rfl
             have c3 := h1.cell 4 3 rfl rfl
             have d0 := h1.cell 3 0 rfl rfl
             have d1 := h1.cell 3 1 rfl rfl
             have d2 := h1.cell 3 2 rfl rfl
             have d3 := h1.cell 3 3 rfl rfl
             have e0 := h1.cell 1 0 rfl rfl
             have e1 := h1.cell 1 1 rfl rfl
             have e2 := h1.cell 1 2 rfl rfl
             have e3 := h1.cell 1 3 rfl rfl
             have t0' := h1.cell 2 0 rfl rfl
             have t1' := h1.cell 2 1 rfl rfl
             first
               | (go_simp
                  first
                    | rfl
                    | exact ⟨rfl, h1⟩
                    | (go_at_call 37; with_reducible exact St.callPast (kj w1) h1)
                    | (go_at_call 38; with_reducible exact St.callPast (km w1) h1)
                    | (go_at_call 39; with_reducible exact St.callPast (kr w1) h1)
                    | (trace_state; fail)
                 )
           intro K hK
           go_simp
           refine hK _ ?_
           clear hK K)
      refine calm_nil ?_
      intro w9 H9
      go_wp2
      go_ret
      exact ⟨by first | rfl | simp, H9.below (by omega) (fun _ h => h.elim)⟩

end Go.Proofs.Ytbikjhmdpgoofaa
