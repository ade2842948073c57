/- The walk of One: a record's stretch. Condition: the record's cells, its items. -/
import Derived.Test.YtbikjhmdpgoofaaIdxA
namespace Go.Proofs.Ytbikjhmdpgoofaa
open Go.RowKit

set_option maxHeartbeats 1000000 in
set_option maxRecDepth 100000 in
theorem idx_counts (x : Itm) (hx : x.fits) (w : World) : Calls Try.prog 61 #[itmV x] w fun e w' => e = .returned (.bool x.counts) ∧ Below w.heap.size w w' := by
  have kr := fun w' => ev_right x hx w'
  have hc : x.counts = (decide (x.kind = 1) && x.right) := rfl
  obtain ⟨rt, hrt⟩ : ∃ rt, x.right = rt := ⟨_, rfl⟩
  rw [hrt] at kr hc
  clear hrt
  have hch := Lib.hid hc
  clear hc
  obtain ⟨k, key, t, v⟩ := x
  have H : St (fun _ => False) w (w.alloc (.cells #[.int .i64 k, textV key, .int .i64 t, .int .i64 v] 108)) [Blk w.heap.size #[.int .i64 k, textV key, .int .i64 t, .int .i64 v] 108] := (St.nil (fun _ => False) w).alloc _ _
  unfold itmV textV at kr
  unfold textV at H
  unfold itmV
  simp only at kr hch
  obtain ⟨w1, hw1⟩ : ∃ w1, w.alloc (.cells #[.int .i64 k, .string ⟨key.toArray⟩, .int .i64 t, .int .i64 v] 108) = w1 := ⟨_, rfl⟩
  obtain ⟨b, hb⟩ : ∃ b, w.heap.size = b := ⟨_, rfl⟩
  unfold textV
  simp only
  go_enter Try.func61, Try.ntmps61
  go_upto_region 1 with (fail)
  rw [hw1, hb] at H
  try rw [hw1]
  try rw [hb]
  clear hw1 hb
  have c0 := H.cell 0 0 rfl rfl
  have c1 := H.cell 0 1 rfl rfl
  have c2 := H.cell 0 2 rfl rfl
  have c3 := H.cell 0 3 rfl rfl
  by_cases h1 : k = 1
  · subst h1
    go_wp2_with (go_at_call 69; go_must (refine (St.callPast (kr _) H).mono ?_; rintro e w2 ⟨rfl, H2⟩))
    go_ret
    rw [hch.out]
    exact ⟨by simp, H2.below (Nat.le_refl _) (fun _ h => h.elim)⟩
  · have y1 : (k == 1) = false := by simpa using h1
    have hf := Lib.hid (show decide (k = 1) = false by simpa using h1)
    go_wp2
    go_ret
    rw [hch.out, hf.out]
    exact ⟨by simp, H.below (Nat.le_refl _) (fun _ h => h.elim)⟩

/-- Items that can be read. -/
def ItmsRO (w : World) (v : Value) (l : List Itm) : Prop :=
  ∃ ad cap, v = .slice ad l.length cap ∧ l.length ≤ cap ∧ (∀ x ∈ l, x.fits) ∧ (l ≠ [] → ∃ b o, ad = some ⟨b, o, none⟩ ∧ b < w.heap.size ∧ ∀ i x, l[i]? = some x → w.rangeAt b (o + i * 4) (itmC x).toList)
theorem ItmsRO.later {w w' : World} {v : Value} {l : List Itm} (hv : ItmsRO w v l) (hk : Kept (fun _ => False) w w') : ItmsRO w' v l := by
  obtain ⟨ad, cap, e1, e2, e3, e4⟩ := hv
  refine ⟨ad, cap, e1, e2, e3, fun hl => ?_⟩
  obtain ⟨b, o, g1, g2, g4⟩ := e4 hl
  exact ⟨b, o, g1, Nat.lt_of_lt_of_le g2 hk.size, fun i x hi j v hj => (World.cell?_of_block (w := w) (hk.block b g2 id)).trans (g4 i x hi j v hj)⟩
theorem itm_cells {w w' : World} {b o i : Nat} {x : Itm} (h : w.rangeAt b (o + i * 4) (itmC x).toList) (hb : w'.heap[b]? = w.heap[b]?) :
    w'.cell? ⟨b, o + i * 4, none⟩ = some (.int .i64 x.kind) ∧ w'.cell? ⟨b, o + i * 4 + 1, none⟩ = some (textV x.key) ∧ w'.cell? ⟨b, o + i * 4 + 2, none⟩ = some (.int .i64 x.time) ∧ w'.cell? ⟨b, o + i * 4 + 3, none⟩ = some (.int .i64 x.value) :=
  ⟨(World.cell?_of_block hb).trans (h 0 _ rfl), (World.cell?_of_block hb).trans (h 1 _ rfl), (World.cell?_of_block hb).trans (h 2 _ rfl), (World.cell?_of_block hb).trans (h 3 _ rfl)⟩
def foldS (s : Str) (l : List Itm) : Str := (l.filter Itm.counts).foldl (fun s x => stepS s x.time) s
theorem foldS_snoc (s : Str) (l : List Itm) (x : Itm) : foldS s (l ++ [x]) = if x.counts then stepS (foldS s l) x.time else foldS s l := by
  unfold foldS
  rw [List.filter_append]
  by_cases h : x.counts = true
  · rw [if_pos h]; simp [h]
  · rw [if_neg h]; simp [h]
theorem foldS_fr (s : Str) : ∀ l : List Itm, (foldS s l).fr = s.fr ∧ (foldS s l).to = s.to := by
  intro l
  unfold foldS
  generalize l.filter Itm.counts = m
  induction m generalizing s with
  | nil => exact ⟨rfl, rfl⟩
  | cons x m ih =>
    have h := ih (stepS s x.time)
    have e : (stepS s x.time).fr = s.fr ∧ (stepS s x.time).to = s.to := by unfold stepS; split <;> exact ⟨rfl, rfl⟩
    exact ⟨h.1.trans e.1, h.2.trans e.2⟩

set_option maxHeartbeats 4000000 in
set_option maxRecDepth 100000 in
theorem idx_one {RC : Array Value} {seq : Int} {iv : Value} {l : List Itm} (w : World) (h1 : RC[1]? = some (.int .i64 seq)) (h2 : RC[2]? = some iv) (hv : ItmsRO w iv l) (hl : l.length ≤ 9223372036854775807) :
    Calls Try.prog 55 #[.agg RC] w fun e w' => e = .returned (strV (oneS seq l)) ∧ Below w.heap.size w w' := by
  obtain ⟨ao, cap, rfl, hcap, hfit, hcell⟩ := hv
  go_enter Try.func55, Try.ntmps55
  obtain ⟨bx, hbx⟩ : ∃ bx, w.heap.size = bx := ⟨_, rfl⟩
  have H0 : St (fun _ => False) w _ [_, _] := ((St.nil (fun _ => False) w).allocAt hbx RC 82).allocAt (B := bx + 1) (by simp [hbx]) #[.int .i64 0, .int .i64 0, .int .i64 0, .int .i64 0] 76
  go_upto_region 1 with (fail)
  obtain ⟨w1, hw1⟩ : ∃ w1, (w.alloc (.cells RC 82)).alloc (.cells #[.int .i64 0, .int .i64 0, .int .i64 0, .int .i64 0] 76) = w1 := ⟨_, rfl⟩
  rw [hw1] at H0
  try rw [hw1]
  clear hw1
  try simp only [hbx]
  obtain ⟨br, hbr⟩ : ∃ br, bx + 1 = br := ⟨_, rfl⟩
  rw [hbr] at H0
  try rw [hbr]
  have c1 := H0.cell 1 1 rfl h1
  have c2 := H0.cell 1 2 rfl h2
  have hs1 : w1.heap.size = w1.heap.size := rfl
  obtain ⟨bs, hbs⟩ : ∃ bs, w1.heap.size = bs := ⟨_, rfl⟩
  have H1 : St (fun _ => False) w _ [_, _, _] := H0.allocAt hbs #[.int .i64 seq, .int .i64 seq, .int .i64 1, .int .i64 0] 76
  go_upto_region 2 with (fail)
  obtain ⟨w2, hw2⟩ : ∃ w2, w1.alloc (.cells #[.int .i64 seq, .int .i64 seq, .int .i64 1, .int .i64 0] 76) = w2 := ⟨_, rfl⟩
  rw [hw2] at H1
  try rw [hw2]
  clear hw2 c1 c2 H0 hbs hs1 hbr hbx
  have c2 := H1.cell 2 2 rfl h2
  have H2 : St (fun _ => False) w w2 [Blk bs #[.int .i64 seq, .int .i64 seq, .int .i64 1, .int .i64 0] 76, Blk br #[.int .i64 0, .int .i64 0, .int .i64 0, .int .i64 0] 76] := H1.pick [0, 1]
  clear H1
  go_upto_block 1 with (fail)
  clear c2
  go_loopw [14] (fun j wr => ∃ (i : Nat), i ≤ l.length ∧ j = .int .i64 i ∧ St (fun _ => False) w wr [Blk bs (strC (foldS ⟨seq, seq, 1, 0⟩ (l.take i))) 76, Blk br #[.int .i64 0, .int .i64 0, .int .i64 0, .int .i64 0] 76]) (fun j _ => l.length - (intOf j).toNat)
  case atStart => exact ⟨0, by omega, rfl, H2⟩
  case round =>
    clear H2
    obtain ⟨i, hi, rfl, HL⟩ := hrel
    obtain ⟨S0, hS0⟩ : ∃ S, foldS ⟨seq, seq, 1, 0⟩ (l.take i) = S := ⟨_, rfl⟩
    rw [hS0] at HL
    by_cases hlt : i < l.length
    · obtain ⟨b, o, rfl, hb, hc⟩ := hcell (by rintro rfl; simp at hlt)
      obtain ⟨x, hx⟩ : ∃ x, l[i]? = some x := ⟨_, List.getElem?_eq_getElem hlt⟩
      have hxf := hfit x (List.mem_of_getElem? hx)
      have hst : foldS ⟨seq, seq, 1, 0⟩ (l.take (i + 1)) = if x.counts then stepS S0 x.time else S0 := by rw [take_snoc' hx, foldS_snoc, hS0]
      obtain ⟨q0, q1, q2, q3⟩ := itm_cells (hc i x hx) (HL.kept.block b hb id)
      have kc := fun w' => idx_counts x hxf w'
      have ke := fun w' => idx_empty S0 w'
      obtain ⟨ct, hct⟩ : ∃ ct, x.counts = ct := ⟨_, rfl⟩
      rw [hct] at kc hst
      have hsth := Lib.hid hst
      clear hst hct hx hc hcell hS0 hfit
      obtain ⟨k, key, t, v⟩ := x
      obtain ⟨f0, t0, l0, g0⟩ := S0
      unfold itmV textV at kc
      unfold strV at ke
      simp only [Str.empty] at q0 q1 q2 q3 kc ke hsth
      unfold textV at q1
      have HA : St (fun _ => False) w _ [_, _, _] := HL.allocAt rfl #[.int .i64 k, .string ⟨key.toArray⟩, .int .i64 t, .int .i64 v] 108
      go_upto_region 5 with (fail)
      obtain ⟨wa, hwa⟩ : ∃ wa, wr.alloc (.cells #[.int .i64 k, .string ⟨key.toArray⟩, .int .i64 t, .int .i64 v] 108) = wa := ⟨_, rfl⟩
      obtain ⟨ob, hob⟩ : ∃ ob, wr.heap.size = ob := ⟨_, rfl⟩
      rw [hwa, hob] at HA
      try rw [hwa]
      try simp only [hob]
      have HA : St (fun _ => False) w wa [Blk ob #[.int .i64 k, .string ⟨key.toArray⟩, .int .i64 t, .int .i64 v] 108, Blk bs #[.int .i64 f0, .int .i64 t0, .int .i64 l0, .int .i64 g0] 76, Blk br #[.int .i64 0, .int .i64 0, .int .i64 0, .int .i64 0] 76] := HA
      clear hwa hob q0 q1 q2 q3 HL
      have d0 := HA.cell 0 0 rfl rfl
      have d1 := HA.cell 0 1 rfl rfl
      have d2 := HA.cell 0 2 rfl rfl
      have d3 := HA.cell 0 3 rfl rfl
      cases ct with
      | false =>
        rw [if_neg (by simp)] at hsth
        have hs2 := hsth.out
        have hs2 := Lib.hid hs2
        go_wp2_with (go_at_call 61; go_must (refine (St.callPast (kc _) HA).mono ?_; rintro e w3 ⟨rfl, H3⟩))
        go_roundw
        case rel =>
          refine ⟨i + 1, by omega, by go_num, ?_⟩
          rw [hs2.out]
          exact H3.pick [1, 2]
        case measure => simp [intOf]; omega
      | true =>
        rw [if_pos rfl] at hsth
        have hs1 := hsth.out
        have hs3 := Lib.hid hs1
        clear hs1 hsth
        go_upto_region 6 with (go_at_call 61; go_must (refine (St.callPast (kc _) HA).mono ?_; rintro e w3 ⟨rfl, H3⟩))
        have H3 : St (fun _ => False) w w3 [Blk ob #[.int .i64 k, .string ⟨key.toArray⟩, .int .i64 t, .int .i64 v] 108, Blk bs #[.int .i64 f0, .int .i64 t0, .int .i64 l0, .int .i64 g0] 76, Blk br #[.int .i64 0, .int .i64 0, .int .i64 0, .int .i64 0] 76] := H3
        clear d0 d1 d2 d3 HA kc
        have e0 := H3.cell 1 0 rfl rfl
        have e1 := H3.cell 1 1 rfl rfl
        have e2 := H3.cell 1 2 rfl rfl
        have e3 := H3.cell 1 3 rfl rfl
        by_cases hem : g0 < l0
        case' pos =>
          have z1 : decide (g0 < l0) = true := by simpa using hem
          rw [z1] at ke
          have hst2 : stepS ⟨f0, t0, l0, g0⟩ t = ⟨f0, t0, min t t, max t t⟩ := by unfold stepS Str.empty; rw [if_pos z1]; simp
          have hst3 := Lib.hid hst2
          clear hst2 hem z1
          go_upto_region 7 with (go_at_call 63; go_must (refine (St.callPast (ke _) H3).mono ?_; rintro e w4 ⟨rfl, H4⟩))
          clear e0 e1 e2 e3 H3
          refine wp_script [(0, false), (1, false), (2, false), (3, false), (4, false), (5, true), (6, false), (7, true)] (Fam fun w' => St (fun _ => False) w w' [Blk ob #[.int .i64 k, .string ⟨key.toArray⟩, .int .i64 t, .int .i64 v] 108]) (fun w' => St (fun _ => False) w w' [Blk ob #[.int .i64 k, .string ⟨key.toArray⟩, .int .i64 t, .int .i64 v] 108, Blk bs #[.int .i64 f0, .int .i64 t0, .int .i64 l0, .int .i64 g0] 76, Blk br #[.int .i64 0, .int .i64 0, .int .i64 0, .int .i64 0] 76]) (by kernel_rfl) (by rfl) (by kernel_rfl) (by kernel_rfl) H4.drew (Fam.st (fun _ h => h.pick [0])) ?_
          iterate 5 first
            | (apply script_pass
               · rfl
               · rfl
               intro K hK
               go_simp
               refine hK _ ?_
               clear hK K)
            | (apply script_step
               · rfl
               · rfl
               · intro I hI w1 h1'
                 have h1 := hI.2 _ h1'
                 have d2 := h1.cell 0 2 rfl rfl
                 first
                   | (go_simp
                      first
                        | rfl
                        | exact ⟨rfl, h1'⟩
                     )
               intro K hK
               go_simp
               refine hK _ ?_
               clear hK K)
          obtain ⟨V1, hV1⟩ := hide_rel (fun u I' => u = undef ∧ I' = fun w' => St (fun _ => False) w w' [Blk ob #[.int .i64 k, .string ⟨key.toArray⟩, .int .i64 t, .int .i64 v] 108, Blk bs #[.int .i64 f0, .int .i64 t0, .int .i64 t, .int .i64 g0] 76, Blk br #[.int .i64 0, .int .i64 0, .int .i64 0, .int .i64 0] 76])
          obtain ⟨V2, hV2⟩ := hide_rel (fun u I' => u = undef ∧ I' = fun w' => St (fun _ => False) w w' [Blk ob #[.int .i64 k, .string ⟨key.toArray⟩, .int .i64 t, .int .i64 v] 108, Blk bs #[.int .i64 f0, .int .i64 t0, .int .i64 t, .int .i64 t] 76, Blk br #[.int .i64 0, .int .i64 0, .int .i64 0, .int .i64 0] 76])
          refine script_big V1 rfl rfl ?_ ?_
          · intro w1 h1
            have p0 := h1.free 1 2 rfl
            have p1 := h1.cell 1 2 rfl rfl
            go_simp
            exact ⟨_, (hV1.out _ _).2 ⟨rfl, rfl⟩, h1.set 1 rfl 2 _⟩
          intro u I' hvI
          obtain ⟨rfl, rfl⟩ := (hV1.out _ _).1 hvI
          clear hvI hV1
          refine ⟨_, fun _ h => h, Fam.st (fun _ h => h.pick [0]), ?_⟩
          intro K hK
          go_simp
          refine hK _ ?_
          clear hK K
          iterate 1 first
            | (apply script_pass
               · rfl
               · rfl
               intro K hK
               go_simp
               refine hK _ ?_
               clear hK K)
            | (apply script_step
               · rfl
               · rfl
               · intro I hI w1 h1'
                 have h1 := hI.2 _ h1'
                 first
                   | (go_simp
                      first
                        | rfl
                        | exact ⟨rfl, h1'⟩
                     )
               intro K hK
               go_simp
               refine hK _ ?_
               clear hK K)
          refine script_big V2 rfl rfl ?_ ?_
          · intro w1 h1
            have p0 := h1.free 1 3 rfl
            have p1 := h1.cell 1 3 rfl rfl
            go_simp
            exact ⟨_, (hV2.out _ _).2 ⟨rfl, rfl⟩, h1.set 1 rfl 3 _⟩
          intro u I' hvI
          obtain ⟨rfl, rfl⟩ := (hV2.out _ _).1 hvI
          clear hvI hV2
          refine ⟨_, fun _ h => h, Fam.st (fun _ h => h.pick [0]), ?_⟩
          intro K hK
          go_simp
          refine hK _ ?_
          clear hK K
          refine script_nil ?_
          intro w9 H9
          obtain ⟨lo, go, hst, H5⟩ : ∃ lo go, stepS ⟨f0, t0, l0, g0⟩ t = ⟨f0, t0, min lo t, max go t⟩ ∧ St (fun _ => False) w w9 [Blk ob #[.int .i64 k, .string ⟨key.toArray⟩, .int .i64 t, .int .i64 v] 108, Blk bs #[.int .i64 f0, .int .i64 t0, .int .i64 lo, .int .i64 go] 76, Blk br #[.int .i64 0, .int .i64 0, .int .i64 0, .int .i64 0] 76] := ⟨_, _, hst3.out, H9⟩
          clear H9 H4 hst3
          go_upto_region 8 with (fail)
        case' neg =>
          have z1 : decide (g0 < l0) = false := by simpa using hem
          rw [z1] at ke
          have hst2 : stepS ⟨f0, t0, l0, g0⟩ t = ⟨f0, t0, min l0 t, max g0 t⟩ := by unfold stepS Str.empty; rw [if_neg (by simpa using hem)]
          have hst3 := Lib.hid hst2
          clear hst2 hem z1
          go_upto_region 8 with (go_at_call 63; go_must (refine (St.callPast (ke _) H3).mono ?_; rintro e w9 ⟨rfl, H9⟩))
          clear e0 e1 e2 e3 H3
          obtain ⟨lo, go, hst, H5⟩ : ∃ lo go, stepS ⟨f0, t0, l0, g0⟩ t = ⟨f0, t0, min lo t, max go t⟩ ∧ St (fun _ => False) w w9 [Blk ob #[.int .i64 k, .string ⟨key.toArray⟩, .int .i64 t, .int .i64 v] 108, Blk bs #[.int .i64 f0, .int .i64 t0, .int .i64 lo, .int .i64 go] 76, Blk br #[.int .i64 0, .int .i64 0, .int .i64 0, .int .i64 0] 76] := ⟨_, _, hst3.out, H9⟩
          clear H9 hst3
        all_goals
          have hsth := Lib.hid hst
          clear hst
          have d2 := H5.cell 0 2 rfl rfl
          have e2 := H5.cell 1 2 rfl rfl
          have e3 := H5.cell 1 3 rfl rfl
          have p2 := H5.free 1 2 rfl
          have p3 := H5.free 1 3 rfl
          have hne : ¬ ob = bs := fun e => by
            have a1 := H5.blk 0 rfl
            have a2 := H5.blk 1 rfl
            rw [e, a2] at a1
            simp at a1
          have hne2 : ¬ bs = ob := fun e => hne e.symm
          have H6 := ((H5.set 1 rfl 2 (.int .i64 (min lo t))).set 1 rfl 3 (.int .i64 (max go t)))
          go_region
          go_wp2
          go_roundw
          case rel =>
            refine ⟨i + 1, by omega, by go_num, ?_⟩
            rw [hs3.out, hsth.out]
            exact H6.drew.pick [1, 2]
          case measure => simp [intOf]; omega
    · obtain rfl : i = l.length := by omega
      rw [List.take_length] at hS0
      have hfin := Lib.hid (show oneS seq l = S0 from hS0)
      obtain ⟨f0, t0, l0, g0⟩ := S0
      have HL : St (fun _ => False) w wr [Blk bs #[.int .i64 f0, .int .i64 t0, .int .i64 l0, .int .i64 g0] 76, Blk br #[.int .i64 0, .int .i64 0, .int .i64 0, .int .i64 0] 76] := HL
      clear hS0
      have e0 := HL.cell 0 0 rfl rfl
      have e1 := HL.cell 0 1 rfl rfl
      have e2 := HL.cell 0 2 rfl rfl
      have e3 := HL.cell 0 3 rfl rfl
      have r0 := HL.free 1 0 rfl
      have r1 := HL.free 1 1 rfl
      have r2 := HL.free 1 2 rfl
      have r3 := HL.free 1 3 rfl
      have x0 := HL.cell 1 0 rfl rfl
      have x1 := HL.cell 1 1 rfl rfl
      have x2 := HL.cell 1 2 rfl rfl
      have x3 := HL.cell 1 3 rfl rfl
      have HR := (((HL.set 1 rfl 0 (.int .i64 f0)).set 1 rfl 1 (.int .i64 t0)).set 1 rfl 2 (.int .i64 l0)).set 1 rfl 3 (.int .i64 g0)
      go_wp2
      try simp only [Exit.inBlock, Exit.then]
      refine bodyPost_ret (results_cell rfl rfl (blk_range (cs := [.int .i64 f0, .int .i64 t0, .int .i64 l0, .int .i64 g0]) (HR.blk 1 rfl)) Try.underlying76 rfl (by kernel_rfl)) rfl ?_
      rw [hfin.out]
      exact ⟨rfl, HR.below (Nat.le_refl _) (fun _ h => h.elim)⟩

end Go.Proofs.Ytbikjhmdpgoofaa
