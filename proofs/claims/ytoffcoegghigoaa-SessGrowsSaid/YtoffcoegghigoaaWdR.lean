/- The document's Place and Same of windows; the law's great. -/
import Derived.Test.YtoffcoegghigoaaWdP
namespace Go.Proofs.Ytoffcoegghigoaa
open Go.RowKit

set_option maxHeartbeats 1000000 in
theorem ref_keys (a b : List UInt8) (w : World) : Calls Try.prog 73 #[.string ⟨a.toArray⟩, .string ⟨b.toArray⟩] w fun e w' => e = .returned (.int .i64 (Lib.compareBytes a b)) ∧ w' = w := by
  have h1 := less_cmp a b
  have h2 := compare_lim a b
  have h3 := cb_zero a b
  obtain ⟨c, hc⟩ : ∃ c, Lib.compareBytes a b = c := ⟨_, rfl⟩
  rw [hc] at h1 h2 h3 ⊢
  clear hc
  by_cases hn : c < 0
  · obtain rfl : c = -1 := by omega
    have z1 : Op.bytesLess a b = true := by rw [h1]; rfl
    clear h1 h3
    go_enter Try.func73, Try.ntmps73
    go_wp2
    go_ret
    exact ⟨rfl, rfl⟩
  · have z1 : Op.bytesLess a b = false := by rw [h1]; simp; omega
    by_cases h0 : c = 0
    · have e := h3.1 h0
      subst e h0
      clear h1 h3
      go_enter Try.func73, Try.ntmps73
      go_wp2
      go_ret
      exact ⟨rfl, rfl⟩
    · obtain rfl : c = 1 := by omega
      have z2 : (a == b) = false := by
        rw [beq_eq_false_iff_ne]
        exact fun e => h0 (h3.2 e)
      have z3 : ¬ a = b := fun e => h0 (h3.2 e)
      clear h1 h3 h0
      go_enter Try.func73, Try.ntmps73
      go_wp2
      go_ret
      exact ⟨rfl, rfl⟩
set_option maxHeartbeats 1000000 in
theorem ref_order (a b : Int) (w : World) : Calls Try.prog 74 #[.int .i64 a, .int .i64 b] w fun e w' => e = .returned (.int .i64 (Lib.compareInt a b)) ∧ w' = w := by
  by_cases h1 : a < b
  · have hr := Lib.hid (show Lib.compareInt a b = -1 by unfold Lib.compareInt; rw [if_pos h1])
    have z1 : decide (a < b) = true := by simpa using h1
    go_enter Try.func74, Try.ntmps74
    go_wp2
    go_ret
    rw [hr.out]
    exact ⟨rfl, rfl⟩
  · have z1 : decide (a < b) = false := by simpa using h1
    by_cases h2 : b < a
    · have hr := Lib.hid (show Lib.compareInt a b = 1 by unfold Lib.compareInt; rw [if_neg h1, if_pos h2])
      have z2 : decide (b < a) = true := by simpa using h2
      go_enter Try.func74, Try.ntmps74
      go_wp2
      go_ret
      rw [hr.out]
      exact ⟨rfl, rfl⟩
    · have hr := Lib.hid (show Lib.compareInt a b = 0 by unfold Lib.compareInt; rw [if_neg h1, if_neg h2])
      have z2 : decide (b < a) = false := by simpa using h2
      go_enter Try.func74, Try.ntmps74
      go_wp2
      go_ret
      rw [hr.out]
      exact ⟨rfl, rfl⟩

set_option maxHeartbeats 2000000 in
set_option maxRecDepth 100000 in
theorem ref_place (x y : Wd) (w : World) : Calls Try.prog 57 #[wdV x, wdV y] w fun e w' => e = .returned (.int .i64 (x.place y)) ∧ Below w.heap.size w w' := by
  have hp := Lib.hid (place_or x y)
  have l1 := compare_lim x.key y.key
  have l2 := compareI_lim x.frm y.frm
  have l3 := compareI_lim x.to y.to
  obtain ⟨xk, xf, xt⟩ := x
  obtain ⟨yk, yf, yt⟩ := y
  have H0 : St (fun _ => False) w w [] := St.nil (fun _ => False) w
  have H1 : St (fun _ => False) w _ [_] := H0.allocAt rfl #[.string ⟨xk.toArray⟩, .int .i64 xf, .int .i64 xt] 41
  have H2 : St (fun _ => False) w _ [_, _] := H1.allocAt (B := w.heap.size + 1) (Array.size_push _) #[.string ⟨yk.toArray⟩, .int .i64 yf, .int .i64 yt] 41
  have k1 := fun w' => ref_keys xk yk w'
  have k2 := fun w' => ref_order xf yf w'
  have k3 := fun w' => ref_order xt yt w'
  simp only at hp l1 l2 l3 k1
  obtain ⟨c1, hc1⟩ : ∃ c, Lib.compareBytes xk yk = c := ⟨_, rfl⟩
  obtain ⟨c2, hc2⟩ : ∃ c, Lib.compareInt xf yf = c := ⟨_, rfl⟩
  obtain ⟨c3, hc3⟩ : ∃ c, Lib.compareInt xt yt = c := ⟨_, rfl⟩
  rw [hc1] at l1
  rw [hc2] at l2
  rw [hc3] at l3
  rw [hc1, hc2, hc3] at hp
  simp only [hc1] at k1
  simp only [hc2] at k2
  simp only [hc3] at k3
  clear hc1 hc2 hc3
  unfold wdV wdC textV
  simp only
  go_enter Try.func57, Try.ntmps57
  go_upto_region 1 with (fail)
  obtain ⟨b, hb⟩ : ∃ b, w.heap.size = b := ⟨_, rfl⟩
  obtain ⟨b2, hb2⟩ : ∃ b2, b + 1 = b2 := ⟨_, rfl⟩
  obtain ⟨w2, hw2⟩ : ∃ w2, (w.alloc (.cells #[.string ⟨xk.toArray⟩, .int .i64 xf, .int .i64 xt] 41)).alloc (.cells #[.string ⟨yk.toArray⟩, .int .i64 yf, .int .i64 yt] 41) = w2 := ⟨_, rfl⟩
  rw [hw2, hb, hb2] at H2
  rw [hw2]
  simp only [hb, hb2]
  have H2 : St (fun _ => False) w w2 [Blk b2 #[.string ⟨yk.toArray⟩, .int .i64 yf, .int .i64 yt] 41, Blk b #[.string ⟨xk.toArray⟩, .int .i64 xf, .int .i64 xt] 41] := H2
  clear hb hb2 hw2 H0 H1
  refine wp_script [(0, false), (1, false), (2, false), (3, false), (4, false), (5, false), (6, false), (7, false), (8, false), (9, false), (10, false), (11, false), (12, false), (13, false), (14, false), (17, false), (15, true), (16, false)] (Fam fun w' => St (fun _ => False) w w' [Blk b2 #[.string ⟨yk.toArray⟩, .int .i64 yf, .int .i64 yt] 41, Blk b #[.string ⟨xk.toArray⟩, .int .i64 xf, .int .i64 xt] 41]) (fun w' => St (fun _ => False) w w' [Blk b2 #[.string ⟨yk.toArray⟩, .int .i64 yf, .int .i64 yt] 41, Blk b #[.string ⟨xk.toArray⟩, .int .i64 xf, .int .i64 xt] 41]) (by kernel_rfl) (by rfl) (by kernel_rfl) (by kernel_rfl) H2.drew (Fam.st (fun _ h => h)) ?_
  iterate 16 first
    | (apply script_pass
       · rfl
       · rfl
       intro K hK
       go_simp
       refine hK _ ?_
       clear hK K)
    | (apply script_step
       · rfl
       · rfl
       · intro I hI w1 h1'
         have h1 := hI.2 _ h1'
         have d0 := h1.cell 0 0 rfl rfl
         have d1 := h1.cell 0 1 rfl rfl
         have d2 := h1.cell 0 2 rfl rfl
         have e0 := h1.cell 1 0 rfl rfl
         have e1 := h1.cell 1 1 rfl rfl
         have e2 := h1.cell 1 2 rfl rfl
         first
           | (go_simp
              first
                | rfl
                | exact ⟨rfl, h1'⟩
                | (go_at_call 73; with_reducible exact Fam.call0 h1' (k1 w1))
                | (go_at_call 74; with_reducible exact Fam.call0 h1' (k2 w1))
                | (go_at_call 74; with_reducible exact Fam.call0 h1' (k3 w1))
             )
       intro K hK
       go_simp
       refine hK _ ?_
       clear hK K)
  obtain ⟨V1, hV1⟩ := hide_rel (fun u I' => ∃ g2, u = .slice (some ⟨g2, 0, none⟩) 3 3 ∧ I' = fun w' => St (fun _ => False) w w' [Blk g2 #[.int .i64 c1, .int .i64 c2, .int .i64 c3] 3, Blk b2 #[.string ⟨yk.toArray⟩, .int .i64 yf, .int .i64 yt] 41, Blk b #[.string ⟨xk.toArray⟩, .int .i64 xf, .int .i64 xt] 41])
  refine script_big V1 rfl rfl ?_ ?_
  · intro w1 h1
    go_simp
    exact ⟨_, (hV1.out _ _).2 ⟨_, rfl, rfl⟩, h1.alloc _ _⟩
  intro u I' hvI
  obtain ⟨b3, rfl, rfl⟩ := (hV1.out _ _).1 hvI
  clear hvI hV1
  refine ⟨_, fun _ h => h, Fam.st (fun _ h => h.pick [1, 2]), ?_⟩
  intro K hK
  go_simp
  refine hK _ ?_
  clear hK K
  iterate 1 first
    | (apply script_pass
       · rfl
       · rfl
       intro K hK
       go_simp
       refine hK _ ?_
       clear hK K)
    | (apply script_step
       · rfl
       · rfl
       · intro I hI w1 h1'
         have h1 := hI.2 _ h1'
         first
           | (go_simp
              first
                | rfl
                | exact ⟨rfl, h1'⟩
             )
       intro K hK
       go_simp
       refine hK _ ?_
       clear hK K)
  refine script_nil ?_
  intro w4 H4
  have H5 : St (fun _ => False) w w4 [Blk b3 #[.int .i64 c1, .int .i64 c2, .int .i64 c3] 3] := H4.pick [0]
  obtain ⟨ad, cap, hvv, _, hint, hcell⟩ := ints_blk (l := [c1, c2, c3]) (H5.blk 0 rfl) (by
    intro z hz
    simp only [List.mem_cons, List.not_mem_nil, or_false] at hz
    omega)
  clear hvv hcell H4 H2 k1 k2 k3
  go_upto_block 1 with (fail)
  go_loopw [6, 24] (fun _ j wr => ∃ (i : Nat), i ≤ 3 ∧ j = .int .i64 i ∧ Hid (∀ y ∈ [c1, c2, c3].take i, y = 0) ∧ St (fun _ => False) w wr [Blk b3 #[.int .i64 c1, .int .i64 c2, .int .i64 c3] 3]) (fun _ j _ => 3 - (intOf j).toNat)
  case atStart => exact ⟨0, by omega, rfl, Lib.hid (by simp), H5⟩
  case round =>
    clear H5
    obtain ⟨i, hi, rfl, hz, HM⟩ := hrel
    by_cases hlt : i < 3
    · obtain ⟨x, hx⟩ : ∃ x, [c1, c2, c3][i]? = some x := ⟨_, List.getElem?_eq_getElem hlt⟩
      have c0 : wr.cell? ⟨b3, i, none⟩ = some (.int .i64 x) := HM.cell 0 i rfl (by
        have : (#[Value.int .i64 c1, .int .i64 c2, .int .i64 c3] : Array Value) = ([c1, c2, c3].map (Value.int .i64)).toArray := rfl
        rw [this, List.getElem?_toArray, List.getElem?_map, hx]
        rfl)
      have hxh := Lib.hid hx
      have hlt' : (i : Int) < 3 := by omega
      clear hx hint
      by_cases h0 : x = 0
      · subst h0
        go_wp2
        go_roundw
        case rel =>
          refine ⟨i + 1, by omega, by go_num, Lib.hid ?_, HM⟩
          rw [take_snoc' hxh.out]
          intro y hy
          rcases List.mem_append.1 hy with hy | hy
          · exact hz.out y hy
          · exact List.mem_singleton.1 hy
        case measure => simp [intOf]; omega
      · have hr := Lib.hid (orI_zero hz.out hxh.out h0)
        have z0 : (x != 0) = true := by simpa using h0
        have z1 : (x == 0) = false := by simpa using h0
        go_wp2
        go_ret
        rw [← hp.out, hr.out]
        exact ⟨rfl, HM.below (Nat.le_refl _) (fun _ h => h.elim)⟩
    · obtain rfl : i = 3 := by omega
      have hr := Lib.hid (orI_all (l := [c1, c2, c3]) (by have := hz.out; simpa using this))
      go_wp2
      go_ret
      rw [← hp.out, hr.out]
      exact ⟨rfl, HM.below (Nat.le_refl _) (fun _ h => h.elim)⟩

set_option maxHeartbeats 1000000 in
set_option maxRecDepth 100000 in
theorem wds_same {v1 v2 : Value} {l : List Wd} (w : World) (hv1 : WdsRO w v1 l) (hv2 : WdsRO w v2 l) (hll : l.length ≤ 9223372036854775807) :
    Calls Try.prog 29 #[v1, v2] w fun e w' => e = .returned (.bool true) ∧ Below w.heap.size w w' := by
  obtain ⟨ao, cap, rfl, hcap, _, hcell⟩ := hv1
  obtain ⟨ap, cbp, rfl, hcbp, _, hcell2⟩ := hv2
  have H0 : St (fun _ => False) w w [] := St.nil (fun _ => False) w
  go_enter Try.func29, Try.ntmps29
  have hz : ((l.length : Int) == (l.length : Int)) = true := by simp
  go_upto_block 1 with (fail)
  go_loopw [5, 13] (fun _ j wr => ∃ (i : Nat), i ≤ l.length ∧ j = .int .i64 i ∧ St (fun _ => False) w wr []) (fun _ j _ => l.length - (intOf j).toNat)
  case atStart => exact ⟨0, by omega, rfl, H0⟩
  case round =>
    clear H0
    obtain ⟨i, hi, rfl, HL⟩ := hrel
    by_cases hlt : i < l.length
    · obtain ⟨b, o, rfl, hb, hc⟩ := hcell (by rintro rfl; simp at hlt)
      obtain ⟨b2, o2, rfl, hb2, hc2⟩ := hcell2 (by rintro rfl; simp at hlt)
      obtain ⟨x, hx⟩ : ∃ x, l[i]? = some x := ⟨_, List.getElem?_eq_getElem hlt⟩
      have g1 := hc i x hx
      have g2 := hc2 i x hx
      clear hx hc hcell hc2 hcell2
      obtain ⟨xk, xf, xt⟩ := x
      go_upto_region 6 with (fail)
      refine wp_calm (fun w' => St (fun _ => False) w w' []) (by kernel_rfl) (by kernel_rfl) (HL.drew) ?_
      iterate 9 first
        | (apply calm_pass
           · rfl
           intro K hK
           go_simp
           refine hK _ ?_
           clear hK K)
        | (apply calm_step
           · rfl
           · intro w1 h1
             obtain ⟨q0, q1, q2⟩ := wd_cells g1 (h1.kept.block b hb id)
             obtain ⟨p0, p1, p2⟩ := wd_cells g2 (h1.kept.block b2 hb2 id)
             simp only at q0 q1 q2 p0 p1 p2
             unfold textV at q0 p0
             first
               | (go_simp
                  first
                    | rfl
                    | exact ⟨rfl, h1⟩
                 )
           intro K hK
           go_simp
           refine hK _ ?_
           clear hK K)
      refine calm_nil ?_
      intro w9 H9
      go_wp2
      go_roundw
      case rel => exact ⟨i + 1, by omega, by go_num, H9⟩
      case measure => simp [intOf]; omega
    · obtain rfl : i = l.length := by omega
      go_wp2
      go_ret
      exact ⟨rfl, HL.below (Nat.le_refl _) (fun _ h => h.elim)⟩

def greatN (l : List Wd) : Int := l.foldl (fun n x => wrap64 (n + wrap64 (20 + (x.key.length : Int)))) 0
set_option maxHeartbeats 1000000 in
set_option maxRecDepth 100000 in
theorem wds_great {v : Value} {l : List Wd} (w : World) (hv : WdsRO w v l) (hll : l.length ≤ 9223372036854775807) :
    Calls Try.prog 22 #[v] w fun e w' => e = .returned (.bool (decide (1200 < greatN l))) ∧ Below w.heap.size w w' := by
  obtain ⟨ao, cap, rfl, hcap, hfit, hcell⟩ := hv
  have H0 : St (fun _ => False) w w [] := St.nil (fun _ => False) w
  go_enter Try.func22, Try.ntmps22
  go_upto_block 1 with (fail)
  go_loopw [3, 8] (fun n j wr => ∃ (i : Nat) (N : Int), i ≤ l.length ∧ n = .int .i64 N ∧ j = .int .i64 i ∧ Hid (N = greatN (l.take i)) ∧ St (fun _ => False) w wr []) (fun _ j _ => l.length - (intOf j).toNat)
  case atStart => exact ⟨0, 0, by omega, rfl, rfl, Lib.hid rfl, H0⟩
  case round =>
    clear H0
    obtain ⟨i, N, hi, rfl, rfl, hN, HL⟩ := hrel
    by_cases hlt : i < l.length
    · obtain ⟨b, o, rfl, hb, hc⟩ := hcell (by rintro rfl; simp at hlt)
      obtain ⟨x, hx⟩ : ∃ x, l[i]? = some x := ⟨_, List.getElem?_eq_getElem hlt⟩
      obtain ⟨q0, q1, q2⟩ := wd_cells (hc i x hx) (HL.kept.block b hb id)
      have hn := Lib.hid (show greatN (l.take (i + 1)) = wrap64 (N + wrap64 (20 + (x.key.length : Int))) by rw [take_snoc' hx, greatN, List.foldl_append, hN.out]; rfl)
      clear hx hc hcell hfit
      obtain ⟨xk, xf, xt⟩ := x
      simp only at q0 q1 q2
      unfold textV at q0
      have HA : St (fun _ => False) w _ [_] := HL.allocAt rfl #[.string ⟨xk.toArray⟩, .int .i64 xf, .int .i64 xt] 41
      go_upto_region 5 with (fail)
      obtain ⟨wa, hwa⟩ : ∃ wa, wr.alloc (.cells #[.string ⟨xk.toArray⟩, .int .i64 xf, .int .i64 xt] 41) = wa := ⟨_, rfl⟩
      obtain ⟨ob, hob⟩ : ∃ ob, wr.heap.size = ob := ⟨_, rfl⟩
      rw [hwa, hob] at HA
      try rw [hwa]
      try simp only [hob]
      clear hwa hob q0 q1 q2 HL
      have d0 := HA.cell 0 0 rfl rfl
      go_wp2
      go_roundw
      case rel => exact ⟨i + 1, _, by omega, rfl, by go_num, Lib.hid (by rw [hn.out]), HA.pick []⟩
      case measure => simp [intOf]; omega
    · obtain rfl : i = l.length := by omega
      rw [List.take_length] at hN
      go_wp2
      go_ret
      rw [← hN.out]
      exact ⟨by first | rfl | simp, HL.below (Nat.le_refl _) (fun _ h => h.elim)⟩
end Go.Proofs.Ytoffcoegghigoaa
