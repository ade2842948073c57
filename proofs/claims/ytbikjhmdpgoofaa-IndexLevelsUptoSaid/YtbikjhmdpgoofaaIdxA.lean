/- The walks of the index's small functions: empty, Meets, Join. No condition. -/
import Derived.Test.YtbikjhmdpgoofaaIdxM
import Derived.Test.YtbikjhmdpgoofaaEvA
import Derived.Test.YtbikjhmdpgoofaaScript
namespace Go.Proofs.Ytbikjhmdpgoofaa
open Go.RowKit

abbrev strV (s : Str) : Value := .agg #[.int .i64 s.fr, .int .i64 s.to, .int .i64 s.least, .int .i64 s.great]
abbrev strC (s : Str) : Array Value := #[.int .i64 s.fr, .int .i64 s.to, .int .i64 s.least, .int .i64 s.great]

/-- A result that lies in a block of the call's own. -/
theorem results_cell {P : Program} {fn : Func} {t : Tmp} {ty : TypeId} (h : fn.results = #[.cell t ty]) {tmps : Array Value} {w : World} {b : Nat} {cs : List Value} {d : TypeDesc} (ht : tmps.getD t undef = .pointer (some ⟨b, 0, none⟩)) (hr : w.rangeAt b 0 cs)
    (hu : P.underlying ty = some d) (hd : d.isRow = true) (hi : (P.info? ty).map (·.size) = some cs.length) : (results fn tmps).run P w = .ok (.agg cs.toArray) w := by
  have h2 := run_loadVar_mid (P := P) w b 0 ty cs d hr hu hd hi
  have h3 : tmps[t]?.getD undef = .pointer (some ⟨b, 0, none⟩) := by simpa using ht
  simp [results, h, h3, asAddr, h2]
theorem blk_range {w : World} {g : Nat} {t : TypeId} {f : Nat × Nat} {cs : List Value} (h : w.heap[g]? = some (.cells cs.toArray t f)) : w.rangeAt g 0 cs := fun j u hj => by rw [Nat.zero_add, cell_blk h]; simpa using hj
theorem idx_empty (s : Str) (w : World) : Calls Try.prog 63 #[strV s] w fun e w' => e = .returned (.bool s.empty) ∧ Below w.heap.size w w' := by
  obtain ⟨f, t, l, g⟩ := s
  have H : St (fun _ => False) w (w.alloc (.cells #[.int .i64 f, .int .i64 t, .int .i64 l, .int .i64 g] 76)) [Blk w.heap.size #[.int .i64 f, .int .i64 t, .int .i64 l, .int .i64 g] 76] := (St.nil (fun _ => False) w).alloc _ _
  have c2 := H.cell 0 2 rfl rfl
  have c3 := H.cell 0 3 rfl rfl
  unfold Str.empty
  unfold strV
  simp only
  go_enter Try.func63, Try.ntmps63
  go_wp2
  go_ret
  exact ⟨rfl, H.below (Nat.le_refl _) (fun _ h => h.elim)⟩

set_option maxHeartbeats 1000000 in
theorem idx_meets (s : Str) (a b : Int) (w : World) : Calls Try.prog 38 #[strV s, .int .i64 a, .int .i64 b] w fun e w' => e = .returned (.bool (meetsS s a b)) ∧ Below w.heap.size w w' := by
  have ke := fun w' => idx_empty s w'
  have hm : meetsS s a b = (!s.empty && decide (s.least ≤ b) && decide (a ≤ s.great)) := rfl
  obtain ⟨em, hem⟩ : ∃ em, s.empty = em := ⟨_, rfl⟩
  rw [hem] at ke hm
  clear hem
  obtain ⟨f, t, l, g⟩ := s
  unfold strV at ke ⊢
  simp only at ke hm ⊢
  have H : St (fun _ => False) w (w.alloc (.cells #[.int .i64 f, .int .i64 t, .int .i64 l, .int .i64 g] 76)) [Blk w.heap.size #[.int .i64 f, .int .i64 t, .int .i64 l, .int .i64 g] 76] := (St.nil (fun _ => False) w).alloc _ _
  have hmh := Lib.hid hm
  clear hm
  go_enter Try.func38, Try.ntmps38
  go_wp2_with (go_at_call 63; go_must (refine (St.callPast (ke _) H).mono ?_; rintro e w2 ⟨rfl, H2⟩; have c2 := H2.cell 0 2 rfl rfl; have c3 := H2.cell 0 3 rfl rfl))
  all_goals go_ret
  all_goals rw [hmh.out]
  all_goals refine ⟨?_, H2.below (Nat.le_refl _) (fun _ h => h.elim)⟩
  all_goals first | rfl | (simp_all; done) | (cases em <;> simp_all; done) | (cases em <;> simp_all <;> omega)

set_option maxHeartbeats 2000000 in
set_option maxRecDepth 100000 in
theorem idx_join (a b : Str) (w : World) : Calls Try.prog 37 #[strV a, strV b] w fun e w' => e = .returned (strV (joinS a b)) ∧ Below w.heap.size w w' := by
  have kea := fun w' => idx_empty a w'
  have keb := fun w' => idx_empty b w'
  obtain ⟨f1, t1, l1, g1⟩ := a
  obtain ⟨f2, t2, l2, g2⟩ := b
  unfold strV at kea keb ⊢
  simp only [Str.empty] at kea keb ⊢
  go_enter Try.func37, Try.ntmps37
  obtain ⟨ba, hba⟩ : ∃ ba, w.heap.size = ba := ⟨_, rfl⟩
  have H0 : St (fun _ => False) w _ [Blk (ba + 1 + 1 + 1) #[.int .i64 f1, .int .i64 t2, .int .i64 l1, .int .i64 g1] 76, Blk (ba + 1 + 1) #[.int .i64 0, .int .i64 0, .int .i64 0, .int .i64 0] 76, Blk (ba + 1) #[.int .i64 f2, .int .i64 t2, .int .i64 l2, .int .i64 g2] 76, Blk ba #[.int .i64 f1, .int .i64 t1, .int .i64 l1, .int .i64 g1] 76] := ((((St.nil (fun _ => False) w).allocAt hba #[.int .i64 f1, .int .i64 t1, .int .i64 l1, .int .i64 g1] 76).allocAt (B := ba + 1) (by simp [hba]) #[.int .i64 f2, .int .i64 t2, .int .i64 l2, .int .i64 g2] 76).allocAt (B := ba + 1 + 1) (by simp [hba]) #[.int .i64 0, .int .i64 0, .int .i64 0, .int .i64 0] 76).allocAt (B := ba + 1 + 1 + 1) (by simp [hba]) #[.int .i64 f1, .int .i64 t2, .int .i64 l1, .int .i64 g1] 76
  go_upto_region 2 with (fail)
  obtain ⟨w1, hw1⟩ : ∃ w1, ((((w.alloc (.cells #[.int .i64 f1, .int .i64 t1, .int .i64 l1, .int .i64 g1] 76)).alloc (.cells #[.int .i64 f2, .int .i64 t2, .int .i64 l2, .int .i64 g2] 76)).alloc (.cells #[.int .i64 0, .int .i64 0, .int .i64 0, .int .i64 0] 76)).alloc (.cells #[.int .i64 f1, .int .i64 t2, .int .i64 l1, .int .i64 g1] 76)) = w1 := ⟨_, rfl⟩
  rw [hw1] at H0
  try rw [hw1]
  clear hw1
  obtain ⟨bb, hbb⟩ : ∃ bb, ba + 1 = bb := ⟨_, rfl⟩
  try simp only [hba]
  rw [hbb] at H0
  try rw [hbb]
  obtain ⟨br, hbr⟩ : ∃ br, bb + 1 = br := ⟨_, rfl⟩
  rw [hbr] at H0
  try rw [hbr]
  obtain ⟨bo, hbo⟩ : ∃ bo, br + 1 = bo := ⟨_, rfl⟩
  rw [hbo] at H0
  try rw [hbo]
  clear hba hbb hbr hbo
  have a0 := H0.cell 3 0 rfl rfl
  have a1 := H0.cell 3 1 rfl rfl
  have a2 := H0.cell 3 2 rfl rfl
  have a3 := H0.cell 3 3 rfl rfl
  have hjd : joinS ⟨f1, t1, l1, g1⟩ ⟨f2, t2, l2, g2⟩ = ⟨f1, t2, (both l1 g1 l2 g2).1, (both l1 g1 l2 g2).2⟩ := rfl
  have hjh := Lib.hid hjd
  clear hjd
  by_cases hea : g1 < l1
  case' pos =>
    have z1 : decide (g1 < l1) = true := by simpa using hea
    rw [z1] at kea
    have hfin := Lib.hid (show both l1 g1 l2 g2 = if g2 < l2 then (1, 0) else (l2, g2) by unfold both; rw [if_pos hea])
    clear hea z1
    go_upto_region 3 with (go_at_call 63; go_must (refine (St.callPast (kea _) H0).mono ?_; rintro e w2 ⟨rfl, H2⟩))
    clear a0 a1 a2 a3 H0
    refine wp_script [(0, false), (1, false), (2, false), (3, false), (4, false), (5, true), (6, false), (7, true)] (Fam fun w' => St (fun _ => False) w w' [Blk bb #[.int .i64 f2, .int .i64 t2, .int .i64 l2, .int .i64 g2] 76, Blk ba #[.int .i64 f1, .int .i64 t1, .int .i64 l1, .int .i64 g1] 76]) (fun w' => St (fun _ => False) w w' [Blk bo #[.int .i64 f1, .int .i64 t2, .int .i64 l1, .int .i64 g1] 76, Blk br #[.int .i64 0, .int .i64 0, .int .i64 0, .int .i64 0] 76, Blk bb #[.int .i64 f2, .int .i64 t2, .int .i64 l2, .int .i64 g2] 76, Blk ba #[.int .i64 f1, .int .i64 t1, .int .i64 l1, .int .i64 g1] 76]) (by kernel_rfl) (by rfl) (by kernel_rfl) (by kernel_rfl) H2.drew (Fam.st (fun _ h => h.pick [2, 3])) ?_
    iterate 5 first
      | (apply script_pass
         · rfl
         · rfl
         intro K hK
         go_simp
         refine hK _ ?_
         clear hK K)
      | (apply script_step
         · rfl
         · rfl
         · intro I hI w1 h1'
           have h1 := hI.2 _ h1'
           have d0 := h1.cell 0 2 rfl rfl
           have d1 := h1.cell 0 3 rfl rfl
           have d2 := h1.cell 1 2 rfl rfl
           have d3 := h1.cell 1 3 rfl rfl
           first
             | (go_simp
                first
                  | rfl
                  | exact ⟨rfl, h1'⟩
               )
         intro K hK
         go_simp
         refine hK _ ?_
         clear hK K)
    obtain ⟨V1, hV1⟩ := hide_rel (fun v I' => v = undef ∧ I' = fun w' => St (fun _ => False) w w' [Blk bo #[.int .i64 f1, .int .i64 t2, .int .i64 l2, .int .i64 g1] 76, Blk br #[.int .i64 0, .int .i64 0, .int .i64 0, .int .i64 0] 76, Blk bb #[.int .i64 f2, .int .i64 t2, .int .i64 l2, .int .i64 g2] 76, Blk ba #[.int .i64 f1, .int .i64 t1, .int .i64 l1, .int .i64 g1] 76])
    obtain ⟨V2, hV2⟩ := hide_rel (fun v I' => v = undef ∧ I' = fun w' => St (fun _ => False) w w' [Blk bo #[.int .i64 f1, .int .i64 t2, .int .i64 l2, .int .i64 g2] 76, Blk br #[.int .i64 0, .int .i64 0, .int .i64 0, .int .i64 0] 76, Blk bb #[.int .i64 f2, .int .i64 t2, .int .i64 l2, .int .i64 g2] 76, Blk ba #[.int .i64 f1, .int .i64 t1, .int .i64 l1, .int .i64 g1] 76])
    refine script_big V1 rfl rfl ?_ ?_
    · intro w1 h1
      have f0 := h1.free 0 2 rfl
      have f1' := h1.blk_lt 0 rfl
      have e0 := h1.cell 0 2 rfl rfl
      go_simp
      exact ⟨_, (hV1.out _ _).2 ⟨rfl, rfl⟩, h1.set 0 rfl 2 _⟩
    intro v I' hvI
    obtain ⟨rfl, rfl⟩ := (hV1.out _ _).1 hvI
    clear hvI hV1
    refine ⟨_, fun _ h => h, Fam.st (fun _ h => h.pick [2, 3]), ?_⟩
    intro K hK
    go_simp
    refine hK _ ?_
    clear hK K
    iterate 1 first
      | (apply script_pass
         · rfl
         · rfl
         intro K hK
         go_simp
         refine hK _ ?_
         clear hK K)
      | (apply script_step
         · rfl
         · rfl
         · intro I hI w1 h1'
           have h1 := hI.2 _ h1'
           first
             | (go_simp
                first
                  | rfl
                  | exact ⟨rfl, h1'⟩
               )
         intro K hK
         go_simp
         refine hK _ ?_
         clear hK K)
    refine script_big V2 rfl rfl ?_ ?_
    · intro w1 h1
      have f0 := h1.free 0 3 rfl
      have e0 := h1.cell 0 3 rfl rfl
      go_simp
      exact ⟨_, (hV2.out _ _).2 ⟨rfl, rfl⟩, h1.set 0 rfl 3 _⟩
    intro v I' hvI
    obtain ⟨rfl, rfl⟩ := (hV2.out _ _).1 hvI
    clear hvI hV2
    refine ⟨_, fun _ h => h, Fam.st (fun _ h => h.pick [2, 3]), ?_⟩
    intro K hK
    go_simp
    refine hK _ ?_
    clear hK K
    refine script_nil ?_
    intro w9 H9
    clear H2
    obtain ⟨lo, go, hfn, H10⟩ : ∃ lo go, both l1 g1 l2 g2 = (if go < lo then (1, 0) else (lo, go)) ∧ St (fun _ => False) w w9 [Blk bo #[.int .i64 f1, .int .i64 t2, .int .i64 lo, .int .i64 go] 76, Blk br #[.int .i64 0, .int .i64 0, .int .i64 0, .int .i64 0] 76, Blk bb #[.int .i64 f2, .int .i64 t2, .int .i64 l2, .int .i64 g2] 76, Blk ba #[.int .i64 f1, .int .i64 t1, .int .i64 l1, .int .i64 g1] 76] := ⟨_, _, hfin.out, H9⟩
    clear H9 hfin
    go_upto_region 6 with (fail)
  case' neg =>
    have z1 : decide (g1 < l1) = false := by simpa using hea
    rw [z1] at kea
    go_upto_region 4 with (go_at_call 63; go_must (refine (St.callPast (kea _) H0).mono ?_; rintro e w2 ⟨rfl, H2⟩))
    clear a0 a1 a2 a3 H0
    have b0 := H2.cell 2 0 rfl rfl
    have b1 := H2.cell 2 1 rfl rfl
    have b2 := H2.cell 2 2 rfl rfl
    have b3 := H2.cell 2 3 rfl rfl
    by_cases heb : g2 < l2
    case' pos =>
      have z2 : decide (g2 < l2) = true := by simpa using heb
      rw [z2] at keb
      have hx : both l1 g1 l2 g2 = if g1 < l1 then (1, 0) else (l1, g1) := by unfold both; rw [if_neg (by omega), if_pos (by omega), if_neg (by omega)]
      have hxh := Lib.hid hx
      clear hx hea heb z1 z2
      go_upto_region 6 with (go_at_call 63; go_must (refine (St.callPast (keb _) H2).mono ?_; rintro e w9 ⟨rfl, H9⟩))
      clear b0 b1 b2 b3 H2
      obtain ⟨lo, go, hfn, H10⟩ : ∃ lo go, both l1 g1 l2 g2 = (if go < lo then (1, 0) else (lo, go)) ∧ St (fun _ => False) w w9 [Blk bo #[.int .i64 f1, .int .i64 t2, .int .i64 lo, .int .i64 go] 76, Blk br #[.int .i64 0, .int .i64 0, .int .i64 0, .int .i64 0] 76, Blk bb #[.int .i64 f2, .int .i64 t2, .int .i64 l2, .int .i64 g2] 76, Blk ba #[.int .i64 f1, .int .i64 t1, .int .i64 l1, .int .i64 g1] 76] := ⟨_, _, hxh.out, H9⟩
      clear H9 hxh
    case' neg =>
      have z2 : decide (g2 < l2) = false := by simpa using heb
      rw [z2] at keb
      have hx : both l1 g1 l2 g2 = if max g1 g2 < min l1 l2 then (1, 0) else (min l1 l2, max g1 g2) := by unfold both; rw [if_neg (by omega), if_neg (by omega), if_neg (by omega)]
      have hxh := Lib.hid hx
      clear hx hea heb z1 z2
      go_upto_region 5 with (go_at_call 63; go_must (refine (St.callPast (keb _) H2).mono ?_; rintro e w4 ⟨rfl, H4⟩))
      clear b0 b1 b2 b3 H2
      refine wp_script [(0, false), (1, false), (2, false), (3, false), (4, false), (5, false), (6, false), (7, false), (8, false), (9, false), (10, false), (11, true), (12, false), (13, true)] (Fam fun w' => St (fun _ => False) w w' [Blk bb #[.int .i64 f2, .int .i64 t2, .int .i64 l2, .int .i64 g2] 76, Blk ba #[.int .i64 f1, .int .i64 t1, .int .i64 l1, .int .i64 g1] 76]) (fun w' => St (fun _ => False) w w' [Blk bo #[.int .i64 f1, .int .i64 t2, .int .i64 l1, .int .i64 g1] 76, Blk br #[.int .i64 0, .int .i64 0, .int .i64 0, .int .i64 0] 76, Blk bb #[.int .i64 f2, .int .i64 t2, .int .i64 l2, .int .i64 g2] 76, Blk ba #[.int .i64 f1, .int .i64 t1, .int .i64 l1, .int .i64 g1] 76]) (by kernel_rfl) (by rfl) (by kernel_rfl) (by kernel_rfl) H4.drew (Fam.st (fun _ h => h.pick [2, 3])) ?_
      iterate 11 first
        | (apply script_pass
           · rfl
           · rfl
           intro K hK
           go_simp
           refine hK _ ?_
           clear hK K)
        | (apply script_step
           · rfl
           · rfl
           · intro I hI w1 h1'
             have h1 := hI.2 _ h1'
             have d0 := h1.cell 0 2 rfl rfl
             have d1 := h1.cell 0 3 rfl rfl
             have d2 := h1.cell 1 2 rfl rfl
             have d3 := h1.cell 1 3 rfl rfl
             first
               | (go_simp
                  first
                    | rfl
                    | exact ⟨rfl, h1'⟩
                 )
           intro K hK
           go_simp
           refine hK _ ?_
           clear hK K)
      obtain ⟨V1, hV1⟩ := hide_rel (fun v I' => v = undef ∧ I' = fun w' => St (fun _ => False) w w' [Blk bo #[.int .i64 f1, .int .i64 t2, .int .i64 (min l1 l2), .int .i64 g1] 76, Blk br #[.int .i64 0, .int .i64 0, .int .i64 0, .int .i64 0] 76, Blk bb #[.int .i64 f2, .int .i64 t2, .int .i64 l2, .int .i64 g2] 76, Blk ba #[.int .i64 f1, .int .i64 t1, .int .i64 l1, .int .i64 g1] 76])
      obtain ⟨V2, hV2⟩ := hide_rel (fun v I' => v = undef ∧ I' = fun w' => St (fun _ => False) w w' [Blk bo #[.int .i64 f1, .int .i64 t2, .int .i64 (min l1 l2), .int .i64 (max g1 g2)] 76, Blk br #[.int .i64 0, .int .i64 0, .int .i64 0, .int .i64 0] 76, Blk bb #[.int .i64 f2, .int .i64 t2, .int .i64 l2, .int .i64 g2] 76, Blk ba #[.int .i64 f1, .int .i64 t1, .int .i64 l1, .int .i64 g1] 76])
      refine script_big V1 rfl rfl ?_ ?_
      · intro w1 h1
        have f0 := h1.free 0 2 rfl
        have f1' := h1.blk_lt 0 rfl
        have e0 := h1.cell 0 2 rfl rfl
        go_simp
        exact ⟨_, (hV1.out _ _).2 ⟨rfl, rfl⟩, h1.set 0 rfl 2 _⟩
      intro v I' hvI
      obtain ⟨rfl, rfl⟩ := (hV1.out _ _).1 hvI
      clear hvI hV1
      refine ⟨_, fun _ h => h, Fam.st (fun _ h => h.pick [2, 3]), ?_⟩
      intro K hK
      go_simp
      refine hK _ ?_
      clear hK K
      iterate 1 first
        | (apply script_pass
           · rfl
           · rfl
           intro K hK
           go_simp
           refine hK _ ?_
           clear hK K)
        | (apply script_step
           · rfl
           · rfl
           · intro I hI w1 h1'
             have h1 := hI.2 _ h1'
             first
               | (go_simp
                  first
                    | rfl
                    | exact ⟨rfl, h1'⟩
                 )
           intro K hK
           go_simp
           refine hK _ ?_
           clear hK K)
      refine script_big V2 rfl rfl ?_ ?_
      · intro w1 h1
        have f0 := h1.free 0 3 rfl
        have e0 := h1.cell 0 3 rfl rfl
        go_simp
        exact ⟨_, (hV2.out _ _).2 ⟨rfl, rfl⟩, h1.set 0 rfl 3 _⟩
      intro v I' hvI
      obtain ⟨rfl, rfl⟩ := (hV2.out _ _).1 hvI
      clear hvI hV2
      refine ⟨_, fun _ h => h, Fam.st (fun _ h => h.pick [2, 3]), ?_⟩
      intro K hK
      go_simp
      refine hK _ ?_
      clear hK K
      refine script_nil ?_
      intro w9 H9
      obtain ⟨lo, go, hfn, H10⟩ : ∃ lo go, both l1 g1 l2 g2 = (if go < lo then (1, 0) else (lo, go)) ∧ St (fun _ => False) w w9 [Blk bo #[.int .i64 f1, .int .i64 t2, .int .i64 lo, .int .i64 go] 76, Blk br #[.int .i64 0, .int .i64 0, .int .i64 0, .int .i64 0] 76, Blk bb #[.int .i64 f2, .int .i64 t2, .int .i64 l2, .int .i64 g2] 76, Blk ba #[.int .i64 f1, .int .i64 t1, .int .i64 l1, .int .i64 g1] 76] := ⟨_, _, hxh.out, H9⟩
      clear H9 hxh H4
      go_upto_region 6 with (fail)
  all_goals
    have ke6 := fun w' => idx_empty ⟨f1, t2, lo, go⟩ w'
    simp only [Str.empty] at ke6
    unfold strV at ke6
    simp only at ke6
    have o0 := H10.cell 0 0 rfl rfl
    have o1 := H10.cell 0 1 rfl rfl
    have o2 := H10.cell 0 2 rfl rfl
    have o3 := H10.cell 0 3 rfl rfl
    by_cases hlg : go < lo
    · have z5 : decide (go < lo) = true := by simpa using hlg
      rw [z5] at ke6
      rw [if_pos hlg] at hfn
      have hfh := Lib.hid hfn
      clear hfn hlg z5
      go_upto_region 7 with (go_at_call 63; go_must (refine (St.callPast (ke6 _) H10).mono ?_; rintro e w11 ⟨rfl, H11⟩))
      clear o0 o1 o2 o3 H10
      have p2 := H11.free 0 2 rfl
      have p3 := H11.free 0 3 rfl
      have o2 := H11.cell 0 2 rfl rfl
      have o3 := H11.cell 0 3 rfl rfl
      have hlt := H11.blk_lt 0 rfl
      have H12 := (H11.set 0 rfl 2 (.int .i64 1)).set 0 rfl 3 (.int .i64 0)
      go_upto_region 8 with (fail)
      obtain ⟨w12, hw12⟩ : ∃ w12, ((w11.setCell ⟨bo, 2, none⟩ (.int .i64 1)).setCell ⟨bo, 3, none⟩ (.int .i64 0)) = w12 := ⟨_, rfl⟩
      rw [hw12] at H12
      try rw [hw12]
      clear hw12 o2 o3 p2 p3 hlt H11
      have H12 : St (fun _ => False) w w12 [Blk bo #[.int .i64 f1, .int .i64 t2, .int .i64 1, .int .i64 0] 76, Blk br #[.int .i64 0, .int .i64 0, .int .i64 0, .int .i64 0] 76, _, _] := H12
      have o0 := H12.cell 0 0 rfl rfl
      have o1 := H12.cell 0 1 rfl rfl
      have o2 := H12.cell 0 2 rfl rfl
      have o3 := H12.cell 0 3 rfl rfl
      have r0 := H12.free 1 0 rfl
      have r1 := H12.free 1 1 rfl
      have r2 := H12.free 1 2 rfl
      have r3 := H12.free 1 3 rfl
      have x0 := H12.cell 1 0 rfl rfl
      have x1 := H12.cell 1 1 rfl rfl
      have x2 := H12.cell 1 2 rfl rfl
      have x3 := H12.cell 1 3 rfl rfl
      have HR := (((H12.set 1 rfl 0 (.int .i64 f1)).set 1 rfl 1 (.int .i64 t2)).set 1 rfl 2 (.int .i64 1)).set 1 rfl 3 (.int .i64 0)
      go_wp2
      try simp only [Exit.inBlock, Exit.then]
      refine bodyPost_ret (results_cell rfl rfl (blk_range (cs := [.int .i64 f1, .int .i64 t2, .int .i64 1, .int .i64 0]) (HR.blk 1 rfl)) Try.underlying76 rfl (by kernel_rfl)) rfl ?_
      rw [hjh.out, hfh.out]
      exact ⟨rfl, HR.below (Nat.le_refl _) (fun _ h => h.elim)⟩
    · have z5 : decide (go < lo) = false := by simpa using hlg
      rw [z5] at ke6
      rw [if_neg hlg] at hfn
      have hfh := Lib.hid hfn
      clear hfn hlg z5
      go_upto_region 8 with (go_at_call 63; go_must (refine (St.callPast (ke6 _) H10).mono ?_; rintro e w11 ⟨rfl, H11⟩))
      clear o0 o1 o2 o3 H10
      have o0 := H11.cell 0 0 rfl rfl
      have o1 := H11.cell 0 1 rfl rfl
      have o2 := H11.cell 0 2 rfl rfl
      have o3 := H11.cell 0 3 rfl rfl
      have r0 := H11.free 1 0 rfl
      have r1 := H11.free 1 1 rfl
      have r2 := H11.free 1 2 rfl
      have r3 := H11.free 1 3 rfl
      have x0 := H11.cell 1 0 rfl rfl
      have x1 := H11.cell 1 1 rfl rfl
      have x2 := H11.cell 1 2 rfl rfl
      have x3 := H11.cell 1 3 rfl rfl
      have HR := (((H11.set 1 rfl 0 (.int .i64 f1)).set 1 rfl 1 (.int .i64 t2)).set 1 rfl 2 (.int .i64 lo)).set 1 rfl 3 (.int .i64 go)
      go_wp2
      try simp only [Exit.inBlock, Exit.then]
      refine bodyPost_ret (results_cell rfl rfl (blk_range (cs := [.int .i64 f1, .int .i64 t2, .int .i64 lo, .int .i64 go]) (HR.blk 1 rfl)) Try.underlying76 rfl (by kernel_rfl)) rfl ?_
      rw [hjh.out, hfh.out]
      exact ⟨rfl, HR.below (Nat.le_refl _) (fun _ h => h.elim)⟩

end Go.Proofs.Ytbikjhmdpgoofaa
