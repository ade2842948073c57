import Derived.Test.YtiglgfonhdfpmaaGreatOs1
import Derived.Test.YtiglgfonhdfpmaaGreatOs2
import Derived.Test.YtiglgfonhdfpmaaGreatOs3
import Derived.Test.YtiglgfonhdfpmaaGreatOs4
import Derived.Test.YtiglgfonhdfpmaaGreatOs7
import Derived.Deep.CutBlock
import Derived.Lib.ItoaNum
import Derived.Lib.AtoiAll
import Derived.Lib.Split
import Derived.Lib.SplitLaws
import Derived.Lib.IndexLaws
import Derived.Lib.CountLaws
/- The stepper's find and fire. Conditions: what is known is right; so many outs. -/
set_option linter.unusedVariables false
set_option linter.unusedSimpArgs false
namespace Go.Proofs.YtiglgfonhdfpmaaGreat
open Go.RowKit

abbrev stC (q : Qry) (mark : Int) (pv ov : Value) : Array Value := #[.int .i64 q.kind, .int .i64 q.size, .int .i64 q.slide, .int .i64 q.late, .int .i64 q.agg, .int .i64 q.k, .int .i64 mark, pv, ov]
abbrev otZ : Value := .agg #[.bool false, .int .i64 0, .string ⟨#[]⟩, .int .i64 0, .int .i64 0, .string ⟨#[]⟩, .int .i64 0, .int .i64 0, .int .i64 0, .slice none 0 0]
theorem Tryz.info63 : (Tryz.prog.info? 63).map (fun i => (i.zero, i.size, i.bytes)) = some (some otZ, 10, 112) := by kernel_rfl

/-- A right one's value has numbers that the machine can hold. -/
theorem val_lim {q : Qry} {g : Ag} (h : g.right q = true) : ∀ z ∈ valueM q g, -9223372036854775808 ≤ z ∧ z ≤ 9223372036854775807 := by
  intro z hz
  obtain ⟨-, hn, ha, -, -, -, hx, hy⟩ := right_nums h
  have ht := valB_of_top h
  unfold valueM at hz
  split at hz
  · cases hz
  · split at hz
    · rw [List.mem_singleton.1 hz]; omega
    · split at hz
      · rw [List.mem_singleton.1 hz]
        unfold floorM
        have h0 : 0 < g.n := by omega
        have h1 := Int.natAbs_ediv_le_natAbs g.a g.n
        omega
      · split at hz
        · exact ht z hz
        · split at hz
          · simp only [List.mem_cons, List.not_mem_nil, or_false] at hz
            rcases hz with rfl | rfl <;> omega
          · rw [List.mem_singleton.1 hz]; omega
set_option maxHeartbeats 2000000 in
set_option maxRecDepth 100000 in
theorem step_find {t : Nat} {q : Qry} {mark : Int} {pv ov : Value} {l : List Pm} {x : Wd} {w : World} {k : Nat} (ht : w.heap[t]? = some (.cells (stC q mark pv ov) 137 (0, 0))) (hv : encP.RO w pv l) (hl : l.length ≤ 1073741824) (hk : k ≤ l.length)
    (hlo : ∀ (j : Nat) y, j < k → l[j]? = some y → y.p.w.place x < 0) (hhi : ∀ (j : Nat) y, k ≤ j → l[j]? = some y → 0 ≤ y.p.w.place x) :
    Calls Tryz.prog 197 #[.pointer (some ⟨t, 0, none⟩), wdV x] w fun e w' => FoundP k l x e ∧ Below w.heap.size w w' := by
  have ks := fun w' (hk2 : Kept (fun _ => False) w w') => pns_search (x := x) (hv.later hk2) hl hk hlo hhi
  have htl := blk_lt ht
  obtain ⟨ad, cap, rfl, -, -⟩ := hv
  clear hlo hhi
  obtain ⟨kd, sz, sl, lt, ag, kk⟩ := q
  obtain ⟨X, hX⟩ : ∃ X, X = x := ⟨_, rfl⟩
  rw [← hX] at ks ⊢
  have hXh := Lib.hid hX
  clear hX
  obtain ⟨yk, yf, yt⟩ := X
  unfold find1V wdV wdC textV at ks
  unfold stC at ht
  unfold wdV wdC textV
  simp only at ks ht ⊢
  have H : St (fun _ => False) w _ [_] := (St.nil _ w).allocAt rfl #[.string ⟨yk.toArray⟩, .int .i64 yf, .int .i64 yt] 61
  obtain ⟨b, hb⟩ : ∃ b, w.heap.size = b := ⟨_, rfl⟩
  obtain ⟨w1, hw1⟩ : ∃ w1, w.alloc (.cells #[.string ⟨yk.toArray⟩, .int .i64 yf, .int .i64 yt] 61) = w1 := ⟨_, rfl⟩
  go_enter Tryz.func197, Tryz.ntmps197
  go_upto_region 1 with (fail)
  rw [hw1, hb] at H
  try rw [hw1]
  try simp only [hb]
  have hbh := Lib.hid hb
  clear hw1 hb
  refine wp_script [(0, false), (1, false), (2, false), (3, false), (4, false), (5, false), (6, true), (7, false), (8, false), (9, false), (10, false)] (Fam fun w' => St (fun _ => False) w w' [Blk b #[.string ⟨yk.toArray⟩, .int .i64 yf, .int .i64 yt] 61]) (fun w' => St (fun _ => False) w w' [Blk b #[.string ⟨yk.toArray⟩, .int .i64 yf, .int .i64 yt] 61]) (by kernel_rfl) (by rfl) (by kernel_rfl) (by kernel_rfl) H.drew (Fam.st (fun _ h => h)) ?_
  iterate 6 first
    | (apply script_pass
       · rfl
       · rfl
       intro K hK
       go_simp
       refine hK _ ?_
       clear hK K)
    | (apply script_step
       · rfl
       · rfl
       · intro I hI w1 h1'
         have h1 := hI.2 _ h1'
         have c0 := h1.cell 0 0 rfl rfl
         have c1 := h1.cell 0 1 rfl rfl
         have c2 := h1.cell 0 2 rfl rfl
         have d7 := cell_blk' ((h1.kept.block t htl id).trans ht) (i := 7) rfl
         first
           | (go_simp
              first
                | rfl
                | exact ⟨rfl, h1'⟩
             )
       intro K hK
       go_simp
       refine hK _ ?_
       clear hK K)
  refine script_alone rfl rfl ?_
  intro V hV w1 h1
  go_simp
  refine (ks w1 h1.kept).mono ?_
  rintro e w2 ⟨⟨bv, rfl, hbv⟩, hb2⟩
  have hbvh := Lib.hid hbv
  clear hbv
  have H2 := h1.past hb2
  refine ⟨_, rfl, fun w' => St (fun _ => False) w w' [Blk b #[.string ⟨yk.toArray⟩, .int .i64 yf, .int .i64 yt] 61], hV _ _ _ (fun _ h => h) (Fam.st (fun _ h => h)) ?_, H2⟩
  intro K hK
  go_simp
  refine hK _ ?_
  clear hK K hV V
  clear H2 h1 hb2 w1 w2
  iterate 4 first
    | (apply script_pass
       · rfl
       · rfl
       intro K hK
       go_simp
       refine hK _ ?_
       clear hK K)
    | (apply script_step
       · rfl
       · rfl
       · intro I hI w1 h1'
         have h1 := hI.2 _ h1'
         first
           | (go_simp
              first
                | rfl
                | exact ⟨rfl, h1'⟩
             )
       intro K hK
       go_simp
       refine hK _ ?_
       clear hK K)
  refine script_nil ?_
  intro w9 H9
  go_wp2
  go_ret2
  exact ⟨⟨bv, rfl, hbvh.out⟩, H9.below (Nat.le_refl _) (fun _ h => h.elim)⟩

set_option maxHeartbeats 4000000 in
set_option maxRecDepth 100000 in
theorem step_fire {t g i : Nat} {q : Qry} {mark : Int} {pv ov : Value} {ms : List Pm} {R : List Value} {os : List Om} {H : List (Value × List Int)} {m : Pm} {w : World} {S : Nat → Prop} (hm : ms[i]? = some m) (hg : m.p.g.right q = true) (hr : 0 ≤ m.p.round ∧ m.p.round ≤ 1073741824) (hin : m.own ∈ H) (hol : os.length ≤ 1073741824)
    (H0 : Sep w [Blk t (stC q mark pv ov) 137, Blk g (encP.all ms ++ R).toArray 68, Row 63 10 ov os.length (encO.all os), Pool H] S) :
    Calls Tryz.prog 133 #[.pointer (some ⟨t, 0, none⟩), .pointer (some ⟨g, i * 8, none⟩)] w fun e w' => ∃ ov' ad cap, e = .returned (.tuple #[]) ∧
      St S w w' [Blk t (stC q mark pv ov') 137, Blk g (encP.all (ms.set i ⟨⟨m.p.w, m.p.g, m.p.round + 1⟩, m.ad, m.cap⟩) ++ R).toArray 68, Row 63 10 ov' (os.length + 1) (encO.all (os ++ [⟨⟨false, itm00, m.p.w, m.p.round + 1, valueM q m.p.g⟩, ad, cap⟩])), Pool ((.slice ad (valueM q m.p.g).length cap, valueM q m.p.g) :: H)] := by
  have H1 : St S w w [Pool H, Blk t (stC q mark pv ov) 137, Blk g (encP.all ms ++ R).toArray 68, Row 63 10 ov os.length (encO.all os)] := (St.refl H0).pick [3, 0, 1, 2]
  clear H0
  have kv := fun w' (h : IntsRO w' m.hd m.p.g.top) => agg_val q m.p.g w' h hg
  have hvl := val_lim hg
  have hset := encP.set1 (R := R) (x' := ⟨⟨m.p.w, m.p.g, m.p.round + 1⟩, m.ad, m.cap⟩) (v := .int .i64 (m.p.round + 1)) hm (show 7 < encP.k by decide) rfl
  have hset : (encP.all ms ++ R).toArray.setIfInBounds (i * 8 + 7) (.int .i64 (m.p.round + 1)) = (encP.all (ms.set i ⟨⟨m.p.w, m.p.g, m.p.round + 1⟩, m.ad, m.cap⟩) ++ R).toArray := hset
  have hmM : (ms.set i ⟨⟨m.p.w, m.p.g, m.p.round + 1⟩, m.ad, m.cap⟩)[i]? = some ⟨⟨m.p.w, m.p.g, m.p.round + 1⟩, m.ad, m.cap⟩ := by
    rw [List.getElem?_set_self (List.getElem?_eq_some_iff.1 hm).1]
  obtain ⟨vals, hvals⟩ : ∃ v, valueM q m.p.g = v := ⟨_, rfl⟩
  rw [hvals] at hvl
  simp only [hvals] at kv ⊢
  clear hvals hg
  obtain ⟨M, hM⟩ : ∃ M, ms.set i ⟨⟨m.p.w, m.p.g, m.p.round + 1⟩, m.ad, m.cap⟩ = M := ⟨_, rfl⟩
  rw [hM] at hset hmM ⊢
  clear hM
  have n1 : IntKind.i64.wrap (m.p.round + 1) = m.p.round + 1 := by rw [IntKind.wrap_i64]; omega
  obtain ⟨r1, hr1⟩ : ∃ r, m.p.round + 1 = r := ⟨_, rfl⟩
  rw [hr1] at hset hmM
  simp only [hr1] at n1 ⊢
  obtain ⟨q0, q1, q2, q3, q4, q5, q6, q7⟩ := pn_blk (H1.blk 2 rfl) hm
  have f7 := H1.free 2 (i * 8 + 7) rfl
  have hmMh := Lib.hid hmM
  have hinh := Lib.hid hin
  have H2 := H1.set 2 rfl (i * 8 + 7) (.int .i64 r1)
  rw [hset] at H2
  have H2 : St S w _ [Pool H, Blk t (stC q mark pv ov) 137, Blk g (encP.all M ++ R).toArray 68, Row 63 10 ov os.length (encO.all os)] := H2
  obtain ⟨w1, hw1⟩ : ∃ w1, w.setCell ⟨g, i * 8 + 7, none⟩ (.int .i64 r1) = w1 := ⟨_, rfl⟩
  rw [hw1] at H2
  obtain ⟨⟨⟨xk, xf, xt⟩, ⟨gn, ga, gt, gx, gy⟩, xr⟩, xa, xc⟩ := m
  unfold Pm.own Pm.hd at hinh
  unfold agV agC Pm.hd at kv
  simp only at kv hr1 q7 n1 hinh hr ⊢
  obtain ⟨kd, sz, sl, lt, ag, kk⟩ := q
  unfold stC at H2 ⊢
  unfold qyV qyC at kv
  simp only at H2 kv ⊢
  clear q0 q1 q2 q3 q4 q5 q6 hmM hin hset H1
  go_enter Tryz.func133, Tryz.ntmps133
  go_upto_region 1 with (fail)
  try rw [hw1]
  clear hw1 f7 q7 hr1 n1 hm
  refine wp_script_tail 27 [(0, false), (1, false), (2, false), (3, false), (4, false), (5, false), (6, false), (7, false), (8, false), (9, false), (10, false), (11, false), (12, false), (13, false), (14, false), (15, false), (16, false), (17, false), (18, false), (19, false), (20, false), (21, true), (22, false), (23, true), (24, true), (25, false), (26, false)] (Fam fun w' => St S w w' [Blk t #[.int .i64 kd, .int .i64 sz, .int .i64 sl, .int .i64 lt, .int .i64 ag, .int .i64 kk, .int .i64 mark, pv, ov] 137, Blk g (encP.all M ++ R).toArray 68]) (fun w' => St S w w' [Pool H, Blk t #[.int .i64 kd, .int .i64 sz, .int .i64 sl, .int .i64 lt, .int .i64 ag, .int .i64 kk, .int .i64 mark, pv, ov] 137, Blk g (encP.all M ++ R).toArray 68, Row 63 10 ov os.length (encO.all os)]) (by kernel_rfl) (by rfl) (by kernel_rfl) (by kernel_rfl) H2.drew (Fam.st (fun _ h => h.pick [1, 2])) ?_
  iterate 21 first
    | (apply script_pass
       · rfl
       · rfl
       intro K hK
       go_simp
       refine hK _ ?_
       clear hK K)
    | (apply script_step
       · rfl
       · rfl
       · intro I hI w1 h1'
         have h1 := hI.2 _ h1'
         obtain ⟨q0, q1, q2, q3, q4, q5, q6, q7⟩ := pn_blk (h1.blk 1 rfl) hmMh.out
         unfold textV at q0
         unfold Pm.hd at q5
         simp only at q0 q1 q2 q3 q4 q5 q6 q7
         have d0 := h1.cell 0 0 rfl rfl
         have d1 := h1.cell 0 1 rfl rfl
         have d2 := h1.cell 0 2 rfl rfl
         have d3 := h1.cell 0 3 rfl rfl
         have d4 := h1.cell 0 4 rfl rfl
         have d5 := h1.cell 0 5 rfl rfl
         have d8 := h1.cell 0 8 rfl rfl
         first
           | (go_simp
              first
                | rfl
                | exact ⟨rfl, h1'⟩
             )
       intro K hK
       go_simp
       refine hK _ ?_
       clear hK K)
  refine script_alone rfl rfl ?_
  intro V hV w1 h1
  go_simp
  refine (kv w1 (h1.pool_get 0 rfl hinh.out)).mono ?_
  rintro e w2 ⟨hs, rfl, G1⟩
  obtain ⟨av, cv, rfl, -, -⟩ := slice_form' (G1.row 0 rfl)
  have H3 : St S w w2 [Row 3 1 (.slice av vals.length cv) vals.length (intCells vals), Pool H, Blk t #[.int .i64 kd, .int .i64 sz, .int .i64 sl, .int .i64 lt, .int .i64 ag, .int .i64 kk, .int .i64 mark, pv, ov] 137, Blk g (encP.all M ++ R).toArray 68, Row 63 10 ov os.length (encO.all os)] := h1.call0 G1
  have H4 := St.pool_add H3 (ints_own (H3.row 0 rfl) hvl)
  refine ⟨_, rfl, fun w' => St S w w' [Pool ((.slice av vals.length cv, vals) :: H), Blk t #[.int .i64 kd, .int .i64 sz, .int .i64 sl, .int .i64 lt, .int .i64 ag, .int .i64 kk, .int .i64 mark, pv, ov] 137, Blk g (encP.all M ++ R).toArray 68, Row 63 10 ov os.length (encO.all os)], hV _ _ _ (fun _ h => h) (Fam.st (fun _ h => h.pick [1, 2])) ?_, H4⟩
  intro K hK
  go_simp
  refine hK _ ?_
  clear hK K hV V
  clear H4 H3 h1 G1 w1 w2
  iterate 1 first
    | (apply script_pass
       · rfl
       · rfl
       intro K hK
       go_simp
       refine hK _ ?_
       clear hK K)
    | (apply script_step
       · rfl
       · rfl
       · intro I hI w1 h1'
         have h1 := hI.2 _ h1'
         first
           | (go_simp
              first
                | rfl
                | exact ⟨rfl, h1'⟩
             )
       intro K hK
       go_simp
       refine hK _ ?_
       clear hK K)
  refine script_alone rfl rfl ?_
  intro V hV w1 h1
  go_simp
  obtain ⟨gn, hgn⟩ : ∃ g, w1.heap.size = g := ⟨_, rfl⟩
  have H3 : St S w _ [Blk gn #[.bool false, .int .i64 0, .string ⟨#[]⟩, .int .i64 0, .int .i64 0, .string ⟨xk.toArray⟩, .int .i64 xf, .int .i64 xt, .int .i64 r1, .slice av vals.length cv] 63, Pool ((.slice av vals.length cv, vals) :: H), Blk t #[.int .i64 kd, .int .i64 sz, .int .i64 sl, .int .i64 lt, .int .i64 ag, .int .i64 kk, .int .i64 mark, pv, ov] 137, Blk g (encP.all M ++ R).toArray 68, Row 63 10 ov os.length (encO.all os)] := h1.allocAt hgn #[.bool false, .int .i64 0, .string ⟨#[]⟩, .int .i64 0, .int .i64 0, .string ⟨xk.toArray⟩, .int .i64 xf, .int .i64 xt, .int .i64 r1, .slice av vals.length cv] 63
  simp only [hgn]
  refine ⟨fun w' => St S w w' [Blk gn #[.bool false, .int .i64 0, .string ⟨#[]⟩, .int .i64 0, .int .i64 0, .string ⟨xk.toArray⟩, .int .i64 xf, .int .i64 xt, .int .i64 r1, .slice av vals.length cv] 63, Pool ((.slice av vals.length cv, vals) :: H), Blk t #[.int .i64 kd, .int .i64 sz, .int .i64 sl, .int .i64 lt, .int .i64 ag, .int .i64 kk, .int .i64 mark, pv, ov] 137, Blk g (encP.all M ++ R).toArray 68, Row 63 10 ov os.length (encO.all os)], hV _ _ _ (fun _ h => h) (Fam.st (fun _ h => h.pick [2, 3])) ?_, H3⟩
  intro K hK
  go_simp
  refine hK _ ?_
  clear hK K hV V
  clear H3 h1 hgn w1
  refine script_alone rfl rfl ?_
  intro V hV w1 h1
  have H3 : St S w w1 (Row 63 10 ov os.length (encO.all os) :: [Blk gn #[.bool false, .int .i64 0, .string ⟨#[]⟩, .int .i64 0, .int .i64 0, .string ⟨xk.toArray⟩, .int .i64 xf, .int .i64 xt, .int .i64 r1, .slice av vals.length cv] 63, Pool ((.slice av vals.length cv, vals) :: H), Blk t #[.int .i64 kd, .int .i64 sz, .int .i64 sl, .int .i64 lt, .int .i64 ag, .int .i64 kk, .int .i64 mark, pv, ov] 137, Blk g (encP.all M ++ R).toArray 68]) := h1.pick [4, 0, 1, 2, 3]
  have hnw := World.news_of_block (h1.blk 0 rfl)
  refine St.came_row H3 (.tmp 15) (.tmp 34) 46 rfl Tryz.underlying46 Tryz.info63 (by decide) rfl #[.bool false, .int .i64 0, .string ⟨#[]⟩, .int .i64 0, .int .i64 0, .string ⟨xk.toArray⟩, .int .i64 xf, .int .i64 xt, .int .i64 r1, .slice av vals.length cv].toList rfl rfl (by intro h; cases h) (fun ad e => by cases e; exact hnw) (by simp [Value.oneCell']) (by omega) ?_
  intro v2 w2 H4
  obtain ⟨a2, p2, rfl, -, -⟩ := slice_form' (H4.row 0 rfl)
  refine ⟨fun w' => St S w w' [Row 63 10 (.slice a2 (os.length + 1) p2) (os.length + 1) (encO.all os ++ #[.bool false, .int .i64 0, .string ⟨#[]⟩, .int .i64 0, .int .i64 0, .string ⟨xk.toArray⟩, .int .i64 xf, .int .i64 xt, .int .i64 r1, .slice av vals.length cv].toList), Blk gn #[.bool false, .int .i64 0, .string ⟨#[]⟩, .int .i64 0, .int .i64 0, .string ⟨xk.toArray⟩, .int .i64 xf, .int .i64 xt, .int .i64 r1, .slice av vals.length cv] 63, Pool ((.slice av vals.length cv, vals) :: H), Blk t #[.int .i64 kd, .int .i64 sz, .int .i64 sl, .int .i64 lt, .int .i64 ag, .int .i64 kk, .int .i64 mark, pv, ov] 137, Blk g (encP.all M ++ R).toArray 68], hV _ _ _ (fun _ h => h) (Fam.st (fun _ h => h.pick [3, 4])) ?_, H4⟩
  intro K hK
  go_simp
  refine hK _ ?_
  clear hK K hV V
  clear H4 H3 hnw h1 w1 w2
  iterate 2 first
    | (apply script_pass
       · rfl
       · rfl
       intro K hK
       go_simp
       refine hK _ ?_
       clear hK K)
    | (apply script_step
       · rfl
       · rfl
       · intro I hI w1 h1'
         have h1 := hI.2 _ h1'
         first
           | (go_simp
              first
                | rfl
                | exact ⟨rfl, h1'⟩
             )
       intro K hK
       go_simp
       refine hK _ ?_
       clear hK K)
  refine script_nil ?_
  intro w3 H3
  simp only [List.drop_succ_cons, List.drop_zero]
  have c8 := H3.cell 3 8 rfl rfl
  have f8 := H3.free 3 8 rfl
  have H4 := H3.set 3 rfl 8 (.slice a2 (os.length + 1) p2)
  go_wp2
  go_end0
  refine ⟨rfl, .slice a2 (os.length + 1) p2, av, cv, ?_⟩
  rw [encO.all_app, encO.all_one]
  exact H4.pick [3, 4, 0, 2]

end Go.Proofs.YtiglgfonhdfpmaaGreat

/- The stepper as one part; a struct into the midst of a block. Laws. -/
set_option linter.unusedVariables false
set_option linter.unusedSimpArgs false
namespace Go.Proofs.YtiglgfonhdfpmaaGreat
open Go.RowKit

section
variable {P : Program} {S : Nat → Prop} {w0 w : World} {l : List SP}
/-- A struct is stored into the midst of a block, as an operation of a plain list. -/
theorem St.list_storeMid (H : St S w0 w l) (i : Nat) {g : Nat} {cs : List Value} {t : TypeId} (hi : l[i]? = some (Blk g cs.toArray t)) {ty : TypeId} {n off : Nat} {vs : Array Value} (hinfo : (P.info? ty).map (·.size) = some n) (hvs : vs.size = n) (h1 : allOne vs = true) (hfit : off + n ≤ cs.length)
    {ops : Array Oper} {rest : List Oper} {o : Oper} {a : Act} {Q : Exit → Act → World → Prop} (hgd : o.guard = none) (y z : Operand) (ho : o.op = .store ty y z)
    (hy : a.eval y = .pointer (some ⟨g, off, none⟩)) (hz : a.eval z = .agg vs)
    (h : ∀ w', St S w0 w' (l.set i (Blk g (splice cs off vs.toList).toArray t)) → w.heap.size ≤ w'.heap.size → wpList P ops Q rest (a.put o.dst undef) w') : wpList P ops Q (o :: rest) a w := by
  have hm : mayCells w g off n = true := mayCells_blk (H.blk i hi) (by simpa using hfit)
  have h2 := St.setCells i vs.toList off cs w l H hi (by rw [Array.length_toList, hvs]; exact hfit)
  obtain ⟨dst, op, ty', pos, after, gd⟩ := o
  simp only at ho hgd
  subst ho hgd
  refine wpList_plain rfl fun _ hK => ?_
  unfold Oper.wp
  have hr := run_store_mid (P := P) (w := w) (a := a) (dst := dst) (ty' := ty') (pos := pos) (after := after) (g := none) (t := ty) (x := y) (y := z) (n := n) hinfo (by rw [hy]; rfl) (by rw [hy]; exact hm) (by rw [hz]; rfl) (by rw [hz]; exact hvs) (by rw [hz]; exact h1)
  rw [hr, hy, hz]
  exact hK _ _ (h _ h2 (by
    show _ ≤ (w.setCells g off vs.toList).heap.size
    rw [setCells_size]
    exact Nat.le_refl _))
end
theorem splice_in3 (A B C : List Value) (j : Nat) (vs : List Value) (hj : j + vs.length ≤ B.length) : splice (A ++ (B ++ C)) (A.length + j) vs = A ++ (splice B j vs ++ C) := by
  unfold splice
  rw [List.take_append, List.take_of_length_le (by omega), Nat.add_sub_cancel_left, List.take_append_of_le_length (by omega)]
  rw [List.drop_append, List.drop_of_length_le (by omega), List.nil_append, show A.length + j + vs.length - A.length = j + vs.length by omega, List.drop_append_of_le_length hj]
  simp [List.append_assoc]
theorem Enc.setN {α : Type} (E : Enc α) {l : List α} {R : List Value} {i j : Nat} {x x' : α} {vs : List Value} (hi : l[i]? = some x) (hj : j + vs.length ≤ E.k) (hx : E.cells x' = splice (E.cells x) j vs) : splice (E.all l ++ R) (i * E.k + j) vs = E.all (l.set i x') ++ R := by
  have hlt := (List.getElem?_eq_some_iff.1 hi).1
  have e0 : l = l.take i ++ x :: l.drop (i + 1) := by
    have := (List.getElem?_eq_some_iff.1 hi).2
    rw [← this, List.getElem_cons_drop, List.take_append_drop]
  have e1 : E.all l = E.all (l.take i) ++ (E.cells x ++ E.all (l.drop (i + 1))) := by
    rw [← E.all_cons, ← E.all_app, ← e0]
  have e2 : E.all (l.set i x') = E.all (l.take i) ++ (E.cells x' ++ E.all (l.drop (i + 1))) := by
    rw [← E.all_cons, ← E.all_app, List.set_eq_take_append_cons_drop, if_pos hlt]
  have e3 : (E.all (l.take i)).length = i * E.k := by rw [E.all_len, List.length_take, Nat.min_eq_left (by omega)]
  rw [e1, e2, hx, List.append_assoc, List.append_assoc, ← e3, splice_in3 _ _ _ _ _ (by rw [E.len]; exact hj)]
  simp [List.append_assoc]

structure StpX where
  pv : Value
  ov : Value
  ms : List Pm
  os : List Om
  H : List (Value × List Int)
def StpX.good (x : StpX) (l : List Pn) (o : List Ot) : Prop := x.ms.map (·.p) = l ∧ x.os.map (·.o) = o ∧ (∀ m ∈ x.ms, m.own ∈ x.H) ∧ ∀ y ∈ x.os, y.own ∈ x.H
/-- A stepper: its query, its mark, its panes, what came out. -/
def Stp (t : Nat) (q : Qry) (mk : Int) (l : List Pn) (o : List Ot) : SP :=
  SP.ex fun x : StpX => SP.all [SP.pure (x.good l o), Blk t (stC q mk x.pv x.ov) 137, Row 68 8 x.pv x.ms.length (encP.all x.ms), Row 63 10 x.ov x.os.length (encO.all x.os), Pool x.H]
section
variable {S : Nat → Prop} {w0 w : World} {L : List SP} {t : Nat} {q : Qry} {mk : Int} {l : List Pn} {o : List Ot}
theorem Stp.open (h : St S w0 w (Stp t q mk l o :: L)) : ∃ pv ov ms os H, ms.map (·.p) = l ∧ os.map (·.o) = o ∧ (∀ m ∈ ms, Pm.own m ∈ H) ∧ (∀ y ∈ os, Om.own y ∈ H) ∧
    St S w0 w (Blk t (stC q mk pv ov) 137 :: Row 68 8 pv ms.length (encP.all ms) :: Row 63 10 ov os.length (encO.all os) :: Pool H :: L) := by
  obtain ⟨⟨pv, ov, ms, os, H⟩, h2⟩ := St.ex_iff.1 h
  have h3 := St.all_iff.1 h2
  obtain ⟨⟨g1, g2, g3, g4⟩, h4⟩ := St.pure_iff.1 h3
  exact ⟨pv, ov, ms, os, H, g1, g2, g3, g4, h4⟩
theorem Stp.mk' {pv ov : Value} {ms : List Pm} {os : List Om} {H : List (Value × List Int)} (h1 : ms.map (·.p) = l) (h2 : os.map (·.o) = o) (h3 : ∀ m ∈ ms, Pm.own m ∈ H) (h4 : ∀ y ∈ os, Om.own y ∈ H)
    (h : St S w0 w (Blk t (stC q mk pv ov) 137 :: Row 68 8 pv ms.length (encP.all ms) :: Row 63 10 ov os.length (encO.all os) :: Pool H :: L)) : St S w0 w (Stp t q mk l o :: L) :=
  St.ex_iff.2 ⟨⟨pv, ov, ms, os, H⟩, St.all_iff.2 (St.pure_iff.2 ⟨⟨h1, h2, h3, h4⟩, h⟩)⟩
end
theorem map_set {ms : List Pm} {l : List Pn} (h : ms.map (·.p) = l) (i : Nat) (m : Pm) : (ms.set i m).map (·.p) = l.set i m.p := by rw [List.map_set, h]
theorem mem_set_own {ms : List Pm} {H : List (Value × List Int)} (h : ∀ m ∈ ms, Pm.own m ∈ H) (i : Nat) {x : Pm} {H' : List (Value × List Int)} (hx : x.own ∈ H') (hs : ∀ y ∈ H, y ∈ H') : ∀ m ∈ ms.set i x, Pm.own m ∈ H' := by
  intro m hm
  rcases List.mem_or_eq_of_mem_set hm with h1 | rfl
  · exact hs _ (h m h1)
  · exact hx

end Go.Proofs.YtiglgfonhdfpmaaGreat

/- slices.Insert of one pane into a row of the call's own. -/
set_option linter.unusedVariables false
set_option linter.unusedSimpArgs false
namespace Go.Proofs.YtiglgfonhdfpmaaGreat
open Go.RowKit

theorem pns_len (l : List Pm) : (encP.all l).length = l.length * 8 := encP.all_len l
theorem pns_cut (l : List Pm) (k : Nat) : encP.all l = encP.all (l.take k) ++ encP.all (l.drop k) := by rw [← encP.all_app, List.take_append_drop]
theorem overlaps_panes {w : World} {g g2 o o2 n c n2 c2 : Nat} {ca cb : Array Value} {ta tb : TypeId} (hne : g ≠ g2) (ha : w.heap[g]? = some (.cells ca ta (0, 0))) (hb : w.heap[g2]? = some (.cells cb tb (0, 0))) :
    (callFunc 254 #[.slice (some ⟨g, o, none⟩) n c, .slice (some ⟨g2, o2, none⟩) n2 c2]).run Tryz.prog w = .ok (.value (.bool false)) w := by
  rw [run_callFunc_extern Tryz.func254 (by kernel_rfl) (by kernel_rfl) (by kernel_rfl) (e := Extern.SlicesOverlaps.overlaps #[43, 43] #[4]) (by kernel_rfl),
    run_apart w (t := 43) (e := 68) (size := 8) Tryz.underlying43 (by kernel_rfl) hne ha hb]
  rfl

set_option maxHeartbeats 4000000 in
set_option maxRecDepth 100000 in
theorem pns_insert {v : Value} {l : List Pm} {x : Pm} {k g2 : Nat} {w : World} {S : Nat → Prop} (hk : k ≤ l.length) (hl : l.length + 1 ≤ 1073741824) (H : Sep w [Row 68 8 v l.length (encP.all l), Blk g2 (pnC x) 68] S) :
    Calls Tryz.prog 198 #[v, .int .i64 k, .slice (some ⟨g2, 0, none⟩) 1 1] w fun e w' => ∃ v', e = .returned v' ∧ St S w w' [Row 68 8 v' (l.length + 1) (encP.all (l.take k ++ x :: l.drop k)), Blk g2 (pnC x) 68] := by
  have H0 := St.refl H
  clear H
  have hlT : (encP.all (l.take k)).length = k * 8 := by rw [pns_len, List.length_take]; omega
  have hlD : (encP.all (l.drop k)).length = (l.length - k) * 8 := by rw [pns_len, List.length_drop]
  have hlL := pns_len l
  have hcut0 := pns_cut l k
  have hTk0 : (encP.all l).take (k * 8) = encP.all (l.take k) := by rw [hcut0, List.take_append_of_le_length (by omega), List.take_of_length_le (by omega)]
  have hres0 : encP.all (l.take k ++ x :: l.drop k) = encP.all (l.take k) ++ ((pnC x).toList ++ encP.all (l.drop k)) := by rw [encP.all_app, encP.all_cons]; rfl
  have h1 : ∀ u ∈ (pnC x).toList, u.oneCell' = true := by exact encP.one x
  have h1d := encP.all_one1 (l.drop k)
  obtain ⟨res, hr⟩ : ∃ r, encP.all (l.take k ++ x :: l.drop k) = r := ⟨_, rfl⟩
  obtain ⟨T, hT⟩ : ∃ T, encP.all (l.take k) = T := ⟨_, rfl⟩
  obtain ⟨D, hD⟩ : ∃ D, encP.all (l.drop k) = D := ⟨_, rfl⟩
  obtain ⟨L, hL⟩ : ∃ L, encP.all l = L := ⟨_, rfl⟩
  obtain ⟨n, hn⟩ : ∃ n, l.length = n := ⟨_, rfl⟩
  rw [hr, hT, hD] at hres0
  rw [hT, hD, hL] at hcut0
  rw [hT] at hlT
  rw [hL, hT] at hTk0
  rw [hD, hn] at hlD
  rw [hD] at h1d
  rw [hL] at hlL H0
  rw [hn] at hl hk H0 hlL ⊢
  rw [hr]
  have hres := Lib.hid hres0
  have hcut := Lib.hid hcut0
  have hTk := Lib.hid hTk0
  have hlLh := Lib.hid hlL
  clear hr hT hD hL hres0 hcut0 hTk0 hlL hn
  have hsp := own_shape (H0.row 0 rfl)
  have hadd := blk_add (H0.blk 1 rfl)
  by_cases hkn : k = n
  · subst hkn
    have hD0 : D = [] := List.eq_nil_of_length_eq_zero (by omega)
    have hresA := Lib.hid (show res = L ++ (pnC x).toList by rw [hres.out, hcut.out, hD0]; simp)
    have hb : (k + 1) * 96 ≤ 140737488355328 := by omega
    rcases hsp with ⟨rfl, rfl⟩ | ⟨g, cap, rfl, hc, hg⟩
    · go_enter Tryz.func198, Tryz.ntmps198
      go_wp2_with (at_builtin; go_must (refine St.list_add H0 0 rfl rfl (.tmp 23) (.tmp 24) 43 rfl Tryz.underlying43 Tryz.info68 (by decide) rfl (pnC x).toList rfl rfl (by intro h; cases h) hadd h1 hb ?_; intro v' w1 H1 hz))
      go_ret
      rw [hresA.out]
      exact ⟨v', rfl, H1⟩
    · have hc1 : (k : Int) ≤ (cap : Int) := by omega
      go_enter Tryz.func198, Tryz.ntmps198
      go_wp2_with (at_builtin; go_must (refine St.list_add H0 0 rfl rfl (.tmp 23) (.tmp 24) 43 rfl Tryz.underlying43 Tryz.info68 (by decide) rfl (pnC x).toList rfl rfl (by intro h; cases h) hadd h1 hb ?_; intro v' w1 H1 hz))
      all_goals
        go_ret
        rw [hresA.out]
        exact ⟨v', rfl, H1⟩
  · have hkl : k < n := by omega
    rcases hsp with ⟨rfl, hz0⟩ | ⟨g, cap, rfl, hc, hg⟩
    · omega
    obtain ⟨n1, hn1⟩ : ∃ n1, n + 1 = n1 := ⟨_, rfl⟩
    obtain ⟨k1, hk1⟩ : ∃ k1, k + 1 = k1 := ⟨_, rfl⟩
    have hw1 : IntKind.i64.wrap ((n : Int) + 1) = (n1 : Int) := by rw [IntKind.wrap_i64]; omega
    have hw2 : IntKind.i64.wrap ((k : Int) + 1) = (k1 : Int) := by rw [IntKind.wrap_i64]; omega
    have z1 : ((k : Int) == (n : Int)) = false := by simp; omega
    have z1' : (k == n) = false := by simp; omega
    have c1 : (n : Int) ≤ (cap : Int) := by omega
    have c2 : (k : Int) ≤ (n : Int) := by omega
    have c3 : (k : Int) ≤ (cap : Int) := by omega
    have c3' : k ≤ cap := by omega
    have c4 : (k : Int) ≤ (n1 : Int) := by omega
    have c4' : k ≤ n1 := by omega
    have c5 : (k1 : Int) ≤ (n1 : Int) := by omega
    have c5' : k1 ≤ n1 := by omega
    have n1c : ¬ cap = k := by omega
    by_cases hcap : cap < n1
    · obtain ⟨d, hd⟩ : ∃ d : Nat, k + d = n1 := ⟨n1 - k, by omega⟩
      have hw3 : IntKind.i64.wrap ((n1 : Int) - (k : Int)) = (d : Int) := by rw [IntKind.wrap_i64]; omega
      have z2 : decide ((cap : Int) < (n1 : Int)) = true := by simp; omega
      go_enter Tryz.func198, Tryz.ntmps198
      go_upto_region 10 with (at_builtin; go_must (refine St.list_zeros H0 0 rfl rfl (.tmp 34) (.tmp 39) 43 3 rfl Tryz.underlying43 Tryz.underlying3 Tryz.info68 (by decide) (k := k) (m := d) hd rfl rfl hk (by omega) hcap (by omega) (by omega) ?_; intro G C Z w1 H1 hZ hC hCm hz))
      rw [hTk.out] at H1 hZ
      have n2c : ¬ C = k := by omega
      have n3c : ¬ C = k1 := by omega
      have c6 : (n1 : Int) ≤ (C : Int) := by omega
      have c7 : (k : Int) ≤ (C : Int) := by omega
      have c7' : k ≤ C := by omega
      have c8 : (k1 : Int) ≤ (C : Int) := by omega
      have c8' : k1 ≤ C := by omega
      have hmin : Nat.min 1 (n1 - k) = 1 := by show min 1 (n1 - k) = 1; omega
      have hX : (pnC x).toList.length = Nat.min 1 (n1 - k) * 8 := by rw [hmin]; exact (rfl : (pnC x).toList.length = 8)
      have hZl : (T ++ Z).length = C * 8 := hZ
      go_upto_region 11 with ((with_reducible show Go.wpList _ _ _ (Oper.mk (some 45) _ _ _ _ _ :: _) _ _); go_must (refine St.list_copyK H1 0 rfl rfl (.tmp 43) (.tmp 44) 43 rfl (elem := 68) (size := 8) Tryz.underlying43 (by kernel_rfl) rfl rfl (pnC x).toList hX (blk_add (H1.blk 2 rfl) _ rfl) h1 (by rw [hZl]; show k * 8 + 8 ≤ _; omega) ?_; intro w2 H2 hz2))
      clear H1 hadd hz
      have hZ2 : (splice (T ++ Z) (k * 8) (pnC x).toList).length = C * 8 := by
        unfold splice
        have e3 : (pnC x).toList.length = 8 := rfl
        simp only [List.length_append, List.length_take, List.length_drop, e3] at hZl ⊢
        omega
      have hminD : Nat.min (n - k) (n1 - k1) = n - k := by show min (n - k) (n1 - k1) = n - k; omega
      refine wp_calm_tail 8 (fun w' => St S w w' [Blk G (splice (T ++ Z) (k * 8) (pnC x).toList).toArray 68, Row 68 8 (.slice (some ⟨g, 0, none⟩) n cap) n L, Blk g2 (pnC x) 68]) (by kernel_rfl) (by kernel_rfl) (H2.drew) ?_
      simp only [List.take_succ_cons, List.take_zero, List.drop_succ_cons, List.drop_zero]
      iterate 8 first
        | (apply calm_pass
           · rfl
           intro K hK
           go_simp
           refine hK _ ?_
           clear hK K)
        | (apply calm_step
           · rfl
           · intro w1 h1
             first
               | (go_simp
                  first
                    | rfl
                    | exact ⟨rfl, h1⟩
                 )
           intro K hK
           go_simp
           refine hK _ ?_
           clear hK K)
      refine calm_nil ?_
      intro w3 H3
      have hcp := fun j u (hj : D[j]? = some u) => own_cell (H3.row 1 rfl) (show L[k * 8 + j]? = some u by rw [hcut.out, List.getElem?_append_right (by omega), hlT, Nat.add_sub_cancel_left]; exact hj)
      go_wp2_with ((with_reducible show Go.wpList _ _ _ (Oper.mk (some 54) _ _ _ _ _ :: _) _ _); go_must (refine St.list_copyK H3 0 rfl rfl (.tmp 50) (.tmp 53) 43 rfl (elem := 68) (size := 8) Tryz.underlying43 (by kernel_rfl) rfl rfl D (by rw [hminD]; exact hlD) (fun j u hj => by rw [Addr.add_mid]; exact hcp j u hj) h1d (by rw [hZ2, hlD]; omega) ?_; intro w4 H4 hz4))
      go_ret
      have hfin := ins_new (T := T) (Z := Z) (X := (pnC x).toList) (D := D) (a := k * 8) (b := k1 * 8) (c := n1 * 8) hlT (by show k * 8 + 8 = k1 * 8; omega) (by rw [hlD]; omega) (by rw [hZl]; omega)
      have H5 := H4.blk_row 0 (e := 68) (size := 8) (cap := C) (n := n1) (xs := res) rfl hC hCm (by rw [hfin.2, hZl]) (by rw [hfin.1, hres.out])
      exact ⟨_, rfl, H5.pick [0, 2]⟩
    · obtain ⟨g', cap', R, hv, hnc, hcm, hxl, hcs, HB⟩ := H0.row_blk 0 rfl (by omega)
      obtain ⟨rfl, rfl⟩ : g = g' ∧ cap = cap' := by injection hv with h1 _ h2; injection h1 with h1; injection h1 with h1; exact ⟨h1, h2⟩
      rw [hcut.out] at HB hcs
      have HB : St S w w [Blk g (T ++ D ++ R).toArray 68, Blk g2 (pnC x) 68] := HB
      rw [List.append_assoc] at HB hcs
      clear hv hxl H0 hadd
      have z2 : decide ((cap : Int) < (n1 : Int)) = false := by simp; omega
      have z2' : decide (cap < n1) = false := by simp; omega
      have c6 : (n1 : Int) ≤ (cap : Int) := by omega
      have c6' : n1 ≤ cap := by omega
      have c8 : (k1 : Int) ≤ (cap : Int) := by omega
      have c8' : k1 ≤ cap := by omega
      have n3c : ¬ cap = k1 := by omega
      have hne : g2 ≠ g := fun e => by
        subst e
        obtain ⟨S1, hs1, hs2, S2, hs3, hs4, _⟩ := HB.sep
        exact (hs4 g2 ((hs3.2 g2).2 rfl)).2 ((hs1.2 g2).2 rfl)
      have hov := fun n' c' o2 n2 c2 => overlaps_panes (w := w) (o := 0) (n := n') (c := c') (o2 := o2) (n2 := n2) (c2 := c2) hne (HB.blk 1 rfl) (HB.blk 0 rfl)
      have hminD : Nat.min (n1 - k) (n1 - k1) = n - k := by show min (n1 - k) (n1 - k1) = n - k; omega
      have hmin : Nat.min 1 (n1 - k) = 1 := by show min 1 (n1 - k) = 1; omega
      have hX : (pnC x).toList.length = Nat.min 1 (n1 - k) * 8 := by rw [hmin]; exact (rfl : (pnC x).toList.length = 8)
      go_enter Tryz.func198, Tryz.ntmps198
      go_upto_region 15 with (fail)
      refine wp_calm_tail 8 (fun w' => St S w w' [Blk g (T ++ (D ++ R)).toArray 68, Blk g2 (pnC x) 68]) (by kernel_rfl) (by kernel_rfl) (HB.drew) ?_
      simp only [List.take_succ_cons, List.take_zero, List.drop_succ_cons, List.drop_zero]
      iterate 8 first
        | (apply calm_pass
           · rfl
           intro K hK
           go_simp
           refine hK _ ?_
           clear hK K)
        | (apply calm_step
           · rfl
           · intro w1 h1
             first
               | (go_simp
                  first
                    | rfl
                    | exact ⟨rfl, h1⟩
                 )
           intro K hK
           go_simp
           refine hK _ ?_
           clear hK K)
      refine calm_nil ?_
      intro w3 H3
      have hcp := fun j u (hj : D[j]? = some u) => cell_blk' (H3.blk 0 rfl) (show (T ++ (D ++ R)).toArray[k * 8 + j]? = some u by rw [List.getElem?_toArray, List.getElem?_append_right (by omega), hlT, Nat.add_sub_cancel_left, List.getElem?_append_left (List.getElem?_eq_some_iff.1 hj).1]; exact hj)
      go_upto_region 16 with ((with_reducible show Go.wpList _ _ _ (Oper.mk (some 77) _ _ _ _ _ :: _) _ _); go_must (refine St.list_copyK H3 0 rfl rfl (.tmp 73) (.tmp 76) 43 rfl (elem := 68) (size := 8) Tryz.underlying43 (by kernel_rfl) rfl rfl D (by rw [hminD]; exact hlD) (fun j u hj => by rw [Addr.add_mid]; exact hcp j u hj) h1d (by rw [hcs, hlD]; omega) ?_; intro w4 H4 hz4))
      have hsl : (splice (T ++ (D ++ R)) (k1 * 8) D).length = cap * 8 := by
        rw [← hcs]
        unfold splice
        simp only [List.length_append, List.length_take, List.length_drop] at hcs ⊢
        omega
      go_wp2_with ((with_reducible show Go.wpList _ _ _ (Oper.mk (some 82) _ _ _ _ _ :: _) _ _); go_must (refine St.list_copyK H4 0 rfl rfl (.tmp 80) (.tmp 81) 43 rfl (elem := 68) (size := 8) Tryz.underlying43 (by kernel_rfl) rfl rfl (pnC x).toList hX (blk_add (H4.blk 1 rfl) _ rfl) h1 (by rw [hsl]; show k * 8 + 8 ≤ _; omega) ?_; intro w5 H5 hz5))
      go_ret
      have hfin := ins_old (T := T) (R := R) (X := (pnC x).toList) (D := D) (a := k * 8) (b := k1 * 8) (c := n1 * 8) hlT (by show k * 8 + 8 = k1 * 8; omega) (by rw [hlD]; omega) (by rw [hcs]; omega)
      exact ⟨_, rfl, H5.blk_row 0 (e := 68) (size := 8) (cap := cap) (n := n1) (xs := res) rfl c6' hcm (by rw [hfin.2, hcs]) (by rw [hfin.1, hres.out])⟩
end Go.Proofs.YtiglgfonhdfpmaaGreat

/- slices.IndexFunc and DeleteFunc at panes, with the stepper's predicates. Condition: so many. (Printed by a program of mine.) -/
set_option linter.unusedVariables false
set_option linter.unusedSimpArgs false
namespace Go.Proofs.YtiglgfonhdfpmaaGreat
open Go.RowKit

theorem filtP_snoc {l : List Pm} (keep : Pm → Bool) {j : Nat} {x : Pm} (h : l[j]? = some x) : (l.take (j + 1)).filter keep = if keep x = true then (l.take j).filter keep ++ [x] else (l.take j).filter keep := by
  rw [take_snoc' h, List.filter_append]
  by_cases hx : keep x = true
  · rw [if_pos hx]; simp [hx]
  · rw [if_neg hx]; simp [hx]
theorem zero_pns (n : Nat) : (Builtin.zeroCells pnZ.cells n).size = n * 8 ∧ ∀ v ∈ (Builtin.zeroCells pnZ.cells n).toList, v.oneCell' = true := by
  refine ⟨by simp [Builtin.zeroCells, Value.cells], fun v hv => ?_⟩
  simp only [Builtin.zeroCells, Value.cells, Array.toList_map, List.mem_map] at hv
  obtain ⟨i, _, rfl⟩ := hv
  have : i % 8 < 8 := by omega
  show (#[Value.string ⟨#[]⟩, .int .i64 0, .int .i64 0, .int .i64 0, .int .i64 0, .slice none 0 0, .complex .f64 0 0, .int .i64 0][i % 8]!).oneCell' = true
  have h : i % 8 = 0 ∨ i % 8 = 1 ∨ i % 8 = 2 ∨ i % 8 = 3 ∨ i % 8 = 4 ∨ i % 8 = 5 ∨ i % 8 = 6 ∨ i % 8 = 7 := by omega
  rcases h with h | h | h | h | h | h | h | h <;> rw [h] <;> rfl

set_option maxHeartbeats 2000000 in
set_option maxRecDepth 100000 in
theorem pns_indexJ {bw : Nat} {y : Wd} {v : Value} {l : List Pm} {w : World} (del : Pm → Bool) (hv : encP.RO w v l) (hl : l.length ≤ 1073741824) (hcap : w.heap[bw]? = some (.cells (wdC y) 61 (0, 0))) (hd : ∀ m ∈ l, ∀ w, w.heap[bw]? = some (.cells (wdC y) 61 (0, 0)) → Calls Tryz.prog 250 #[pnV m, .pointer (some ⟨bw, 0, none⟩)] w fun e w2 => e = .returned (.bool (del m)) ∧ Below w.heap.size w w2) :
    Calls Tryz.prog 160 #[v, .func (.func 250) #[] #[.pointer (some ⟨bw, 0, none⟩)]] w fun e w' => ∃ r : Int, e = .returned (.int .i64 r) ∧ ((r = -1 ∧ ∀ x ∈ l, del x = false) ∨ ∃ k : Nat, r = k ∧ (∃ x, l[k]? = some x ∧ del x = true) ∧ ∀ x ∈ l.take k, del x = false) ∧ Below w.heap.size w w' := by
  obtain ⟨ao, cap, rfl, hcp, hic⟩ := hv
  have hkc : ∀ w', Kept (fun _ => False) w w' → (w'.heap[bw]? = some (.cells (wdC y) 61 (0, 0))) := fun w' (hk2 : Kept (fun _ => False) w w') => (hk2.block _ (blk_lt hcap) id).trans hcap
  have H0 : St (fun _ => False) w w [] := St.nil _ w
  have hich := Lib.hid hic
  have hdh := Lib.hid hd
  have hkch := Lib.hid hkc
  clear hic hd hkc hcap
  go_enter Tryz.func160, Tryz.ntmps160
  go_upto_block 1 with (fail)
  go_loopw [5, 8] (fun _ j wr => ∃ (k : Nat), k ≤ l.length ∧ j = .int .i64 k ∧ Hid (∀ x ∈ l.take k, del x = false) ∧ St (fun _ => False) w wr []) (fun _ j _ => l.length - (intOf j).toNat)
  case atStart => exact ⟨0, by omega, rfl, Lib.hid (by simp), H0⟩
  case round =>
    clear H0
    obtain ⟨k, hk, rfl, hall, HM⟩ := hrel
    by_cases hkl : k < l.length
    · obtain ⟨b2, o2, rfl, hb2, hc2⟩ := hich.out (by intro e; rw [e] at hkl; simp at hkl)
      obtain ⟨x, hx⟩ : ∃ x, l[k]? = some x := ⟨_, List.getElem?_eq_getElem hkl⟩
      obtain ⟨q0, q1, q2, q3, q4, q5, q6, q7⟩ := pn_cells (hc2 k x hx) (HM.kept.block b2 hb2 id)
      have kr := hdh.out x (List.mem_of_getElem? hx) wr (hkch.out wr HM.kept)
      have hxh := Lib.hid hx
      obtain ⟨ct, hcv⟩ : ∃ ct, del x = ct := ⟨_, rfl⟩
      rw [hcv] at kr
      have hcvh := Lib.hid hcv
      clear hx hc2 hcv
      have hkl2 : (k : Int) < (l.length : Int) := by omega
      obtain ⟨⟨⟨xk, xf, xt⟩, ⟨gn, ga, gt, gx, gy⟩, xr⟩, xa, xc⟩ := x
      unfold pnV pnC Pm.hd textV at kr
      unfold Pm.hd at q5
      unfold textV at q0
      simp only at q0 q1 q2 q3 q4 q5 q6 q7 kr
      cases ct with
      | false =>
        go_wp2_with (go_at_call 250; go_must (refine (St.callPast kr HM).mono ?_; rintro e w3 ⟨rfl, H3⟩))
        go_roundw
        case rel =>
          refine ⟨k + 1, by omega, by go_num, Lib.hid (fun y hy => ?_), H3⟩
          rw [take_snoc' hxh.out] at hy
          rcases List.mem_append.1 hy with hy | hy
          · exact hall.out y hy
          · obtain rfl := List.mem_singleton.1 hy
            exact hcvh.out
        case measure => simp [intOf]; omega
      | true =>
        go_wp2_with (go_at_call 250; go_must (refine (St.callPast kr HM).mono ?_; rintro e w3 ⟨rfl, H3⟩))
        go_ret
        exact ⟨_, rfl, .inr ⟨k, rfl, ⟨_, hxh.out, hcvh.out⟩, hall.out⟩, H3.below (Nat.le_refl _) (fun _ h => h.elim)⟩
    · obtain rfl : k = l.length := by omega
      have hallh := hall.out
      rw [List.take_length] at hallh
      have hallh2 := Lib.hid hallh
      clear hallh
      go_wp2
      go_ret
      exact ⟨_, rfl, .inl ⟨rfl, hallh2.out⟩, HM.below (Nat.le_refl _) (fun _ h => h.elim)⟩

set_option maxHeartbeats 4000000 in
set_option maxRecDepth 100000 in
theorem pns_deleteJ {bw : Nat} {y : Wd} {v : Value} {l : List Pm} {w : World} {S : Nat → Prop} (del : Pm → Bool) (hl : l.length ≤ 1073741824) (hd : ∀ m ∈ l, ∀ w, w.heap[bw]? = some (.cells (wdC y) 61 (0, 0)) → Calls Tryz.prog 250 #[pnV m, .pointer (some ⟨bw, 0, none⟩)] w fun e w2 => e = .returned (.bool (del m)) ∧ Below w.heap.size w w2) (H : Sep w [Row 68 8 v l.length (encP.all l), Blk bw (wdC y) 61] S) :
    Calls Tryz.prog 134 #[v, .func (.func 250) #[] #[.pointer (some ⟨bw, 0, none⟩)]] w fun e w' => ∃ v', e = .returned v' ∧ St S w w' [Row 68 8 v' (l.filter fun m => !del m).length (encP.all (l.filter fun m => !del m)), Blk bw (wdC y) 61] := by
  have H0 := St.refl H
  have ki := pns_indexJ del (Enc.own encP (H0.row 0 rfl) rfl) hl (H0.blk 1 rfl) hd
  obtain ⟨keep, hkeep⟩ : ∃ f : Pm → Bool, (fun m => !del m) = f := ⟨_, rfl⟩
  have hkp : ∀ m, keep m = !del m := fun m => by rw [← hkeep]
  rw [hkeep]
  have hkph := Lib.hid hkp
  clear hkp hkeep
  obtain ⟨ua, uc, rfl, huc, _⟩ := slice_form' (H0.row 0 rfl)
  have hdh := Lib.hid hd
  clear hd H
  by_cases hall : ∀ x ∈ l, del x = false
  · have hfe : l.filter keep = l := List.filter_eq_self.2 (fun x hx => by rw [hkph.out, hall x hx]; rfl)
    have hfh := Lib.hid hfe
    have hah := Lib.hid hall
    clear hfe hall
    have ki2 := ki.mono (fun e w' (h : ∃ r : Int, e = .returned (.int .i64 r) ∧ ((r = -1 ∧ ∀ x ∈ l, del x = false) ∨ ∃ k : Nat, r = k ∧ (∃ x, l[k]? = some x ∧ del x = true) ∧ ∀ x ∈ l.take k, del x = false) ∧ Below w.heap.size w w') => show e = .returned (.int .i64 (-1)) ∧ Below w.heap.size w w' by
      obtain ⟨r, rfl, h | ⟨k, _, ⟨x, hx, hx2⟩, _⟩, hb⟩ := h
      · rw [h.1]; exact ⟨rfl, hb⟩
      · rw [hah.out x (List.mem_of_getElem? hx)] at hx2; cases hx2)
    clear ki
    go_enter Tryz.func134, Tryz.ntmps134
    go_wp2_with (go_at_call 160; go_must (refine ki2.mono ?_; rintro e w3 ⟨rfl, hb3⟩))
    go_ret
    rw [hfh.out]
    exact ⟨_, rfl, H0.past hb3⟩
  · have hah := Lib.hid hall
    have ki2 := ki.mono (fun e w' (h : ∃ r : Int, e = .returned (.int .i64 r) ∧ ((r = -1 ∧ ∀ x ∈ l, del x = false) ∨ ∃ k : Nat, r = k ∧ (∃ x, l[k]? = some x ∧ del x = true) ∧ ∀ x ∈ l.take k, del x = false) ∧ Below w.heap.size w w') => show ∃ k : Nat, e = .returned (.int .i64 k) ∧ (∃ x, l[k]? = some x ∧ del x = true) ∧ (∀ x ∈ l.take k, del x = false) ∧ Below w.heap.size w w' by
      obtain ⟨r, rfl, h | ⟨k, rfl, h⟩, hb⟩ := h
      · exact absurd h.2 hah.out
      · exact ⟨k, rfl, h.1, h.2, hb⟩)
    clear ki hall
    have hln : l.length ≠ 0 := by
      intro h
      obtain rfl := List.eq_nil_of_length_eq_zero h
      exact hah.out (by simp)
    obtain ⟨g, cap, R, hv, hnc, hcm, hxl, hcs, HB⟩ := H0.row_blk 0 rfl hln
    obtain ⟨rfl, rfl⟩ : ua = some ⟨g, 0, none⟩ ∧ uc = cap := by injection hv with h1 _ h2; exact ⟨h1, h2⟩
    have HB : St S w w [Blk g (encP.all l ++ R).toArray 68, Blk bw (wdC y) 61] := HB
    clear hv hah H0
    go_enter Tryz.func134, Tryz.ntmps134
    go_upto_block 1 with (go_at_call 160; go_must (refine ki2.mono ?_; rintro e w3 ⟨k0, rfl, ⟨x0, hx0, hx02⟩, hk2, hb3⟩; have hk0 := (List.getElem?_eq_some_iff.1 hx0).1; have hk1 : ((k0 : Int) == -1) = false := beq_eq_false_iff_ne.2 (by omega)))
    have HB2 := HB.past hb3
    have hf0 : (l.take k0).filter keep = l.take k0 := List.filter_eq_self.2 (fun x hx => by rw [hkph.out, hk2 x hx]; rfl)
    have hstart := Lib.hid (show (l.take (k0 + 1)).filter keep = l.take k0 by rw [filtP_snoc keep hx0, if_neg (by rw [hkph.out, hx02]; simp), hf0])
    clear hb3 HB ki2 hx0 hx02 hk2 hf0
    go_loopw [5, 6, 7] (fun s5 s6 _ wr => ∃ (i j : Nat) (L : List Pm), s5 = .int .i64 i ∧ s6 = .int .i64 j ∧ i < j ∧ j ≤ l.length ∧ L.length = l.length ∧ Hid (L.take i = (l.take j).filter keep) ∧ Hid (L.drop j = l.drop j) ∧ St S w wr [Blk g (encP.all L ++ R).toArray 68, Blk bw (wdC y) 61]) (fun _ s6 _ _ => l.length - (intOf s6).toNat)
    case atStart => exact ⟨k0, k0 + 1, l, rfl, by go_num, by omega, by omega, rfl, Lib.hid hstart.out.symm, Lib.hid rfl, HB2⟩
    case round =>
      clear HB2 hstart
      obtain ⟨i, j, L, rfl, rfl, hij, hj, hL, hF, hD, HM⟩ := hrel
      by_cases hlt : j < l.length
      · have hil : i < l.length := by omega
        have hil2 : (i : Int) < (l.length : Int) := by omega
        have hjl2 : (j : Int) < (l.length : Int) := by omega
        obtain ⟨x, hx⟩ : ∃ x, l[j]? = some x := ⟨_, List.getElem?_eq_getElem hlt⟩
        have hxL : L[j]? = some x := by
          have e1 : (L.drop j)[0]? = L[j]? := by simp
          have e2 : (l.drop j)[0]? = l[j]? := by simp
          rw [← e1, hD.out, e2, hx]
        obtain ⟨q0, q1, q2, q3, q4, q5, q6, q7⟩ := pn_blk (HM.blk 0 rfl) hxL
        have kr := hdh.out x (List.mem_of_getElem? hx)
        have hxh := Lib.hid hx
        obtain ⟨ct, hcv⟩ : ∃ ct, del x = ct := ⟨_, rfl⟩
        rw [hcv] at kr
        have hcvh := Lib.hid hcv
        clear hx hcv hxL
        obtain ⟨xx, hxx⟩ : ∃ z, z = x := ⟨_, rfl⟩
        have hxxh := Lib.hid hxx
        have hpc : ∀ K : Array Value, pnC x = K → pnC xx = K := fun K h => by rw [hxx]; exact h
        clear hxx
        obtain ⟨⟨⟨xk, xf, xt⟩, ⟨gn, ga, gt, gx, gy⟩, xr⟩, xa, xc⟩ := x
        unfold pnC Pm.hd textV at hpc
        unfold pnV pnC Pm.hd textV at kr
        unfold Pm.hd at q5
        unfold textV at q0
        simp only at q0 q1 q2 q3 q4 q5 q6 q7 kr hpc
        obtain ⟨X, hX⟩ : ∃ X, ib gx = X := ⟨_, rfl⟩
        obtain ⟨Y, hY⟩ : ∃ Y, ib gy = Y := ⟨_, rfl⟩
        obtain ⟨TL, hTL⟩ : ∃ n, gt.length = n := ⟨_, rfl⟩
        simp only [hX, hY, hTL] at q5 q6 kr hpc
        have hpx := Lib.hid (hpc _ rfl)
        clear hX hY hTL hpc
        have HA : St S w _ (_ :: _) := HM.allocAt rfl #[.string ⟨xk.toArray⟩, .int .i64 xf, .int .i64 xt, .int .i64 gn, .int .i64 ga, .slice xa TL xc, .complex .f64 X Y, .int .i64 xr] 68
        go_upto_region 8 with (fail)
        obtain ⟨wb, hwb⟩ : ∃ wb, wr.alloc (.cells #[.string ⟨xk.toArray⟩, .int .i64 xf, .int .i64 xt, .int .i64 gn, .int .i64 ga, .slice xa TL xc, .complex .f64 X Y, .int .i64 xr] 68) = wb := ⟨_, rfl⟩
        obtain ⟨xb, hxb⟩ : ∃ xb, wr.heap.size = xb := ⟨_, rfl⟩
        rw [hwb, hxb] at HA
        try rw [hwb]
        try simp only [hxb]
        have HA2 : St S w wb [Blk xb #[.string ⟨xk.toArray⟩, .int .i64 xf, .int .i64 xt, .int .i64 gn, .int .i64 ga, .slice xa TL xc, .complex .f64 X Y, .int .i64 xr] 68, Blk g (encP.all L ++ R).toArray 68, Blk bw (wdC y) 61] := HA
        clear hwb hxb q0 q1 q2 q3 q4 q5 q6 q7 HM HA
        have kr2 := kr wb (HA2.blk 2 rfl)
        clear kr
        have d0 := HA2.cell 0 0 rfl rfl
        have d1 := HA2.cell 0 1 rfl rfl
        have d2 := HA2.cell 0 2 rfl rfl
        have d3 := HA2.cell 0 3 rfl rfl
        have d4 := HA2.cell 0 4 rfl rfl
        have d5 := HA2.cell 0 5 rfl rfl
        have d6 := HA2.cell 0 6 rfl rfl
        have d7 := HA2.cell 0 7 rfl rfl
        have hiL : i < L.length := by omega
        have hfitm : i * 8 + 8 ≤ (encP.all L ++ R).length := by rw [List.length_append, pns_len]; omega
        have hset := Lib.hid (show splice (encP.all L ++ R) (i * 8) #[.string ⟨xk.toArray⟩, .int .i64 xf, .int .i64 xt, .int .i64 gn, .int .i64 ga, .slice xa TL xc, .complex .f64 X Y, .int .i64 xr].toList = encP.all (L.set i xx) ++ R by rw [← hpx.out]; exact encP.set R xx hiL)
        cases ct with
        | false =>
          go_wp2_with (first
            | (go_at_call 250; go_must (refine (St.callPast kr2 HA2).mono ?_; rintro e w3 ⟨rfl, H3⟩; clear d0 d1 d2 d3 d4 d5 d6 d7; have d0 := H3.cell 0 0 rfl rfl; have d1 := H3.cell 0 1 rfl rfl; have d2 := H3.cell 0 2 rfl rfl; have d3 := H3.cell 0 3 rfl rfl; have d4 := H3.cell 0 4 rfl rfl; have d5 := H3.cell 0 5 rfl rfl; have d6 := H3.cell 0 6 rfl rfl; have d7 := H3.cell 0 7 rfl rfl))
            | ((with_reducible show Go.wpList _ _ _ (Oper.mk none (Op.store 68 _ _) _ _ _ _ :: _) _ _); go_must (refine St.list_storeMid H3 1 rfl (ty := 68) (n := 8) (off := i * 8) (vs := #[.string ⟨xk.toArray⟩, .int .i64 xf, .int .i64 xt, .int .i64 gn, .int .i64 ga, .slice xa TL xc, .complex .f64 X Y, .int .i64 xr]) (by kernel_rfl) rfl (by simp [allOne, Value.oneCell']) hfitm rfl (.tmp 33) (.tmp 32) rfl rfl rfl ?_; intro w5 H5 hz5)))
          go_roundw
          case rel =>
            rw [hset.out] at H5
            refine ⟨i + 1, j + 1, L.set i xx, by go_num, by go_num, by omega, by omega, by rw [List.length_set]; exact hL, Lib.hid ?_, Lib.hid ?_, St.tail H5⟩
            · rw [filtP_snoc keep hxh.out, if_pos (by rw [hkph.out, hcvh.out]; rfl), ← hF.out, ← hxxh.out]
              exact take_set1 _ hiL
            · rw [List.drop_set_of_lt (by omega), ← List.drop_drop, hD.out, List.drop_drop]
          case measure => simp [intOf]; omega
        | true =>
          go_wp2_with (go_at_call 250; go_must (refine (St.callPast kr2 HA2).mono ?_; rintro e w3 ⟨rfl, H3⟩))
          go_roundw
          case rel =>
            refine ⟨i, j + 1, L, rfl, by go_num, by omega, by omega, hL, Lib.hid ?_, Lib.hid ?_, St.tail H3⟩
            · rw [filtP_snoc keep hxh.out, if_neg (by rw [hkph.out, hcvh.out]; simp)]; exact hF.out
            · rw [← List.drop_drop, hD.out, List.drop_drop]
          case measure => simp [intOf]; omega
      · obtain rfl : j = l.length := by omega
        rw [List.take_length] at hF
        have hFh := Lib.hid hF.out
        have hlenF : (l.filter keep).length = i := by rw [← hF.out, List.length_take]; omega
        have hlenF := Lib.hid hlenF
        obtain ⟨zl, zo⟩ := zero_pns (l.length - i)
        have hsz := pns_len L
        have hmm : mayCells wr g (i * 8) ((l.length - i) * 8) = true := mayCells_blk (HM.blk 0 rfl) (by simp only [List.size_toArray, List.length_append]; omega)
        have hcl : ∀ ty, (Builtin.clear_ #[43] ty #[.slice (some ⟨g, i * 8, none⟩) (l.length - i) (uc - i)]).run Tryz.prog wr = _ := fun ty => run_clear_any wr _ _ ty _ Tryz.underlying43 Tryz.zeroValue68 g (i * 8) _ _ _ (by omega) zl hmm zo
        have H5 := St.setCells 0 (Builtin.zeroCells pnZ.cells (l.length - i)).toList (i * 8) (encP.all L ++ R) wr _ HM rfl (by simp only [List.length_append, Array.length_toList, zl]; omega)
        go_wp2
        go_ret
        rw [hFh.out] at hF
        have H6 := H5.blk_row 0 (e := 68) (size := 8) (cap := uc) (n := i) (xs := encP.all (L.take i)) rfl (by omega) hcm (by
          have h3 : (encP.all L ++ R).length = uc * 8 := by rw [List.length_append, pns_len, hL]; simpa [pns_len] using hcs
          rw [length_splice _ _ _ (by simp only [List.length_append, Array.length_toList, zl]; omega)]
          exact h3) (by
          unfold splice
          have e1 : encP.all (L.take i) = (encP.all L ++ R).take (i * 8) := by
            have e2 : encP.all L = encP.all (L.take i) ++ encP.all (L.drop i) := by rw [← encP.all_app, List.take_append_drop]
            have e3 : (encP.all (L.take i)).length = i * 8 := by rw [pns_len, List.length_take]; omega
            rw [e2, List.append_assoc, List.take_append_of_le_length (by omega), List.take_of_length_le (l := encP.all (L.take i)) (by omega)]
          rw [e1, List.take_append_of_le_length (by rw [List.length_take, List.length_append]; omega), List.take_of_length_le (by rw [List.length_take]; omega)])
        rw [hFh.out] at H6
        refine ⟨_, rfl, ?_⟩
        rw [hlenF.out]
        exact H6

set_option maxHeartbeats 2000000 in
set_option maxRecDepth 100000 in
theorem pns_indexM {t b2 b3 : Nat} {q : Qry} {mk at1 : Int} {pv ov : Value} {v : Value} {l : List Pm} {w : World} (del : Pm → Bool) (hv : encP.RO w v l) (hl : l.length ≤ 1073741824) (hcap : w.heap[t]? = some (.cells (stC q mk pv ov) 137 (0, 0)) ∧ w.heap[b2]? = some (.cells #[.pointer (some ⟨t, 0, none⟩)] 135 (0, 0)) ∧ w.heap[b3]? = some (.cells #[.int .i64 at1] 3 (0, 0))) (hd : ∀ m ∈ l, ∀ w, w.heap[t]? = some (.cells (stC q mk pv ov) 137 (0, 0)) ∧ w.heap[b2]? = some (.cells #[.pointer (some ⟨t, 0, none⟩)] 135 (0, 0)) ∧ w.heap[b3]? = some (.cells #[.int .i64 at1] 3 (0, 0)) → Calls Tryz.prog 135 #[pnV m, .pointer (some ⟨b2, 0, none⟩), .pointer (some ⟨b3, 0, none⟩)] w fun e w2 => e = .returned (.bool (del m)) ∧ Below w.heap.size w w2) :
    Calls Tryz.prog 160 #[v, .func (.func 135) #[] #[.pointer (some ⟨b2, 0, none⟩), .pointer (some ⟨b3, 0, none⟩)]] w fun e w' => ∃ r : Int, e = .returned (.int .i64 r) ∧ ((r = -1 ∧ ∀ x ∈ l, del x = false) ∨ ∃ k : Nat, r = k ∧ (∃ x, l[k]? = some x ∧ del x = true) ∧ ∀ x ∈ l.take k, del x = false) ∧ Below w.heap.size w w' := by
  obtain ⟨ao, cap, rfl, hcp, hic⟩ := hv
  have hkc : ∀ w', Kept (fun _ => False) w w' → (w'.heap[t]? = some (.cells (stC q mk pv ov) 137 (0, 0)) ∧ w'.heap[b2]? = some (.cells #[.pointer (some ⟨t, 0, none⟩)] 135 (0, 0)) ∧ w'.heap[b3]? = some (.cells #[.int .i64 at1] 3 (0, 0))) := fun w' (hk2 : Kept (fun _ => False) w w') => ⟨(hk2.block _ (blk_lt hcap.1) id).trans hcap.1, (hk2.block _ (blk_lt hcap.2.1) id).trans hcap.2.1, (hk2.block _ (blk_lt hcap.2.2) id).trans hcap.2.2⟩
  have H0 : St (fun _ => False) w w [] := St.nil _ w
  have hich := Lib.hid hic
  have hdh := Lib.hid hd
  have hkch := Lib.hid hkc
  clear hic hd hkc hcap
  go_enter Tryz.func160, Tryz.ntmps160
  go_upto_block 1 with (fail)
  go_loopw [5, 8] (fun _ j wr => ∃ (k : Nat), k ≤ l.length ∧ j = .int .i64 k ∧ Hid (∀ x ∈ l.take k, del x = false) ∧ St (fun _ => False) w wr []) (fun _ j _ => l.length - (intOf j).toNat)
  case atStart => exact ⟨0, by omega, rfl, Lib.hid (by simp), H0⟩
  case round =>
    clear H0
    obtain ⟨k, hk, rfl, hall, HM⟩ := hrel
    by_cases hkl : k < l.length
    · obtain ⟨b2, o2, rfl, hb2, hc2⟩ := hich.out (by intro e; rw [e] at hkl; simp at hkl)
      obtain ⟨x, hx⟩ : ∃ x, l[k]? = some x := ⟨_, List.getElem?_eq_getElem hkl⟩
      obtain ⟨q0, q1, q2, q3, q4, q5, q6, q7⟩ := pn_cells (hc2 k x hx) (HM.kept.block b2 hb2 id)
      have kr := hdh.out x (List.mem_of_getElem? hx) wr (hkch.out wr HM.kept)
      have hxh := Lib.hid hx
      obtain ⟨ct, hcv⟩ : ∃ ct, del x = ct := ⟨_, rfl⟩
      rw [hcv] at kr
      have hcvh := Lib.hid hcv
      clear hx hc2 hcv
      have hkl2 : (k : Int) < (l.length : Int) := by omega
      obtain ⟨⟨⟨xk, xf, xt⟩, ⟨gn, ga, gt, gx, gy⟩, xr⟩, xa, xc⟩ := x
      unfold pnV pnC Pm.hd textV at kr
      unfold Pm.hd at q5
      unfold textV at q0
      simp only at q0 q1 q2 q3 q4 q5 q6 q7 kr
      cases ct with
      | false =>
        go_wp2_with (go_at_call 135; go_must (refine (St.callPast kr HM).mono ?_; rintro e w3 ⟨rfl, H3⟩))
        go_roundw
        case rel =>
          refine ⟨k + 1, by omega, by go_num, Lib.hid (fun y hy => ?_), H3⟩
          rw [take_snoc' hxh.out] at hy
          rcases List.mem_append.1 hy with hy | hy
          · exact hall.out y hy
          · obtain rfl := List.mem_singleton.1 hy
            exact hcvh.out
        case measure => simp [intOf]; omega
      | true =>
        go_wp2_with (go_at_call 135; go_must (refine (St.callPast kr HM).mono ?_; rintro e w3 ⟨rfl, H3⟩))
        go_ret
        exact ⟨_, rfl, .inr ⟨k, rfl, ⟨_, hxh.out, hcvh.out⟩, hall.out⟩, H3.below (Nat.le_refl _) (fun _ h => h.elim)⟩
    · obtain rfl : k = l.length := by omega
      have hallh := hall.out
      rw [List.take_length] at hallh
      have hallh2 := Lib.hid hallh
      clear hallh
      go_wp2
      go_ret
      exact ⟨_, rfl, .inl ⟨rfl, hallh2.out⟩, HM.below (Nat.le_refl _) (fun _ h => h.elim)⟩

set_option maxHeartbeats 4000000 in
set_option maxRecDepth 100000 in
theorem pns_deleteM {t b2 b3 : Nat} {q : Qry} {mk at1 : Int} {pv ov : Value} {v : Value} {l : List Pm} {w : World} {S : Nat → Prop} (del : Pm → Bool) (hl : l.length ≤ 1073741824) (hd : ∀ m ∈ l, ∀ w, w.heap[t]? = some (.cells (stC q mk pv ov) 137 (0, 0)) ∧ w.heap[b2]? = some (.cells #[.pointer (some ⟨t, 0, none⟩)] 135 (0, 0)) ∧ w.heap[b3]? = some (.cells #[.int .i64 at1] 3 (0, 0)) → Calls Tryz.prog 135 #[pnV m, .pointer (some ⟨b2, 0, none⟩), .pointer (some ⟨b3, 0, none⟩)] w fun e w2 => e = .returned (.bool (del m)) ∧ Below w.heap.size w w2) (H : Sep w [Row 68 8 v l.length (encP.all l), Blk t (stC q mk pv ov) 137, Blk b2 #[.pointer (some ⟨t, 0, none⟩)] 135, Blk b3 #[.int .i64 at1] 3] S) :
    Calls Tryz.prog 134 #[v, .func (.func 135) #[] #[.pointer (some ⟨b2, 0, none⟩), .pointer (some ⟨b3, 0, none⟩)]] w fun e w' => ∃ v', e = .returned v' ∧ St S w w' [Row 68 8 v' (l.filter fun m => !del m).length (encP.all (l.filter fun m => !del m)), Blk t (stC q mk pv ov) 137, Blk b2 #[.pointer (some ⟨t, 0, none⟩)] 135, Blk b3 #[.int .i64 at1] 3] := by
  have H0 := St.refl H
  have ki := pns_indexM del (Enc.own encP (H0.row 0 rfl) rfl) hl ⟨H0.blk 1 rfl, H0.blk 2 rfl, H0.blk 3 rfl⟩ hd
  obtain ⟨keep, hkeep⟩ : ∃ f : Pm → Bool, (fun m => !del m) = f := ⟨_, rfl⟩
  have hkp : ∀ m, keep m = !del m := fun m => by rw [← hkeep]
  rw [hkeep]
  have hkph := Lib.hid hkp
  clear hkp hkeep
  obtain ⟨ua, uc, rfl, huc, _⟩ := slice_form' (H0.row 0 rfl)
  have hdh := Lib.hid hd
  clear hd H
  by_cases hall : ∀ x ∈ l, del x = false
  · have hfe : l.filter keep = l := List.filter_eq_self.2 (fun x hx => by rw [hkph.out, hall x hx]; rfl)
    have hfh := Lib.hid hfe
    have hah := Lib.hid hall
    clear hfe hall
    have ki2 := ki.mono (fun e w' (h : ∃ r : Int, e = .returned (.int .i64 r) ∧ ((r = -1 ∧ ∀ x ∈ l, del x = false) ∨ ∃ k : Nat, r = k ∧ (∃ x, l[k]? = some x ∧ del x = true) ∧ ∀ x ∈ l.take k, del x = false) ∧ Below w.heap.size w w') => show e = .returned (.int .i64 (-1)) ∧ Below w.heap.size w w' by
      obtain ⟨r, rfl, h | ⟨k, _, ⟨x, hx, hx2⟩, _⟩, hb⟩ := h
      · rw [h.1]; exact ⟨rfl, hb⟩
      · rw [hah.out x (List.mem_of_getElem? hx)] at hx2; cases hx2)
    clear ki
    go_enter Tryz.func134, Tryz.ntmps134
    go_wp2_with (go_at_call 160; go_must (refine ki2.mono ?_; rintro e w3 ⟨rfl, hb3⟩))
    go_ret
    rw [hfh.out]
    exact ⟨_, rfl, H0.past hb3⟩
  · have hah := Lib.hid hall
    have ki2 := ki.mono (fun e w' (h : ∃ r : Int, e = .returned (.int .i64 r) ∧ ((r = -1 ∧ ∀ x ∈ l, del x = false) ∨ ∃ k : Nat, r = k ∧ (∃ x, l[k]? = some x ∧ del x = true) ∧ ∀ x ∈ l.take k, del x = false) ∧ Below w.heap.size w w') => show ∃ k : Nat, e = .returned (.int .i64 k) ∧ (∃ x, l[k]? = some x ∧ del x = true) ∧ (∀ x ∈ l.take k, del x = false) ∧ Below w.heap.size w w' by
      obtain ⟨r, rfl, h | ⟨k, rfl, h⟩, hb⟩ := h
      · exact absurd h.2 hah.out
      · exact ⟨k, rfl, h.1, h.2, hb⟩)
    clear ki hall
    have hln : l.length ≠ 0 := by
      intro h
      obtain rfl := List.eq_nil_of_length_eq_zero h
      exact hah.out (by simp)
    obtain ⟨g, cap, R, hv, hnc, hcm, hxl, hcs, HB⟩ := H0.row_blk 0 rfl hln
    obtain ⟨rfl, rfl⟩ : ua = some ⟨g, 0, none⟩ ∧ uc = cap := by injection hv with h1 _ h2; exact ⟨h1, h2⟩
    have HB : St S w w [Blk g (encP.all l ++ R).toArray 68, Blk t (stC q mk pv ov) 137, Blk b2 #[.pointer (some ⟨t, 0, none⟩)] 135, Blk b3 #[.int .i64 at1] 3] := HB
    clear hv hah H0
    go_enter Tryz.func134, Tryz.ntmps134
    go_upto_block 1 with (go_at_call 160; go_must (refine ki2.mono ?_; rintro e w3 ⟨k0, rfl, ⟨x0, hx0, hx02⟩, hk2, hb3⟩; have hk0 := (List.getElem?_eq_some_iff.1 hx0).1; have hk1 : ((k0 : Int) == -1) = false := beq_eq_false_iff_ne.2 (by omega)))
    have HB2 := HB.past hb3
    have hf0 : (l.take k0).filter keep = l.take k0 := List.filter_eq_self.2 (fun x hx => by rw [hkph.out, hk2 x hx]; rfl)
    have hstart := Lib.hid (show (l.take (k0 + 1)).filter keep = l.take k0 by rw [filtP_snoc keep hx0, if_neg (by rw [hkph.out, hx02]; simp), hf0])
    clear hb3 HB ki2 hx0 hx02 hk2 hf0
    go_loopw [5, 6, 7] (fun s5 s6 _ wr => ∃ (i j : Nat) (L : List Pm), s5 = .int .i64 i ∧ s6 = .int .i64 j ∧ i < j ∧ j ≤ l.length ∧ L.length = l.length ∧ Hid (L.take i = (l.take j).filter keep) ∧ Hid (L.drop j = l.drop j) ∧ St S w wr [Blk g (encP.all L ++ R).toArray 68, Blk t (stC q mk pv ov) 137, Blk b2 #[.pointer (some ⟨t, 0, none⟩)] 135, Blk b3 #[.int .i64 at1] 3]) (fun _ s6 _ _ => l.length - (intOf s6).toNat)
    case atStart => exact ⟨k0, k0 + 1, l, rfl, by go_num, by omega, by omega, rfl, Lib.hid hstart.out.symm, Lib.hid rfl, HB2⟩
    case round =>
      clear HB2 hstart
      obtain ⟨i, j, L, rfl, rfl, hij, hj, hL, hF, hD, HM⟩ := hrel
      by_cases hlt : j < l.length
      · have hil : i < l.length := by omega
        have hil2 : (i : Int) < (l.length : Int) := by omega
        have hjl2 : (j : Int) < (l.length : Int) := by omega
        obtain ⟨x, hx⟩ : ∃ x, l[j]? = some x := ⟨_, List.getElem?_eq_getElem hlt⟩
        have hxL : L[j]? = some x := by
          have e1 : (L.drop j)[0]? = L[j]? := by simp
          have e2 : (l.drop j)[0]? = l[j]? := by simp
          rw [← e1, hD.out, e2, hx]
        obtain ⟨q0, q1, q2, q3, q4, q5, q6, q7⟩ := pn_blk (HM.blk 0 rfl) hxL
        have kr := hdh.out x (List.mem_of_getElem? hx)
        have hxh := Lib.hid hx
        obtain ⟨ct, hcv⟩ : ∃ ct, del x = ct := ⟨_, rfl⟩
        rw [hcv] at kr
        have hcvh := Lib.hid hcv
        clear hx hcv hxL
        obtain ⟨xx, hxx⟩ : ∃ z, z = x := ⟨_, rfl⟩
        have hxxh := Lib.hid hxx
        have hpc : ∀ K : Array Value, pnC x = K → pnC xx = K := fun K h => by rw [hxx]; exact h
        clear hxx
        obtain ⟨⟨⟨xk, xf, xt⟩, ⟨gn, ga, gt, gx, gy⟩, xr⟩, xa, xc⟩ := x
        unfold pnC Pm.hd textV at hpc
        unfold pnV pnC Pm.hd textV at kr
        unfold Pm.hd at q5
        unfold textV at q0
        simp only at q0 q1 q2 q3 q4 q5 q6 q7 kr hpc
        obtain ⟨X, hX⟩ : ∃ X, ib gx = X := ⟨_, rfl⟩
        obtain ⟨Y, hY⟩ : ∃ Y, ib gy = Y := ⟨_, rfl⟩
        obtain ⟨TL, hTL⟩ : ∃ n, gt.length = n := ⟨_, rfl⟩
        simp only [hX, hY, hTL] at q5 q6 kr hpc
        have hpx := Lib.hid (hpc _ rfl)
        clear hX hY hTL hpc
        have HA : St S w _ (_ :: _) := HM.allocAt rfl #[.string ⟨xk.toArray⟩, .int .i64 xf, .int .i64 xt, .int .i64 gn, .int .i64 ga, .slice xa TL xc, .complex .f64 X Y, .int .i64 xr] 68
        go_upto_region 8 with (fail)
        obtain ⟨wb, hwb⟩ : ∃ wb, wr.alloc (.cells #[.string ⟨xk.toArray⟩, .int .i64 xf, .int .i64 xt, .int .i64 gn, .int .i64 ga, .slice xa TL xc, .complex .f64 X Y, .int .i64 xr] 68) = wb := ⟨_, rfl⟩
        obtain ⟨xb, hxb⟩ : ∃ xb, wr.heap.size = xb := ⟨_, rfl⟩
        rw [hwb, hxb] at HA
        try rw [hwb]
        try simp only [hxb]
        have HA2 : St S w wb [Blk xb #[.string ⟨xk.toArray⟩, .int .i64 xf, .int .i64 xt, .int .i64 gn, .int .i64 ga, .slice xa TL xc, .complex .f64 X Y, .int .i64 xr] 68, Blk g (encP.all L ++ R).toArray 68, Blk t (stC q mk pv ov) 137, Blk b2 #[.pointer (some ⟨t, 0, none⟩)] 135, Blk b3 #[.int .i64 at1] 3] := HA
        clear hwb hxb q0 q1 q2 q3 q4 q5 q6 q7 HM HA
        have kr2 := kr wb ⟨HA2.blk 2 rfl, HA2.blk 3 rfl, HA2.blk 4 rfl⟩
        clear kr
        have d0 := HA2.cell 0 0 rfl rfl
        have d1 := HA2.cell 0 1 rfl rfl
        have d2 := HA2.cell 0 2 rfl rfl
        have d3 := HA2.cell 0 3 rfl rfl
        have d4 := HA2.cell 0 4 rfl rfl
        have d5 := HA2.cell 0 5 rfl rfl
        have d6 := HA2.cell 0 6 rfl rfl
        have d7 := HA2.cell 0 7 rfl rfl
        have hiL : i < L.length := by omega
        have hfitm : i * 8 + 8 ≤ (encP.all L ++ R).length := by rw [List.length_append, pns_len]; omega
        have hset := Lib.hid (show splice (encP.all L ++ R) (i * 8) #[.string ⟨xk.toArray⟩, .int .i64 xf, .int .i64 xt, .int .i64 gn, .int .i64 ga, .slice xa TL xc, .complex .f64 X Y, .int .i64 xr].toList = encP.all (L.set i xx) ++ R by rw [← hpx.out]; exact encP.set R xx hiL)
        cases ct with
        | false =>
          go_wp2_with (first
            | (go_at_call 135; go_must (refine (St.callPast kr2 HA2).mono ?_; rintro e w3 ⟨rfl, H3⟩; clear d0 d1 d2 d3 d4 d5 d6 d7; have d0 := H3.cell 0 0 rfl rfl; have d1 := H3.cell 0 1 rfl rfl; have d2 := H3.cell 0 2 rfl rfl; have d3 := H3.cell 0 3 rfl rfl; have d4 := H3.cell 0 4 rfl rfl; have d5 := H3.cell 0 5 rfl rfl; have d6 := H3.cell 0 6 rfl rfl; have d7 := H3.cell 0 7 rfl rfl))
            | ((with_reducible show Go.wpList _ _ _ (Oper.mk none (Op.store 68 _ _) _ _ _ _ :: _) _ _); go_must (refine St.list_storeMid H3 1 rfl (ty := 68) (n := 8) (off := i * 8) (vs := #[.string ⟨xk.toArray⟩, .int .i64 xf, .int .i64 xt, .int .i64 gn, .int .i64 ga, .slice xa TL xc, .complex .f64 X Y, .int .i64 xr]) (by kernel_rfl) rfl (by simp [allOne, Value.oneCell']) hfitm rfl (.tmp 33) (.tmp 32) rfl rfl rfl ?_; intro w5 H5 hz5)))
          go_roundw
          case rel =>
            rw [hset.out] at H5
            refine ⟨i + 1, j + 1, L.set i xx, by go_num, by go_num, by omega, by omega, by rw [List.length_set]; exact hL, Lib.hid ?_, Lib.hid ?_, St.tail H5⟩
            · rw [filtP_snoc keep hxh.out, if_pos (by rw [hkph.out, hcvh.out]; rfl), ← hF.out, ← hxxh.out]
              exact take_set1 _ hiL
            · rw [List.drop_set_of_lt (by omega), ← List.drop_drop, hD.out, List.drop_drop]
          case measure => simp [intOf]; omega
        | true =>
          go_wp2_with (go_at_call 135; go_must (refine (St.callPast kr2 HA2).mono ?_; rintro e w3 ⟨rfl, H3⟩))
          go_roundw
          case rel =>
            refine ⟨i, j + 1, L, rfl, by go_num, by omega, by omega, hL, Lib.hid ?_, Lib.hid ?_, St.tail H3⟩
            · rw [filtP_snoc keep hxh.out, if_neg (by rw [hkph.out, hcvh.out]; simp)]; exact hF.out
            · rw [← List.drop_drop, hD.out, List.drop_drop]
          case measure => simp [intOf]; omega
      · obtain rfl : j = l.length := by omega
        rw [List.take_length] at hF
        have hFh := Lib.hid hF.out
        have hlenF : (l.filter keep).length = i := by rw [← hF.out, List.length_take]; omega
        have hlenF := Lib.hid hlenF
        obtain ⟨zl, zo⟩ := zero_pns (l.length - i)
        have hsz := pns_len L
        have hmm : mayCells wr g (i * 8) ((l.length - i) * 8) = true := mayCells_blk (HM.blk 0 rfl) (by simp only [List.size_toArray, List.length_append]; omega)
        have hcl : ∀ ty, (Builtin.clear_ #[43] ty #[.slice (some ⟨g, i * 8, none⟩) (l.length - i) (uc - i)]).run Tryz.prog wr = _ := fun ty => run_clear_any wr _ _ ty _ Tryz.underlying43 Tryz.zeroValue68 g (i * 8) _ _ _ (by omega) zl hmm zo
        have H5 := St.setCells 0 (Builtin.zeroCells pnZ.cells (l.length - i)).toList (i * 8) (encP.all L ++ R) wr _ HM rfl (by simp only [List.length_append, Array.length_toList, zl]; omega)
        go_wp2
        go_ret
        rw [hFh.out] at hF
        have H6 := H5.blk_row 0 (e := 68) (size := 8) (cap := uc) (n := i) (xs := encP.all (L.take i)) rfl (by omega) hcm (by
          have h3 : (encP.all L ++ R).length = uc * 8 := by rw [List.length_append, pns_len, hL]; simpa [pns_len] using hcs
          rw [length_splice _ _ _ (by simp only [List.length_append, Array.length_toList, zl]; omega)]
          exact h3) (by
          unfold splice
          have e1 : encP.all (L.take i) = (encP.all L ++ R).take (i * 8) := by
            have e2 : encP.all L = encP.all (L.take i) ++ encP.all (L.drop i) := by rw [← encP.all_app, List.take_append_drop]
            have e3 : (encP.all (L.take i)).length = i * 8 := by rw [pns_len, List.length_take]; omega
            rw [e2, List.append_assoc, List.take_append_of_le_length (by omega), List.take_of_length_le (l := encP.all (L.take i)) (by omega)]
          rw [e1, List.take_append_of_le_length (by rw [List.length_take, List.length_append]; omega), List.take_of_length_le (by rw [List.length_take]; omega)])
        rw [hFh.out] at H6
        refine ⟨_, rfl, ?_⟩
        rw [hlenF.out]
        exact H6

end Go.Proofs.YtiglgfonhdfpmaaGreat

/- The stepper's predicates; open. Conditions: panes in their order, so many. -/
set_option linter.unusedVariables false
set_option linter.unusedSimpArgs false
namespace Go.Proofs.YtiglgfonhdfpmaaGreat
open Go.RowKit

set_option maxHeartbeats 2000000 in
set_option maxRecDepth 100000 in
theorem join_one (m : Pm) (x : Wd) (hm : m.p.w.fits) (hx : x.fits) {bw : Nat} (w : World) (hb : w.heap[bw]? = some (.cells (wdC x) 61 (0, 0))) : Calls Tryz.prog 250 #[pnV m, .pointer (some ⟨bw, 0, none⟩)] w fun e w' => e = .returned (.bool (m.p.w.joins x)) ∧ Below w.heap.size w w' := by
  have kp := fun w' => wd_joins m.p.w x hm hx w'
  obtain ⟨P, hP⟩ : ∃ P, m.p.w.joins x = P := ⟨_, rfl⟩
  rw [hP] at kp ⊢
  clear hP hm hx
  obtain ⟨⟨⟨xk, xf, xt⟩, ⟨gn, ga, gt, gx, gy⟩, xr⟩, xa, xc⟩ := m
  obtain ⟨yk, yf, yt⟩ := x
  unfold wdV wdC textV at kp
  unfold wdC textV at hb
  unfold pnV pnC Pm.hd textV
  simp only at kp hb ⊢
  obtain ⟨X, hX⟩ : ∃ X, ib gx = X := ⟨_, rfl⟩
  obtain ⟨Y, hY⟩ : ∃ Y, ib gy = Y := ⟨_, rfl⟩
  obtain ⟨TL, hTL⟩ : ∃ n, gt.length = n := ⟨_, rfl⟩
  simp only [hX, hY, hTL]
  clear hX hY hTL
  have H : St (fun _ => False) w _ [_] := (St.nil _ w).allocAt rfl #[.string ⟨xk.toArray⟩, .int .i64 xf, .int .i64 xt, .int .i64 gn, .int .i64 ga, .slice xa TL xc, .complex .f64 X Y, .int .i64 xr] 68
  have c0 := H.cell 0 0 rfl rfl
  have c1 := H.cell 0 1 rfl rfl
  have c2 := H.cell 0 2 rfl rfl
  have hb2 := (H.kept.block bw (blk_lt hb) id).trans hb
  have d0 := cell_blk' hb2 (i := 0) rfl
  have d1 := cell_blk' hb2 (i := 1) rfl
  have d2 := cell_blk' hb2 (i := 2) rfl
  go_enter Tryz.func250, Tryz.ntmps250
  go_wp2_with (go_at_call 147; go_must (refine (St.callPast (kp _) H).mono ?_; rintro e w2 ⟨rfl, H2⟩))
  go_ret
  exact ⟨rfl, H2.below (Nat.le_refl _) (fun _ h => h.elim)⟩

set_option maxHeartbeats 2000000 in
set_option maxRecDepth 100000 in
theorem mark_two (m : Pm) (q : Qry) (mk at1 : Int) (pv ov : Value) (hm : m.p.w.fits) {t b2 b3 : Nat} (w : World) (hb : w.heap[t]? = some (.cells (stC q mk pv ov) 137 (0, 0)) ∧ w.heap[b2]? = some (.cells #[.pointer (some ⟨t, 0, none⟩)] 135 (0, 0)) ∧ w.heap[b3]? = some (.cells #[.int .i64 at1] 3 (0, 0))) :
    Calls Tryz.prog 135 #[pnV m, .pointer (some ⟨b2, 0, none⟩), .pointer (some ⟨b3, 0, none⟩)] w fun e w' => e = .returned (.bool (m.p.w.gone q at1)) ∧ Below w.heap.size w w' := by
  obtain ⟨ht, h2, h3⟩ := hb
  have kp := fun w' => wd_gone q m.p.w hm at1 w'
  obtain ⟨P, hP⟩ : ∃ P, m.p.w.gone q at1 = P := ⟨_, rfl⟩
  simp only [hP] at kp ⊢
  clear hP hm
  obtain ⟨⟨⟨xk, xf, xt⟩, ⟨gn, ga, gt, gx, gy⟩, xr⟩, xa, xc⟩ := m
  obtain ⟨kd, sz, sl, lt, ag, kk⟩ := q
  unfold qyV qyC wdV wdC textV at kp
  unfold stC at ht
  unfold pnV pnC Pm.hd textV
  simp only at kp ht ⊢
  obtain ⟨X, hX⟩ : ∃ X, ib gx = X := ⟨_, rfl⟩
  obtain ⟨Y, hY⟩ : ∃ Y, ib gy = Y := ⟨_, rfl⟩
  obtain ⟨TL, hTL⟩ : ∃ n, gt.length = n := ⟨_, rfl⟩
  simp only [hX, hY, hTL]
  clear hX hY hTL
  have H : St (fun _ => False) w _ [_] := (St.nil _ w).allocAt rfl #[.string ⟨xk.toArray⟩, .int .i64 xf, .int .i64 xt, .int .i64 gn, .int .i64 ga, .slice xa TL xc, .complex .f64 X Y, .int .i64 xr] 68
  obtain ⟨b, hb⟩ : ∃ b, w.heap.size = b := ⟨_, rfl⟩
  obtain ⟨w1, hw1⟩ : ∃ w1, w.alloc (.cells #[.string ⟨xk.toArray⟩, .int .i64 xf, .int .i64 xt, .int .i64 gn, .int .i64 ga, .slice xa TL xc, .complex .f64 X Y, .int .i64 xr] 68) = w1 := ⟨_, rfl⟩
  go_enter Tryz.func135, Tryz.ntmps135
  go_upto_region 1 with (fail)
  rw [hw1, hb] at H
  try rw [hw1]
  try simp only [hb]
  have hbh := Lib.hid hb
  clear hw1 hb
  refine wp_calm (fun w' => St (fun _ => False) w w' [Blk b #[.string ⟨xk.toArray⟩, .int .i64 xf, .int .i64 xt, .int .i64 gn, .int .i64 ga, .slice xa TL xc, .complex .f64 X Y, .int .i64 xr] 68]) (by kernel_rfl) (by kernel_rfl) (H.drew) ?_
  iterate 9 first
    | (apply calm_pass
       · rfl
       intro K hK
       go_simp
       refine hK _ ?_
       clear hK K)
    | (apply calm_step
       · rfl
       · intro w1 h1
         have c0 := h1.cell 0 0 rfl rfl
         have c1 := h1.cell 0 1 rfl rfl
         have c2 := h1.cell 0 2 rfl rfl
         have g1 := (h1.kept.block t (blk_lt ht) id).trans ht
         have e0 := cell_blk' g1 (i := 0) rfl
         have e1 := cell_blk' g1 (i := 1) rfl
         have e2 := cell_blk' g1 (i := 2) rfl
         have e3 := cell_blk' g1 (i := 3) rfl
         have e4 := cell_blk' g1 (i := 4) rfl
         have e5 := cell_blk' g1 (i := 5) rfl
         have e8 := cell_blk' ((h1.kept.block b2 (blk_lt h2) id).trans h2) (i := 0) rfl
         have e9 := cell_blk' ((h1.kept.block b3 (blk_lt h3) id).trans h3) (i := 0) rfl
         first
           | (go_simp
              first
                | rfl
                | exact ⟨rfl, h1⟩
                | (go_at_call 136; with_reducible exact St.callPast (kp w1) h1)
             )
       intro K hK
       go_simp
       refine hK _ ?_
       clear hK K)
  refine calm_nil ?_
  intro w9 H9
  go_wp2
  go_ret
  exact ⟨rfl, H9.below (Nat.le_refl _) (fun _ h => h.elim)⟩

/-- Panes in their order. -/
def Ord (l : List Pn) : Prop := l.Pairwise fun a b => a.w.place b.w < 0
theorem ord_iff : ∀ {l : List Pn}, sortedP l = true ↔ Ord l
  | [] => by simp [sortedP, Ord]
  | [x] => by simp [sortedP, Ord]
  | x :: y :: r => by
    have ih := ord_iff (l := y :: r)
    unfold Ord at ih ⊢
    simp only [sortedP, Bool.and_eq_true, decide_eq_true_eq, ih]
    constructor
    · rintro ⟨h1, h2⟩
      refine List.pairwise_cons.2 ⟨fun z hz => ?_, h2⟩
      rcases List.mem_cons.1 hz with rfl | hz
      · exact h1
      · exact place_trans h1 ((List.pairwise_cons.1 h2).1 z hz)
    · intro h
      have h3 := List.pairwise_cons.1 h
      exact ⟨h3.1 y (by simp), h3.2⟩
theorem placeP_le (l : List Pn) (x : Wd) : placeP l x ≤ l.length := by
  have := posW_le (l.map (·.w)) x
  rwa [List.length_map] at this
theorem placeP_lo {l : List Pn} {x : Wd} {j : Nat} {y : Pn} (hj : j < placeP l x) (hy : l[j]? = some y) : y.w.place x < 0 :=
  posW_lo (l := l.map (·.w)) hj (by rw [List.getElem?_map, hy]; rfl)
theorem placeP_hi {l : List Pn} {x : Wd} (hl : Ord l) {j : Nat} {y : Pn} (hj : placeP l x ≤ j) (hy : l[j]? = some y) : 0 ≤ y.w.place x := by
  have key : ∀ (l : List Pn), Ord l → ∀ (j : Nat) y, placeP l x ≤ j → l[j]? = some y → 0 ≤ y.w.place x := by
    intro l
    induction l with
    | nil => intro _ j y _ h; simp at h
    | cons a r ih =>
      intro ho j y hj hy
      have h2 := List.pairwise_cons.1 ho
      unfold placeP posW at hj
      rw [List.map_cons, List.takeWhile_cons] at hj
      by_cases ha : a.w.place x < 0
      · rw [if_pos (by simpa using ha), List.length_cons] at hj
        obtain ⟨k, rfl⟩ : ∃ k, j = k + 1 := ⟨j - 1, by omega⟩
        exact ih h2.2 k y (by unfold placeP posW; omega) (by simpa using hy)
      · cases j with
        | zero =>
          obtain rfl : a = y := by simpa using hy
          omega
        | succ k =>
          have hy2 : y ∈ r := List.mem_of_getElem? (by simpa using hy)
          refine Classical.byContradiction fun hc => ?_
          have := place_trans (h2.1 y hy2) (show y.w.place x < 0 by omega)
          omega
  exact key l hl j y hj hy

end Go.Proofs.YtiglgfonhdfpmaaGreat

/- The stepper's open. Conditions: panes in their order, so many. (Printed by a program of mine.) -/
set_option linter.unusedVariables false
set_option linter.unusedSimpArgs false
namespace Go.Proofs.YtiglgfonhdfpmaaGreat
open Go.RowKit

/-- The panes with a window's one, opened if it isn't there. -/
def openM (l : List Pn) (x : Wd) : List Pn := if (∃ p, l[placeP l x]? = some p ∧ p.w = x) then l else withP l ⟨x, Ag.zero, 0⟩
theorem St.pool_zero {S : Nat → Prop} {w0 w : World} {L : List SP} (h : St S w0 w L) (i : Nat) {H : List (Value × List Int)} (hi : L[i]? = some (Pool H)) : St S w0 w (L.set i (Pool ((.slice none 0 0, []) :: H))) := by
  obtain ⟨S1, h1, h2⟩ := h.turn i hi
  refine h2 (S1' := S1) (Kept.refl _ _) ⟨fun x hx => ?_, h1.2⟩ (fun _ a => .inl a)
  rcases List.mem_cons.1 hx with rfl | hx
  · exact ⟨⟨none, 0, rfl, Nat.le_refl _, by simp, fun h => absurd rfl h⟩, fun h => absurd rfl h⟩
  · exact h1.1 x hx
def pm0 (x : Wd) : Pm := ⟨⟨x, Ag.zero, 0⟩, none, 0⟩
theorem pm0_cells (x : Wd) : pnC (pm0 x) = #[.string ⟨x.key.toArray⟩, .int .i64 x.frm, .int .i64 x.to, .int .i64 0, .int .i64 0, .slice none 0 0, .complex .f64 0 0, .int .i64 0] := by
  simp only [pnC, pm0, Ag.zero, ib_zero, textV, Pm.hd, List.length_nil]

set_option maxHeartbeats 4000000 in
set_option maxRecDepth 100000 in
theorem step_open {t : Nat} {q : Qry} {mk : Int} {l : List Pn} {o : List Ot} {x : Wd} {w : World} {S : Nat → Prop} (hord : Ord l) (hll : l.length ≤ 1073741823) (H0 : Sep w [Stp t q mk l o] S) :
    Calls Tryz.prog 140 #[.pointer (some ⟨t, 0, none⟩), wdV x] w fun e w' => e = .returned (.int .i64 (placeP l x)) ∧ St S w w' [Stp t q mk (openM l x) o] := by
  have hk := placeP_le l x
  have hlo := fun (j : Nat) (y : Pn) (h1 : j < placeP l x) (h2 : l[j]? = some y) => placeP_lo (x := x) h1 h2
  have hhi := fun (j : Nat) (y : Pn) (h1 : placeP l x ≤ j) (h2 : l[j]? = some y) => placeP_hi (x := x) hord h1 h2
  have hnew0 : withP l ⟨x, Ag.zero, 0⟩ = l.take (placeP l x) ++ ⟨x, Ag.zero, 0⟩ :: l.drop (placeP l x) := rfl
  have hopen0 : openM l x = if (∃ p, l[placeP l x]? = some p ∧ p.w = x) then l else withP l ⟨x, Ag.zero, 0⟩ := rfl
  obtain ⟨k, hkk⟩ : ∃ k, placeP l x = k := ⟨_, rfl⟩
  rw [hkk] at hk hnew0 hopen0
  simp only [hkk] at hlo hhi
  rw [hkk]
  clear hkk hord
  obtain ⟨res, hres⟩ : ∃ r, openM l x = r := ⟨_, rfl⟩
  rw [hres] at hopen0 ⊢
  rw [hnew0] at hopen0
  clear hnew0 hres
  obtain ⟨pv, ov, ms, os, H, rfl, rfl, hmo, hoo, H1⟩ := Stp.open (St.refl H0)
  clear H0
  rw [List.length_map] at hk hll
  have kf := fun w' (hb : w'.heap[t]? = some (.cells (stC q mk pv ov) 137 (0, 0))) (hv : encP.RO w' pv ms) => step_find (x := x) hb hv (by omega) hk (fun j y h1 h2 => hlo j y.p h1 (by rw [List.getElem?_map, h2]; rfl)) (fun j y h1 h2 => hhi j y.p h1 (by rw [List.getElem?_map, h2]; rfl))
  clear hlo hhi
  have kins := Lib.hid (fun (w' : World) (S' : Nat → Prop) (g2 : Nat) (h : Sep w' [Row 68 8 pv ms.length (encP.all ms), Blk g2 (pnC (pm0 x)) 68] S') => pns_insert (x := pm0 x) hk (by omega) h)
  have hmoh := Lib.hid hmo
  have hooh := Lib.hid hoo
  have hopenh := Lib.hid hopen0
  clear hmo hoo hopen0
  have hpmh := Lib.hid (pm0_cells x)
  obtain ⟨xx, hxx⟩ : ∃ z, z = x := ⟨_, rfl⟩
  have hxxh := Lib.hid hxx
  rw [hxx.symm] at kins hopenh hpmh
  simp only [← hxx] at kf
  clear hxx
  obtain ⟨NP, hNP⟩ : ∃ z, z = pm0 xx := ⟨_, rfl⟩
  have hNPh := Lib.hid hNP
  rw [← hNP] at kins hpmh
  clear hNP
  obtain ⟨qq, hqq⟩ : ∃ z, z = q := ⟨_, rfl⟩
  have hqqh := Lib.hid hqq
  rw [← hqq]
  clear hqq
  obtain ⟨kd, sz, sl, lt, ag, kk⟩ := q
  obtain ⟨yk, yf, yt⟩ := x
  rw [hxxh.out] at hpmh
  have kf2 : ∀ w', (w'.heap[t]? = some (.cells (stC ⟨kd, sz, sl, lt, ag, kk⟩ mk pv ov) 137 (0, 0))) → encP.RO w' pv ms → Calls Tryz.prog 197 #[.pointer (some ⟨t, 0, none⟩), wdV ⟨yk, yf, yt⟩] w' fun e w2 => FoundP k ms xx e ∧ Below w'.heap.size w' w2 := fun w' a b => by
    have := kf w' a b
    rw [hxxh.out] at this ⊢
    exact this
  clear kf
  unfold stC wdV wdC textV at kf2
  unfold stC at H1
  unfold wdV wdC textV
  simp only at kf2 hpmh H1 ⊢
  have H2 : St S w _ (_ :: _) := H1.allocAt rfl #[.string ⟨yk.toArray⟩, .int .i64 yf, .int .i64 yt] 61
  obtain ⟨xb, hxb⟩ : ∃ b, w.heap.size = b := ⟨_, rfl⟩
  obtain ⟨w1, hw1⟩ : ∃ w1, w.alloc (.cells #[.string ⟨yk.toArray⟩, .int .i64 yf, .int .i64 yt] 61) = w1 := ⟨_, rfl⟩
  go_enter Tryz.func140, Tryz.ntmps140
  go_upto_region 1 with (fail)
  rw [hw1, hxb] at H2
  try rw [hw1]
  try simp only [hxb]
  have H3 : St S w w1 [Blk xb #[.string ⟨yk.toArray⟩, .int .i64 yf, .int .i64 yt] 61, Blk t #[.int .i64 kd, .int .i64 sz, .int .i64 sl, .int .i64 lt, .int .i64 ag, .int .i64 kk, .int .i64 mk, pv, ov] 137, Row 68 8 pv ms.length (encP.all ms), Row 63 10 ov os.length (encO.all os), Pool H] := H2
  have hxbh := Lib.hid hxb
  clear hw1 hxb H1 H2
  have kc := kf2 _ (H3.blk 1 rfl) (Enc.own encP (H3.row 2 rfl) rfl)
  clear kf2
  have d0 := H3.cell 0 0 rfl rfl
  have d1 := H3.cell 0 1 rfl rfl
  have d2 := H3.cell 0 2 rfl rfl
  go_upto_region 2 with (go_at_call 197; go_must (refine kc.mono ?_; rintro e w3 ⟨⟨bv, rfl, hbv⟩, hb3⟩; have hbvh := Lib.hid hbv; clear hbv))
  have H4 := H3.past hb3
  clear H3 hb3 d0 d1 d2 kc
  have hdec : (∃ p, (ms.map (·.p))[k]? = some p ∧ p.w = xx) ↔ bv = true := by
    rw [hbvh.out, List.getElem?_map]
    constructor
    · rintro ⟨p, hp, hw⟩
      obtain ⟨m, hm, rfl⟩ := Option.map_eq_some_iff.1 hp
      exact ⟨m, hm, hw⟩
    · rintro ⟨m, hm, hw⟩
      exact ⟨m.p, by rw [hm]; rfl, hw⟩
  have hdech := Lib.hid hdec
  clear hdec
  cases bv with
  | true =>
    have hr : res = ms.map (·.p) := by rw [hopenh.out, if_pos (hdech.out.2 rfl)]
    have hrh := Lib.hid hr
    clear hr
    go_wp2
    go_ret
    refine ⟨rfl, ?_⟩
    rw [hrh.out, hqqh.out]
    exact Stp.mk' rfl rfl hmoh.out hooh.out (H4.pick [1, 2, 3, 4])
  | false =>
    have hr : res = (ms.map (·.p)).take k ++ ⟨xx, Ag.zero, 0⟩ :: (ms.map (·.p)).drop k := by rw [hopenh.out, if_neg (fun h => by have := hdech.out.1 h; cases this)]
    have hrh := Lib.hid hr
    clear hr
    go_upto_region 3 with (fail)
    refine wp_script_tail 14 [(0, false), (1, false), (2, false), (3, false), (4, false), (5, false), (6, false), (7, false), (8, false), (9, true), (10, true), (11, false), (12, false), (13, false)] (Fam fun w' => St S w w' [Blk xb #[.string ⟨yk.toArray⟩, .int .i64 yf, .int .i64 yt] 61, Blk t #[.int .i64 kd, .int .i64 sz, .int .i64 sl, .int .i64 lt, .int .i64 ag, .int .i64 kk, .int .i64 mk, pv, ov] 137]) (fun w' => St S w w' [Blk xb #[.string ⟨yk.toArray⟩, .int .i64 yf, .int .i64 yt] 61, Blk t #[.int .i64 kd, .int .i64 sz, .int .i64 sl, .int .i64 lt, .int .i64 ag, .int .i64 kk, .int .i64 mk, pv, ov] 137, Row 68 8 pv ms.length (encP.all ms), Row 63 10 ov os.length (encO.all os), Pool H]) (by kernel_rfl) (by rfl) (by kernel_rfl) (by kernel_rfl) H4.drew (Fam.st (fun _ h => h.pick [0, 1])) ?_
    iterate 9 first
      | (apply script_pass
         · rfl
         · rfl
         intro K hK
         go_simp
         refine hK _ ?_
         clear hK K)
      | (apply script_step
         · rfl
         · rfl
         · intro I hI w1 h1'
           have h1 := hI.2 _ h1'
           have d0 := h1.cell 0 0 rfl rfl
           have d1 := h1.cell 0 1 rfl rfl
           have d2 := h1.cell 0 2 rfl rfl
           have c7 := h1.cell 1 7 rfl rfl
           first
             | (go_simp
                first
                  | rfl
                  | exact ⟨rfl, h1'⟩
               )
         intro K hK
         go_simp
         refine hK _ ?_
         clear hK K)
    refine script_alone rfl rfl ?_
    intro V hV w1 h1
    go_simp
    obtain ⟨gn, hgn⟩ : ∃ g, w1.heap.size = g := ⟨_, rfl⟩
    have H5 : St S w _ [Blk gn #[.string ⟨yk.toArray⟩, .int .i64 yf, .int .i64 yt, .int .i64 0, .int .i64 0, .slice none 0 0, .complex .f64 0 0, .int .i64 0] 68, Blk xb #[.string ⟨yk.toArray⟩, .int .i64 yf, .int .i64 yt] 61, Blk t #[.int .i64 kd, .int .i64 sz, .int .i64 sl, .int .i64 lt, .int .i64 ag, .int .i64 kk, .int .i64 mk, pv, ov] 137, Row 68 8 pv ms.length (encP.all ms), Row 63 10 ov os.length (encO.all os), Pool H] := h1.allocAt hgn #[.string ⟨yk.toArray⟩, .int .i64 yf, .int .i64 yt, .int .i64 0, .int .i64 0, .slice none 0 0, .complex .f64 0 0, .int .i64 0] 68
    simp only [hgn]
    refine ⟨fun w' => St S w w' [Blk gn #[.string ⟨yk.toArray⟩, .int .i64 yf, .int .i64 yt, .int .i64 0, .int .i64 0, .slice none 0 0, .complex .f64 0 0, .int .i64 0] 68, Blk xb #[.string ⟨yk.toArray⟩, .int .i64 yf, .int .i64 yt] 61, Blk t #[.int .i64 kd, .int .i64 sz, .int .i64 sl, .int .i64 lt, .int .i64 ag, .int .i64 kk, .int .i64 mk, pv, ov] 137, Row 68 8 pv ms.length (encP.all ms), Row 63 10 ov os.length (encO.all os), Pool H], hV _ _ _ (fun _ h => h) (Fam.st (fun _ h => h.pick [1, 2])) ?_, H5⟩
    intro K hK
    go_simp
    refine hK _ ?_
    clear hK K hV V
    clear H5 h1 hgn w1
    refine script_alone rfl rfl ?_
    intro V hV w1 h1
    go_simp
    have h1a := h1.pick [3, 0, 1, 2, 4, 5]
    have h1b : St S w w1 [Row 68 8 pv ms.length (encP.all ms), Blk gn (pnC NP) 68, Blk xb #[.string ⟨yk.toArray⟩, .int .i64 yf, .int .i64 yt] 61, Blk t #[.int .i64 kd, .int .i64 sz, .int .i64 sl, .int .i64 lt, .int .i64 ag, .int .i64 kk, .int .i64 mk, pv, ov] 137, Row 63 10 ov os.length (encO.all os), Pool H] := by rw [hpmh.out]; exact h1a
    clear h1a
    obtain ⟨S1, K1, G1⟩ := St.call (l1 := [_, _]) h1b
    refine (kins.out w1 S1 gn K1).mono ?_
    rintro e w2 ⟨nv, rfl, H5⟩
    have H6 : St S w w2 [Row 68 8 nv (ms.length + 1) (encP.all (ms.take k ++ NP :: ms.drop k)), Blk gn (pnC NP) 68, Blk xb #[.string ⟨yk.toArray⟩, .int .i64 yf, .int .i64 yt] 61, Blk t #[.int .i64 kd, .int .i64 sz, .int .i64 sl, .int .i64 lt, .int .i64 ag, .int .i64 kk, .int .i64 mk, pv, ov] 137, Row 63 10 ov os.length (encO.all os), Pool H] := G1 _ _ H5
    clear h1b K1 G1
    refine ⟨_, rfl, fun w' => St S w w' [Row 68 8 nv (ms.length + 1) (encP.all (ms.take k ++ NP :: ms.drop k)), Blk gn (pnC NP) 68, Blk xb #[.string ⟨yk.toArray⟩, .int .i64 yf, .int .i64 yt] 61, Blk t #[.int .i64 kd, .int .i64 sz, .int .i64 sl, .int .i64 lt, .int .i64 ag, .int .i64 kk, .int .i64 mk, pv, ov] 137, Row 63 10 ov os.length (encO.all os), Pool H], hV _ _ _ (fun _ h => h) (Fam.st (fun _ h => h.pick [2, 3])) ?_, H6⟩
    intro K hK
    go_simp
    refine hK _ ?_
    clear hK K hV V
    clear H6 H5 h1 w1 w2
    iterate 3 first
      | (apply script_pass
         · rfl
         · rfl
         intro K hK
         go_simp
         refine hK _ ?_
         clear hK K)
      | (apply script_step
         · rfl
         · rfl
         · intro I hI w1 h1'
           have h1 := hI.2 _ h1'
           first
             | (go_simp
                first
                  | rfl
                  | exact ⟨rfl, h1'⟩
               )
         intro K hK
         go_simp
         refine hK _ ?_
         clear hK K)
    refine script_nil ?_
    intro w5 H5
    simp only [List.drop_succ_cons, List.drop_zero]
    have f7 := H5.free 3 7 rfl
    have c7 := H5.cell 3 7 rfl rfl
    have nvf := slice_form' (H5.row 0 rfl)
    obtain ⟨na, nc, rfl, -, -⟩ := nvf
    have H6 := (H5.set 3 rfl 7 (.slice na (ms.length + 1) nc)).pool_zero 5 rfl
    go_wp2
    go_ret
    refine ⟨rfl, ?_⟩
    have hlen : (ms.take k ++ NP :: ms.drop k).length = ms.length + 1 := by
      rw [List.length_append, List.length_take, List.length_cons, List.length_drop]
      omega
    refine Stp.mk' (pv := .slice na (ms.length + 1) nc) (ov := ov) (ms := ms.take k ++ NP :: ms.drop k) (os := os) (H := (.slice none 0 0, []) :: H) ?_ rfl ?_ (fun y hy => List.mem_cons_of_mem _ (hooh.out y hy)) ?_
    · rw [hrh.out, List.map_append, List.map_cons, List.map_take, List.map_drop, hNPh.out]
      rfl
    · intro m hm
      rcases List.mem_append.1 hm with hm | hm
      · exact List.mem_cons_of_mem _ (hmoh.out m (List.mem_of_mem_take hm))
      · rcases List.mem_cons.1 hm with rfl | hm
        · rw [hNPh.out]
          exact List.mem_cons_self
        · exact List.mem_cons_of_mem _ (hmoh.out m (List.mem_of_mem_drop hm))
    · rw [hqqh.out, hlen]
      exact H6.pick [3, 0, 4, 5]

end Go.Proofs.YtiglgfonhdfpmaaGreat
