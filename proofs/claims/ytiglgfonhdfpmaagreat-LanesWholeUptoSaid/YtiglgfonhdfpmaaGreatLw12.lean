import Derived.Test.YtiglgfonhdfpmaaGreatLw1
import Derived.Test.YtiglgfonhdfpmaaGreatLw2
import Derived.Test.YtiglgfonhdfpmaaGreatLw3
import Derived.Test.YtiglgfonhdfpmaaGreatLw4
import Derived.Test.YtiglgfonhdfpmaaGreatLw7
import Derived.Test.YtiglgfonhdfpmaaGreatLw11
import Derived.Deep.CutBlock
import Derived.Lib.ItoaNum
import Derived.Lib.AtoiAll
import Derived.Lib.Split
import Derived.Lib.SplitLaws
import Derived.Lib.IndexLaws
import Derived.Lib.CountLaws
import Derived.Lib.QuietBelow
import Derived.Shelf.SlSortCmp.Whole1
/- The stepper's event. Conditions: the state is right, the item a right event. (Printed by a program of mine.) -/
set_option linter.unusedVariables false
set_option linter.unusedSimpArgs false
namespace Go.Proofs.YtiglgfonhdfpmaaGreat
open Go.RowKit

/-- What an event leads to. -/
def EvOk (t : Nat) (q : Qry) (mk : Int) (x : Itm) (S : Nat → Prop) (w : World) (r : Option EvS) (e : Ending) (w' : World) : Prop :=
  match r with
  | none => e = .returned (.int .i64 20) ∧ St S w w' []
  | some y => if 256 < y.panes.length then e = .returned (.int .i64 30) ∧ St S w w' [] else e = .returned (.int .i64 0) ∧ St S w w' [Stp t q mk y.panes (if y.taken = true then y.outs else y.outs ++ [lateO x])]
theorem outs_put {q : Qry} {mk : Int} {x : Wd} {g : Ag} {r v : Int} {y : Pn × List Ot} (h : putM q mk x g r v = some y) : y.2.length ≤ 1 := by
  unfold putM at h
  split at h
  · cases h
  · split at h
    · split at h
      · cases h
      · cases h; simp
    · cases h; simp
theorem outs_lay {q : Qry} {mk : Int} {x : Wd} {old : Wd → Bool} {v : Int} {l : List Pn} {y : List Pn × List Ot} (h : layM q mk x old v l = some y) : y.2.length ≤ 1 := by
  unfold layM at h
  split at h
  · cases h
  · split at h
    · cases h
    · rename_i hp
      cases h
      exact outs_put hp

set_option maxHeartbeats 8000000 in
set_option maxRecDepth 100000 in
theorem event_sess {t : Nat} {q : Qry} {mk : Int} {l : List Pn} {o : List Ot} {key : List UInt8} {tm v : Int} {w : World} {S : Nat → Prop} (hs : Stt.right q ⟨mk, l⟩ = true) (hk3 : q.kind = 3) (hkey : nameB key = true) (htm : 0 ≤ tm ∧ tm ≤ 1099511627776) (hv : valB v = true) (hol : o.length ≤ 1073741823)
    (H0 : Sep w [Stp t q mk l o] S) :
    Calls Tryz.prog 73 #[.pointer (some ⟨t, 0, none⟩), itmV ⟨1, key, tm, v⟩] w fun e w' => EvOk t q mk ⟨1, key, tm, v⟩ S w (laysM q mk v (winsOf q key tm) ⟨l, o, false⟩) e w' := by
  have ks := fun w' S' (h : Sep w' [Stp t q mk l o] S') => step_session hs hk3 hkey htm hv (by omega) h
  obtain ⟨hq, -, -, -, -, -⟩ := right_parts hs
  have hofs : winsOf q key tm = [⟨key, tm, tm + q.size⟩] := by
    unfold winsOf
    rw [if_pos ⟨hq, hkey, htm⟩, if_pos hk3]
  have hres : laysM q mk v (winsOf q key tm) ⟨l, o, false⟩ = if (becOf (l.map (·.w)) ⟨key, tm, tm + q.size⟩).gone q mk = true then some ⟨l, o, false⟩ else match layM q mk (becOf (l.map (·.w)) ⟨key, tm, tm + q.size⟩) (fun y => y.joins ⟨key, tm, tm + q.size⟩) v l with
      | none => none
      | some y => some ⟨y.1, o ++ y.2, true⟩ := by
    have hb : becM q l ⟨key, tm, tm + q.size⟩ = becOf (l.map (·.w)) ⟨key, tm, tm + q.size⟩ := by unfold becM; rw [if_pos hk3]
    have ho : oldM q ⟨key, tm, tm + q.size⟩ = fun y => y.joins ⟨key, tm, tm + q.size⟩ := by funext y; unfold oldM; rw [if_pos hk3]
    rw [hofs]
    unfold laysM
    simp only
    rw [hb, ho]
    split
    · unfold laysM; rfl
    · cases layM q mk (becOf (l.map (·.w)) ⟨key, tm, tm + q.size⟩) (fun y => y.joins ⟨key, tm, tm + q.size⟩) v l <;> rfl
  obtain ⟨res, hr⟩ : ∃ z, laysM q mk v (winsOf q key tm) ⟨l, o, false⟩ = z := ⟨_, rfl⟩
  rw [hr] at hres ⊢
  clear hr hofs hs hq hkey
  have hlay := fun y => outs_lay (q := q) (mk := mk) (x := becOf (l.map (·.w)) ⟨key, tm, tm + q.size⟩) (old := fun y => y.joins ⟨key, tm, tm + q.size⟩) (v := v) (l := l) (y := y)
  unfold SessOk at ks
  obtain ⟨gn, hgn⟩ : ∃ z, (becOf (l.map (·.w)) ⟨key, tm, tm + q.size⟩).gone q mk = z := ⟨_, rfl⟩
  obtain ⟨LY, hLY⟩ : ∃ z, layM q mk (becOf (l.map (·.w)) ⟨key, tm, tm + q.size⟩) (fun y => y.joins ⟨key, tm, tm + q.size⟩) v l = z := ⟨_, rfl⟩
  simp only [hgn, hLY] at ks hres hlay
  clear hgn hLY
  have hlayh := Lib.hid hlay
  have hresh0 := Lib.hid hres
  clear hres hlay
  have hkind : ∀ pv ov, stC q mk pv ov = #[.int .i64 3, .int .i64 q.size, .int .i64 q.slide, .int .i64 q.late, .int .i64 q.agg, .int .i64 q.k, .int .i64 mk, pv, ov] := fun pv ov => by unfold stC; rw [hk3]
  obtain ⟨qq, hqq⟩ : ∃ z, z = q := ⟨_, rfl⟩
  have hqqh0 := Lib.hid hqq
  rw [← hqq] at ks H0 ⊢
  clear hqq
  obtain ⟨kd, sz, sl, lt, ag, kk⟩ := q
  simp only at hk3 hkind
  subst hk3
  have hqqh := hqqh0
  clear hqqh0
  unfold itmV textV at ks
  unfold itmV textV
  simp only at ks ⊢
  have H1 := St.refl H0
  clear H0
  have H2 : St S w _ (_ :: _) := H1.allocAt rfl #[.int .i64 1, .string ⟨key.toArray⟩, .int .i64 tm, .int .i64 v] 56
  obtain ⟨ib, hib⟩ : ∃ b, w.heap.size = b := ⟨_, rfl⟩
  obtain ⟨w1, hw1⟩ : ∃ w1, w.alloc (.cells #[.int .i64 1, .string ⟨key.toArray⟩, .int .i64 tm, .int .i64 v] 56) = w1 := ⟨_, rfl⟩
  go_enter Tryz.func73, Tryz.ntmps73
  go_upto_region 2 with (fail)
  rw [hw1, hib] at H2
  try rw [hw1]
  try simp only [hib]
  have H3 : St S w w1 [Stp t qq mk l o, Blk ib #[.int .i64 1, .string ⟨key.toArray⟩, .int .i64 tm, .int .i64 v] 56] := H2.pick [1, 0]
  have hibh := Lib.hid hib
  clear hw1 hib H1 H2
  obtain ⟨pv0, ov0, ms0, os0, HH0, -, -, -, -, HO0⟩ := Stp.open H3
  rw [hqqh.out] at HO0
  have d0 : w1.cell? ⟨t, 0, none⟩ = some (.int .i64 3) := HO0.cell 0 0 rfl rfl
  clear HO0
  have i0 := H3.cell 1 0 rfl rfl
  have i1 := H3.cell 1 1 rfl rfl
  have i2 := H3.cell 1 2 rfl rfl
  have i3 := H3.cell 1 3 rfl rfl
  obtain ⟨S1, K1, G1⟩ := St.call (l1 := [_]) (l2 := [_]) H3
  have ks1 := ks w1 S1 K1
  clear ks K1
  cases gn with
  | true =>
    have hresh := Lib.hid (show res = some ⟨l, o, false⟩ by rw [hresh0.out, if_pos rfl])
    clear hresh0 hlayh
    simp only [if_true] at ks1
    go_upto_region 16 with (go_at_call 137; go_must (refine ks1.mono ?_; rintro e w3 ⟨rfl, H6⟩))
    have H7 : St S w w3 [Stp t qq mk l o, Blk ib #[.int .i64 1, .string ⟨key.toArray⟩, .int .i64 tm, .int .i64 v] 56] := G1 _ _ H6
    clear H6 G1 ks1 H3 d0 i0 i1 i2 i3
    obtain ⟨pv, ov, ms, os, HH, hml, hol2, hmo, hoo, HO⟩ := Stp.open H7
    have hmlh := Lib.hid hml
    have hol2h := Lib.hid hol2
    have hmoh := Lib.hid hmo
    have hooh := Lib.hid hoo
    have hosb : os.length ≤ 1073741824 := by
      have : os.length = o.length := by rw [← hol2, List.length_map]
      omega
    have hmsb : ms.length = l.length := by rw [← hml, List.length_map]
    have hmsbh := Lib.hid hmsb
    obtain ⟨pa, pc, rfl, hpc, hpa⟩ := slice_form' (HO.row 1 rfl)
    rw [hqqh.out] at HO
    have HO : St S w w3 [Blk t #[.int .i64 3, .int .i64 sz, .int .i64 sl, .int .i64 lt, .int .i64 ag, .int .i64 kk, .int .i64 mk, .slice pa ms.length pc, ov] 137, Row 68 8 (.slice pa ms.length pc) ms.length (encP.all ms), Row 63 10 ov os.length (encO.all os), Pool HH, Blk ib #[.int .i64 1, .string ⟨key.toArray⟩, .int .i64 tm, .int .i64 v] 56] := HO
    clear hml hol2 hmo hoo hmsb hpa H7
    go_upto_region 17 with (fail)
    refine wp_script_tail 11 [(0, false), (1, false), (2, false), (3, false), (4, false), (5, false), (6, false), (7, true), (8, true), (9, false), (10, false)] (Fam fun w' => St S w w' [Blk ib #[.int .i64 1, .string ⟨key.toArray⟩, .int .i64 tm, .int .i64 v] 56, Blk t #[.int .i64 3, .int .i64 sz, .int .i64 sl, .int .i64 lt, .int .i64 ag, .int .i64 kk, .int .i64 mk, .slice pa ms.length pc, ov] 137]) (fun w' => St S w w' [Blk ib #[.int .i64 1, .string ⟨key.toArray⟩, .int .i64 tm, .int .i64 v] 56, Blk t #[.int .i64 3, .int .i64 sz, .int .i64 sl, .int .i64 lt, .int .i64 ag, .int .i64 kk, .int .i64 mk, .slice pa ms.length pc, ov] 137, Row 68 8 (.slice pa ms.length pc) ms.length (encP.all ms), Row 63 10 ov os.length (encO.all os), Pool HH]) (by kernel_rfl) (by rfl) (by kernel_rfl) (by kernel_rfl) (HO.pick [4, 0, 1, 2, 3]).drew (Fam.st (fun _ h => h.pick [0, 1])) ?_
    iterate 7 first
      | (apply script_pass
         · rfl
         · rfl
         intro K hK
         go_simp
         refine hK _ ?_
         clear hK K)
      | (apply script_step
         · rfl
         · rfl
         · intro I hI w1 h1'
           have h1 := hI.2 _ h1'
           have i0 := h1.cell 0 0 rfl rfl
           have i1 := h1.cell 0 1 rfl rfl
           have i2 := h1.cell 0 2 rfl rfl
           have i3 := h1.cell 0 3 rfl rfl
           have d8 := h1.cell 1 8 rfl rfl
           first
             | (go_simp
                first
                  | rfl
                  | exact ⟨rfl, h1'⟩
               )
         intro K hK
         go_simp
         refine hK _ ?_
         clear hK K)
    refine script_alone rfl rfl ?_
    intro V hV w1 h1
    go_simp
    obtain ⟨gn, hgn⟩ : ∃ g, w1.heap.size = g := ⟨_, rfl⟩
    have HA : St S w _ [Blk gn #[.bool true, .int .i64 1, .string ⟨key.toArray⟩, .int .i64 tm, .int .i64 v, .string ⟨#[]⟩, .int .i64 0, .int .i64 0, .int .i64 0, .slice none 0 0] 63, Blk ib #[.int .i64 1, .string ⟨key.toArray⟩, .int .i64 tm, .int .i64 v] 56, Blk t #[.int .i64 3, .int .i64 sz, .int .i64 sl, .int .i64 lt, .int .i64 ag, .int .i64 kk, .int .i64 mk, .slice pa ms.length pc, ov] 137, Row 68 8 (.slice pa ms.length pc) ms.length (encP.all ms), Row 63 10 ov os.length (encO.all os), Pool HH] := h1.allocAt hgn #[.bool true, .int .i64 1, .string ⟨key.toArray⟩, .int .i64 tm, .int .i64 v, .string ⟨#[]⟩, .int .i64 0, .int .i64 0, .int .i64 0, .slice none 0 0] 63
    simp only [hgn]
    refine ⟨fun w' => St S w w' [Blk gn #[.bool true, .int .i64 1, .string ⟨key.toArray⟩, .int .i64 tm, .int .i64 v, .string ⟨#[]⟩, .int .i64 0, .int .i64 0, .int .i64 0, .slice none 0 0] 63, Blk ib #[.int .i64 1, .string ⟨key.toArray⟩, .int .i64 tm, .int .i64 v] 56, Blk t #[.int .i64 3, .int .i64 sz, .int .i64 sl, .int .i64 lt, .int .i64 ag, .int .i64 kk, .int .i64 mk, .slice pa ms.length pc, ov] 137, Row 68 8 (.slice pa ms.length pc) ms.length (encP.all ms), Row 63 10 ov os.length (encO.all os), Pool HH], hV _ _ _ (fun _ h => h) (Fam.st (fun _ h => h.pick [1, 2])) ?_, HA⟩
    intro K hK
    go_simp
    refine hK _ ?_
    clear hK K hV V
    clear HA h1 hgn w1
    refine script_alone rfl rfl ?_
    intro V hV w1 h1
    have HA : St S w w1 (Row 63 10 ov os.length (encO.all os) :: [Blk gn #[.bool true, .int .i64 1, .string ⟨key.toArray⟩, .int .i64 tm, .int .i64 v, .string ⟨#[]⟩, .int .i64 0, .int .i64 0, .int .i64 0, .slice none 0 0] 63, Blk ib #[.int .i64 1, .string ⟨key.toArray⟩, .int .i64 tm, .int .i64 v] 56, Blk t #[.int .i64 3, .int .i64 sz, .int .i64 sl, .int .i64 lt, .int .i64 ag, .int .i64 kk, .int .i64 mk, .slice pa ms.length pc, ov] 137, Row 68 8 (.slice pa ms.length pc) ms.length (encP.all ms), Pool HH]) := h1.pick [4, 0, 1, 2, 3, 5]
    have hnw := World.news_of_block (h1.blk 0 rfl)
    refine St.came_row HA (.tmp 69) (.tmp 72) 46 rfl Tryz.underlying46 Tryz.info63 (by decide) rfl #[.bool true, .int .i64 1, .string ⟨key.toArray⟩, .int .i64 tm, .int .i64 v, .string ⟨#[]⟩, .int .i64 0, .int .i64 0, .int .i64 0, .slice none 0 0].toList rfl rfl (by intro h; cases h) (fun ad e => by cases e; exact hnw) (by simp [Value.oneCell']) (by omega) ?_
    intro v2 w2 HB
    obtain ⟨a2, p2, rfl, -, -⟩ := slice_form' (HB.row 0 rfl)
    refine ⟨fun w' => St S w w' [Row 63 10 (.slice a2 (os.length + 1) p2) (os.length + 1) (encO.all os ++ #[.bool true, .int .i64 1, .string ⟨key.toArray⟩, .int .i64 tm, .int .i64 v, .string ⟨#[]⟩, .int .i64 0, .int .i64 0, .int .i64 0, .slice none 0 0].toList), Blk gn #[.bool true, .int .i64 1, .string ⟨key.toArray⟩, .int .i64 tm, .int .i64 v, .string ⟨#[]⟩, .int .i64 0, .int .i64 0, .int .i64 0, .slice none 0 0] 63, Blk ib #[.int .i64 1, .string ⟨key.toArray⟩, .int .i64 tm, .int .i64 v] 56, Blk t #[.int .i64 3, .int .i64 sz, .int .i64 sl, .int .i64 lt, .int .i64 ag, .int .i64 kk, .int .i64 mk, .slice pa ms.length pc, ov] 137, Row 68 8 (.slice pa ms.length pc) ms.length (encP.all ms), Pool HH], hV _ _ _ (fun _ h => h) (Fam.st (fun _ h => h.pick [2, 3])) ?_, HB⟩
    intro K hK
    go_simp
    refine hK _ ?_
    clear hK K hV V
    clear HB HA hnw h1 w1 w2
    iterate 2 first
      | (apply script_pass
         · rfl
         · rfl
         intro K hK
         go_simp
         refine hK _ ?_
         clear hK K)
      | (apply script_step
         · rfl
         · rfl
         · intro I hI w1 h1'
           have h1 := hI.2 _ h1'
           first
             | (go_simp
                first
                  | rfl
                  | exact ⟨rfl, h1'⟩
               )
         intro K hK
         go_simp
         refine hK _ ?_
         clear hK K)
    refine script_nil ?_
    intro w8 H8
    simp only [List.drop_succ_cons, List.drop_zero]
    have c8 := H8.cell 3 8 rfl rfl
    have f8 := H8.free 3 8 rfl
    have H9 := (H8.set 3 rfl 8 (.slice a2 (os.length + 1) p2)).pool_zero 5 rfl
    go_upto_region 18 with (fail)
    obtain ⟨w9, hw9⟩ : ∃ z, w8.setCell ⟨t, 8, none⟩ (.slice a2 (os.length + 1) p2) = z := ⟨_, rfl⟩
    rw [hw9] at H9
    try rw [hw9]
    clear hw9 c8 f8 H8 HO
    have HF : St S w w9 [Blk t #[.int .i64 3, .int .i64 sz, .int .i64 sl, .int .i64 lt, .int .i64 ag, .int .i64 kk, .int .i64 mk, .slice pa ms.length pc, .slice a2 (os.length + 1) p2] 137, Row 68 8 (.slice pa ms.length pc) ms.length (encP.all ms), Row 63 10 (.slice a2 (os.length + 1) p2) (os.length + 1) (encO.all os ++ #[.bool true, .int .i64 1, .string ⟨key.toArray⟩, .int .i64 tm, .int .i64 v, .string ⟨#[]⟩, .int .i64 0, .int .i64 0, .int .i64 0, .slice none 0 0].toList), Pool ((.slice none 0 0, []) :: HH)] := H9.pick [3, 4, 0, 5]
    clear H9
    have d7 := HF.cell 0 7 rfl rfl
    by_cases hfull : 256 < l.length
    · have hfull2 : (256 : Int) < (ms.length : Int) := by rw [hmsbh.out]; omega
      go_wp2
      go_ret
      rw [hresh.out]
      unfold EvOk
      simp only
      rw [if_pos hfull]
      exact ⟨rfl, HF.pick []⟩
    · have hfull2 : ¬ (256 : Int) < (ms.length : Int) := by rw [hmsbh.out]; omega
      go_wp2
      go_ret
      rw [hresh.out]
      unfold EvOk
      simp only
      rw [if_neg hfull]
      refine ⟨rfl, ?_⟩
      refine Stp.mk' (ms := ms) (os := os ++ [⟨lateO ⟨1, key, tm, v⟩, none, 0⟩]) (H := (.slice none 0 0, []) :: HH) (pv := .slice pa ms.length pc) (ov := .slice a2 (os.length + 1) p2) hmlh.out (by rw [List.map_append, hol2h.out]; rfl) (fun m hm => List.mem_cons_of_mem _ (hmoh.out m hm)) (fun y hy => by
        rcases List.mem_append.1 hy with hy | hy
        · exact List.mem_cons_of_mem _ (hooh.out y hy)
        · rw [List.mem_singleton.1 hy]; exact List.mem_cons_self) ?_
      rw [hqqh.out, encO.all_app, encO.all_one, List.length_append, List.length_singleton]
      exact HF
  | false =>
    simp only [Bool.false_eq_true, if_false] at ks1
    cases LY with
    | none =>
      have hresh := Lib.hid (show res = none by rw [hresh0.out, if_neg (by simp)])
      simp only at ks1
      go_wp2_with (go_at_call 137; go_must (refine ks1.mono ?_; rintro e w3 ⟨rfl, H6⟩))
      go_ret
      rw [hresh.out]
      exact ⟨rfl, (G1 _ _ H6).pick []⟩
    | some y =>
      have hresh := Lib.hid (show res = some ⟨y.1, o ++ y.2, true⟩ by rw [hresh0.out, if_neg (by simp)])
      have hyl := hlayh.out y rfl
      have hyb : (o ++ y.2).length ≤ 1073741824 := by rw [List.length_append]; omega
      clear hresh0 hlayh hyl
      simp only at ks1
      obtain ⟨L, O1⟩ := y
      simp only at hresh ks1 hyb
      go_upto_region 18 with (go_at_call 137; go_must (refine ks1.mono ?_; rintro e w3 ⟨rfl, H6⟩))
      have H7 : St S w w3 [Stp t qq mk L (o ++ O1), Blk ib #[.int .i64 1, .string ⟨key.toArray⟩, .int .i64 tm, .int .i64 v] 56] := G1 _ _ H6
      clear H6 G1 ks1 H3 d0 i0 i1 i2 i3
      obtain ⟨pv, ov, ms, os, HH, hml, hol2, hmo, hoo, HO⟩ := Stp.open H7
      have hmlh := Lib.hid hml
      have hol2h := Lib.hid hol2
      have hmoh := Lib.hid hmo
      have hooh := Lib.hid hoo
      have hosb : os.length ≤ 1073741824 := by
        have : os.length = (o ++ O1).length := by rw [← hol2, List.length_map]
        omega
      have hmsb : ms.length = L.length := by rw [← hml, List.length_map]
      have hmsbh := Lib.hid hmsb
      obtain ⟨pa, pc, rfl, hpc, hpa⟩ := slice_form' (HO.row 1 rfl)
      rw [hqqh.out] at HO
      have HO : St S w w3 [Blk t #[.int .i64 3, .int .i64 sz, .int .i64 sl, .int .i64 lt, .int .i64 ag, .int .i64 kk, .int .i64 mk, .slice pa ms.length pc, ov] 137, Row 68 8 (.slice pa ms.length pc) ms.length (encP.all ms), Row 63 10 ov os.length (encO.all os), Pool HH, Blk ib #[.int .i64 1, .string ⟨key.toArray⟩, .int .i64 tm, .int .i64 v] 56] := HO
      clear hml hol2 hmo hoo hmsb hpa H7
      have d7 := HO.cell 0 7 rfl rfl
      by_cases hfull : 256 < L.length
      · have hfull2 : (256 : Int) < (ms.length : Int) := by rw [hmsbh.out]; omega
        go_wp2
        go_ret
        rw [hresh.out]
        unfold EvOk
        simp only
        rw [if_pos hfull]
        exact ⟨rfl, HO.pick []⟩
      · have hfull2 : ¬ (256 : Int) < (ms.length : Int) := by rw [hmsbh.out]; omega
        go_wp2
        go_ret
        rw [hresh.out]
        unfold EvOk
        simp only
        rw [if_neg hfull]
        refine ⟨rfl, ?_⟩
        refine Stp.mk' (ms := ms) (os := os) (H := HH) (pv := .slice pa ms.length pc) (ov := ov) hmlh.out hol2h.out hmoh.out hooh.out ?_
        rw [hqqh.out]
        exact HO.pick [0, 1, 2, 3]


theorem lays_cons (q : Qry) (mk v : Int) (own : Wd) (r : List Wd) (s : EvS) : laysM q mk v (own :: r) s = if (becM q s.panes own).gone q mk = true then laysM q mk v r s else match layM q mk (becM q s.panes own) (oldM q own) v s.panes with
      | none => none
      | some y => laysM q mk v r ⟨y.1, s.outs ++ y.2, true⟩ := rfl
/-- Panes that a step may meet on its way. -/
def GoodP (q : Qry) (l : List Pn) : Prop := Ord l ∧ ∀ p ∈ l, p.g.right q = true ∧ (0 ≤ p.round ∧ p.round ≤ 1073741824) ∧ p.w.right = true

set_option maxHeartbeats 8000000 in
set_option maxRecDepth 100000 in
theorem event_wins {t : Nat} {q : Qry} {mk : Int} {l : List Pn} {o : List Ot} {key : List UInt8} {tm v : Int} {w : World} {S : Nat → Prop} (hs : Stt.right q ⟨mk, l⟩ = true) (hk3 : ¬ q.kind = 3) (hkey : nameB key = true) (htm : 0 ≤ tm ∧ tm ≤ 1099511627776) (hv : valB v = true) (hol : o.length ≤ 1073741000)
    (H0 : Sep w [Stp t q mk l o] S) :
    Calls Tryz.prog 73 #[.pointer (some ⟨t, 0, none⟩), itmV ⟨1, key, tm, v⟩] w fun e w' => EvOk t q mk ⟨1, key, tm, v⟩ S w (laysM q mk v (winsOf q key tm) ⟨l, o, false⟩) e w' := by
  obtain ⟨hq, hmk, hlen, hall, hord, -⟩ := right_parts hs
  simp only at hmk hlen hall hord
  have hgood : GoodP q l := ⟨hord, fun p hp => by have := ok_parts (hall p hp); exact ⟨this.2.2.2.2.1, this.2.2.2.1, this.2.1⟩⟩
  have hkl : key.length ≤ 9223372036854775807 := by
    unfold nameB at hkey
    simp only [Bool.and_eq_true, decide_eq_true_eq] at hkey
    omega
  have hwr : ∀ x ∈ winsOf q key tm, x.right = true := fun x hx => (wins_right x hx).1
  have hwl := wins_len q key tm
  have kw := fun w' => wins_of q key tm w' hkl
  have hzr := zero_right hq
  have hbec : ∀ (l : List Pn) own, becM q l own = own := fun l own => by unfold becM; rw [if_neg hk3]
  have hold : ∀ own, oldM q own = fun y => decide (y = own) := fun own => by funext y; unfold oldM; rw [if_neg hk3]
  have hstep : ∀ (own : Wd) (r : List Wd) (s : EvS), laysM q mk v (own :: r) s = if own.gone q mk = true then laysM q mk v r s else match layM q mk own (fun y => decide (y = own)) v s.panes with
      | none => none
      | some y => laysM q mk v r ⟨y.1, s.outs ++ y.2, true⟩ := fun own r s => by rw [lays_cons, hbec, hold]
  have klay := Lib.hid (fun (own : Wd) (L : List Pn) (h : Ord L) => lay_one (q := q) (mk := mk) (v := v) (x := own) h)
  have kopen := Lib.hid (fun (own : Wd) (L : List Pn) (O1 : List Ot) w' S' (h1 : Ord L) (h2 : L.length ≤ 1073741823) (h : Sep w' [Stp t q mk L O1] S') => step_open (x := own) h1 h2 h)
  have kput := Lib.hid (fun (i : Nat) (L : List Pn) (O1 : List Ot) (p : Pn) w' S' (h1 : L[i]? = some p) (h2 : p.g.right q = true) (h3 : 0 ≤ p.round ∧ p.round ≤ 1073741824) (h4 : p.w.fits) (h5 : O1.length ≤ 1073741824) (h6 : L.length ≤ 1073741824) (h : Sep w' [Stp t q mk L O1] S') => step_put (v := v) h1 h2 h3 h4 hv h5 h6 h)
  have kpg := Lib.hid (fun (x : Wd) (g : Ag) (r : Int) (y : Pn × List Ot) (h1 : g.right q = true) (h2 : 0 ≤ r ∧ r ≤ 1073741824) (h3 : putM q mk x g r v = some y) => put_good h1 h2 hv h3)
  have kgone := Lib.hid (fun (x : Wd) (hx : x.right = true) w' => wd_gone q x (fits_right hx) mk w')
  obtain ⟨res, hr⟩ : ∃ z, laysM q mk v (winsOf q key tm) ⟨l, o, false⟩ = z := ⟨_, rfl⟩
  rw [hr]
  obtain ⟨ws, hws⟩ : ∃ z, winsOf q key tm = z := ⟨_, rfl⟩
  rw [hws] at hr hwr hwl
  simp only [hws] at kw
  have hrh := Lib.hid hr
  have hwrh := Lib.hid hwr
  have hsteph := Lib.hid hstep
  have hgoodh := Lib.hid hgood
  have hzrh := Lib.hid hzr
  clear hr hwr hstep hgood hzr hbec hold hws hs hq hall hord hkey
  obtain ⟨qq, hqq⟩ : ∃ z, z = q := ⟨_, rfl⟩
  have hqqh := Lib.hid hqq
  have hqsame : ∀ e w', EvOk t qq mk ⟨1, key, tm, v⟩ S w res e w' → EvOk t q mk ⟨1, key, tm, v⟩ S w res e w' := fun e w' h => by rw [← hqq]; exact h
  rw [← hqq] at H0 hrh hsteph hgoodh hzrh klay kopen kput kpg ⊢
  clear hqq hqsame
  obtain ⟨kd, sz, sl, lt, ag, kk⟩ := q
  simp only at hk3
  have hk3' : (kd == 3) = false := by simpa using hk3
  unfold qyV qyC textV at kw
  unfold itmV textV
  simp only at kw ⊢
  have H1 := St.refl H0
  clear H0
  have H2 : St S w _ (_ :: _) := H1.allocAt rfl #[.int .i64 1, .string ⟨key.toArray⟩, .int .i64 tm, .int .i64 v] 56
  obtain ⟨ib, hib⟩ : ∃ b, w.heap.size = b := ⟨_, rfl⟩
  obtain ⟨w1, hw1⟩ : ∃ w1, w.alloc (.cells #[.int .i64 1, .string ⟨key.toArray⟩, .int .i64 tm, .int .i64 v] 56) = w1 := ⟨_, rfl⟩
  go_enter Tryz.func73, Tryz.ntmps73
  go_upto_region 2 with (fail)
  rw [hw1, hib] at H2
  try rw [hw1]
  try simp only [hib]
  have H3 : St S w w1 [Stp t qq mk l o, Blk ib #[.int .i64 1, .string ⟨key.toArray⟩, .int .i64 tm, .int .i64 v] 56] := H2.pick [1, 0]
  have hibh := Lib.hid hib
  clear hw1 hib H1 H2
  obtain ⟨pv, ov, ms, os, HH, hml0, hol20, hmo0, hoo0, HO⟩ := Stp.open H3
  rw [hqqh.out] at HO
  have HO : St S w w1 [Blk t #[.int .i64 kd, .int .i64 sz, .int .i64 sl, .int .i64 lt, .int .i64 ag, .int .i64 kk, .int .i64 mk, pv, ov] 137, Row 68 8 pv ms.length (encP.all ms), Row 63 10 ov os.length (encO.all os), Pool HH, Blk ib #[.int .i64 1, .string ⟨key.toArray⟩, .int .i64 tm, .int .i64 v] 56] := HO
  have d0 := HO.cell 0 0 rfl rfl
  go_upto_region 7 with (fail)
  clear d0 H3
  refine wp_script [(0, false), (1, false), (2, false), (3, false), (4, false), (5, false), (6, false), (7, false), (10, false), (8, true), (9, false)] (Fam fun w' => St S w w' [Blk ib #[.int .i64 1, .string ⟨key.toArray⟩, .int .i64 tm, .int .i64 v] 56, Blk t #[.int .i64 kd, .int .i64 sz, .int .i64 sl, .int .i64 lt, .int .i64 ag, .int .i64 kk, .int .i64 mk, pv, ov] 137]) (fun w' => St S w w' [Blk t #[.int .i64 kd, .int .i64 sz, .int .i64 sl, .int .i64 lt, .int .i64 ag, .int .i64 kk, .int .i64 mk, pv, ov] 137, Row 68 8 pv ms.length (encP.all ms), Row 63 10 ov os.length (encO.all os), Pool HH, Blk ib #[.int .i64 1, .string ⟨key.toArray⟩, .int .i64 tm, .int .i64 v] 56]) (by kernel_rfl) (by rfl) (by kernel_rfl) (by kernel_rfl) HO.drew (Fam.st (fun _ h => h.pick [4, 0])) ?_
  iterate 9 first
    | (apply script_pass
       · rfl
       · rfl
       intro K hK
       go_simp
       refine hK _ ?_
       clear hK K)
    | (apply script_step
       · rfl
       · rfl
       · intro I hI w1 h1'
         have h1 := hI.2 _ h1'
         have i1 := h1.cell 0 1 rfl rfl
         have i2 := h1.cell 0 2 rfl rfl
         have d0 := h1.cell 1 0 rfl rfl
         have d1 := h1.cell 1 1 rfl rfl
         have d2 := h1.cell 1 2 rfl rfl
         have d3 := h1.cell 1 3 rfl rfl
         have d4 := h1.cell 1 4 rfl rfl
         have d5 := h1.cell 1 5 rfl rfl
         first
           | (go_simp
              first
                | rfl
                | exact ⟨rfl, h1'⟩
             )
       intro K hK
       go_simp
       refine hK _ ?_
       clear hK K)
  refine script_alone rfl rfl ?_
  intro V hV w1 h1
  go_simp
  refine (kw w1).mono ?_
  rintro e w2 ⟨hw0, rfl, G1⟩
  obtain ⟨wa, wc, rfl, -, hwa⟩ := slice_form' (G1.row 0 rfl)
  have HA : St S w w2 [Row 61 3 (.slice wa ws.length wc) ws.length (wds ws), Blk t #[.int .i64 kd, .int .i64 sz, .int .i64 sl, .int .i64 lt, .int .i64 ag, .int .i64 kk, .int .i64 mk, pv, ov] 137, Row 68 8 pv ms.length (encP.all ms), Row 63 10 ov os.length (encO.all os), Pool HH, Blk ib #[.int .i64 1, .string ⟨key.toArray⟩, .int .i64 tm, .int .i64 v] 56] := h1.call0 G1
  refine ⟨_, rfl, fun w' => St S w w' [Row 61 3 (.slice wa ws.length wc) ws.length (wds ws), Blk t #[.int .i64 kd, .int .i64 sz, .int .i64 sl, .int .i64 lt, .int .i64 ag, .int .i64 kk, .int .i64 mk, pv, ov] 137, Row 68 8 pv ms.length (encP.all ms), Row 63 10 ov os.length (encO.all os), Pool HH, Blk ib #[.int .i64 1, .string ⟨key.toArray⟩, .int .i64 tm, .int .i64 v] 56], hV _ _ _ (fun _ h => h) (Fam.st (fun _ h => h.pick [5, 1])) ?_, HA⟩
  intro K hK
  go_simp
  refine hK _ ?_
  clear hK K hV V
  clear HA h1 G1 w1 w2
  iterate 1 first
    | (apply script_pass
       · rfl
       · rfl
       intro K hK
       go_simp
       refine hK _ ?_
       clear hK K)
    | (apply script_step
       · rfl
       · rfl
       · intro I hI w1 h1'
         have h1 := hI.2 _ h1'
         first
           | (go_simp
              first
                | rfl
                | exact ⟨rfl, h1'⟩
             )
       intro K hK
       go_simp
       refine hK _ ?_
       clear hK K)
  refine script_nil ?_
  intro w3 H4
  have hwah := Lib.hid (by assumption : ws.length ≠ 0 → ∃ g, wa = some ⟨g, 0, none⟩)
  have H5 : St S w w3 [Blk t (stC qq mk pv ov) 137, Row 68 8 pv ms.length (encP.all ms), Row 63 10 ov os.length (encO.all os), Pool HH, Blk ib #[.int .i64 1, .string ⟨key.toArray⟩, .int .i64 tm, .int .i64 v] 56, Row 61 3 (.slice wa ws.length wc) ws.length (wds ws)] := by rw [hqqh.out]; exact H4.pick [1, 2, 3, 4, 5, 0]
  have H6 := Stp.mk' hml0 hol20 hmo0 hoo0 H5
  clear hml0 hol20 hmo0 hoo0 H4 H5 HO kw hwa
  go_upto_block 1 with (fail)
  go_loopw [5, 9, 10, 37] (fun tk _ _ j wr => ∃ (i : Nat) (L : List Pn) (O1 : List Ot) (b : Bool), i ≤ ws.length ∧ j = .int .i64 i ∧ tk = .bool b ∧ Hid (laysM qq mk v ws ⟨l, o, false⟩ = laysM qq mk v (ws.drop i) ⟨L, O1, b⟩) ∧ Hid (GoodP qq L) ∧ L.length ≤ 256 + i ∧ O1.length ≤ o.length + i ∧ St S w wr [Stp t qq mk L O1, Blk ib #[.int .i64 1, .string ⟨key.toArray⟩, .int .i64 tm, .int .i64 v] 56, Row 61 3 (.slice wa ws.length wc) ws.length (wds ws)]) (fun _ _ _ j _ => ws.length - (intOf j).toNat)
  case atStart => exact ⟨0, l, o, false, by omega, rfl, rfl, Lib.hid rfl, hgoodh, by omega, by omega, H6⟩
  case round =>
    clear H6 hgoodh
    obtain ⟨i, L, O1, b, hi, rfl, rfl, hlays, hgood, hLl, hOl, HM⟩ := hrel
    by_cases hlt : i < ws.length
    · obtain ⟨gw, rfl⟩ := hwah.out (by omega)
      obtain ⟨own, hown⟩ : ∃ x, ws[i]? = some x := ⟨_, List.getElem?_eq_getElem hlt⟩
      have hor := hwrh.out own (List.mem_of_getElem? hown)
      obtain ⟨q0, q1, q2⟩ := row_wds (HM.row 2 rfl) hown
      have hdrop := drop_cons_of hown
      have hnext := hlays.out
      rw [hdrop, hsteph.out] at hnext
      have kg := fun w' => kgone.out own hor w'
      obtain ⟨gn, hgn⟩ : ∃ z, own.gone qq mk = z := ⟨_, rfl⟩
      rw [← hqqh.out] at kg
      simp only [hgn] at kg hnext
      rw [hqqh.out] at kg
      have hnexth := Lib.hid hnext
      have hforh := Lib.hid hor
      have kl := klay.out own L hgood.out.1
      have klh := Lib.hid kl
      have ko := Lib.hid (fun w' S' (h : Sep w' [Stp t qq mk L O1] S') => kopen.out own L O1 w' S' hgood.out.1 (by omega) h)
      have hi2 : (i : Int) < (ws.length : Int) := by omega
      clear hnext hdrop hown hgn hor kl
      obtain ⟨ow, how⟩ : ∃ z, z = own := ⟨_, rfl⟩
      have howh := Lib.hid how
      rw [← how] at klh ko hforh hnexth
      clear how
      obtain ⟨yk, yf, yt⟩ := own
      unfold qyV qyC wdV wdC textV at kg
      unfold textV at q0
      simp only at kg q0 q1 q2
      have HA : St S w _ (_ :: _) := HM.allocAt rfl #[.string ⟨yk.toArray⟩, .int .i64 yf, .int .i64 yt] 61
      go_upto_region 10 with (fail)
      obtain ⟨wb, hwb⟩ : ∃ wb, wr.alloc (.cells #[.string ⟨yk.toArray⟩, .int .i64 yf, .int .i64 yt] 61) = wb := ⟨_, rfl⟩
      obtain ⟨ob, hob⟩ : ∃ ob, wr.heap.size = ob := ⟨_, rfl⟩
      rw [hwb, hob] at HA
      try rw [hwb]
      try simp only [hob]
      have HA2 : St S w wb [Stp t qq mk L O1, Blk ob #[.string ⟨yk.toArray⟩, .int .i64 yf, .int .i64 yt] 61, Blk ib #[.int .i64 1, .string ⟨key.toArray⟩, .int .i64 tm, .int .i64 v] 56, Row 61 3 (.slice (some ⟨gw, 0, none⟩) ws.length wc) ws.length (wds ws)] := HA.pick [1, 0, 2, 3]
      clear hwb hob q0 q1 q2 HM HA
      obtain ⟨pv, ov, ms, os, HH, hml, hol2, hmo, hoo, HB⟩ := Stp.open HA2
      rw [hqqh.out] at HB
      have HB : St S w wb [Blk t #[.int .i64 kd, .int .i64 sz, .int .i64 sl, .int .i64 lt, .int .i64 ag, .int .i64 kk, .int .i64 mk, pv, ov] 137, Row 68 8 pv ms.length (encP.all ms), Row 63 10 ov os.length (encO.all os), Pool HH, Blk ob #[.string ⟨yk.toArray⟩, .int .i64 yf, .int .i64 yt] 61, Blk ib #[.int .i64 1, .string ⟨key.toArray⟩, .int .i64 tm, .int .i64 v] 56, Row 61 3 (.slice (some ⟨gw, 0, none⟩) ws.length wc) ws.length (wds ws)] := HB
      have hmlh := Lib.hid hml
      have hol2h := Lib.hid hol2
      have hmoh := Lib.hid hmo
      have hooh := Lib.hid hoo
      clear hml hol2 hmo hoo HA2
      refine wp_calm (fun w' => St S w w' [Blk t #[.int .i64 kd, .int .i64 sz, .int .i64 sl, .int .i64 lt, .int .i64 ag, .int .i64 kk, .int .i64 mk, pv, ov] 137, Row 68 8 pv ms.length (encP.all ms), Row 63 10 ov os.length (encO.all os), Pool HH, Blk ob #[.string ⟨yk.toArray⟩, .int .i64 yf, .int .i64 yt] 61, Blk ib #[.int .i64 1, .string ⟨key.toArray⟩, .int .i64 tm, .int .i64 v] 56, Row 61 3 (.slice (some ⟨gw, 0, none⟩) ws.length wc) ws.length (wds ws)]) (by kernel_rfl) (by kernel_rfl) (HB.drew) ?_
      iterate 11 first
        | (apply calm_pass
           · rfl
           intro K hK
           go_simp
           refine hK _ ?_
           clear hK K)
        | (apply calm_step
           · rfl
           · intro w1 h1
             have d0 := h1.cell 0 0 rfl rfl
             have d1 := h1.cell 0 1 rfl rfl
             have d2 := h1.cell 0 2 rfl rfl
             have d3 := h1.cell 0 3 rfl rfl
             have d4 := h1.cell 0 4 rfl rfl
             have d5 := h1.cell 0 5 rfl rfl
             have d6 := h1.cell 0 6 rfl rfl
             have o0 := h1.cell 4 0 rfl rfl
             have o1 := h1.cell 4 1 rfl rfl
             have o2 := h1.cell 4 2 rfl rfl
             first
               | (go_simp
                  first
                    | rfl
                    | exact ⟨rfl, h1⟩
                    | (go_at_call 136; with_reducible exact St.callPast (kg w1) h1)
                 )
           intro K hK
           go_simp
           refine hK _ ?_
           clear hK K)
      refine calm_nil ?_
      intro w5 H5
      have H5b : St S w w5 [Blk t (stC qq mk pv ov) 137, Row 68 8 pv ms.length (encP.all ms), Row 63 10 ov os.length (encO.all os), Pool HH, Blk ob #[.string ⟨yk.toArray⟩, .int .i64 yf, .int .i64 yt] 61, Blk ib #[.int .i64 1, .string ⟨key.toArray⟩, .int .i64 tm, .int .i64 v] 56, Row 61 3 (.slice (some ⟨gw, 0, none⟩) ws.length wc) ws.length (wds ws)] := by rw [hqqh.out]; exact H5
      have H6 := Stp.mk' hmlh.out hol2h.out hmoh.out hooh.out H5b
      clear HB H5 H5b kg
      cases gn with
      | true =>
        go_wp2
        go_roundw
        case rel =>
          have hn := hnexth.out
          simp only [if_true] at hn
          exact ⟨i + 1, L, O1, b, by omega, by go_num, rfl, Lib.hid hn, hgood, by omega, by omega, H6.pick [0, 2, 3]⟩
        case measure => simp [intOf]; omega
      | false =>
        have hn := hnexth.out
        simp only [Bool.false_eq_true, if_false] at hn
        obtain ⟨p0, hp1, hp2, hp3, hp4, hp5, hp6, hp7⟩ := klh.out
        rw [hp7] at hn
        have hpg : p0.g.right qq = true ∧ (0 ≤ p0.round ∧ p0.round ≤ 1073741824) := by
          rcases hp3 with h | rfl
          · exact ⟨(hgood.out.2 p0 h).1, (hgood.out.2 p0 h).2.1⟩
          · exact ⟨hzrh.out, Int.le_refl 0, (by decide : (0 : Int) ≤ 1073741824)⟩
        have hpf : p0.w.fits := by rw [hp2]; exact fits_right hforh.out
        have kp := Lib.hid (fun w' S' (h : Sep w' [Stp t qq mk (openM L ow) O1] S') => kput.out (placeP L ow) (openM L ow) O1 p0 w' S' hp1 hpg.1 hpg.2 hpf (by omega) (by omega) h)
        rw [hp2] at kp
        have hgood2 : GoodP qq (openM L ow) := ⟨hp4, fun y hy => by
          rcases hp5 y hy with h | rfl
          · exact hgood.out.2 y h
          · exact ⟨hzrh.out, ⟨Int.le_refl 0, (by decide : (0 : Int) ≤ 1073741824)⟩, hforh.out⟩⟩
        obtain ⟨PR, hPR⟩ : ∃ z, putM qq mk ow p0.g p0.round v = z := ⟨_, rfl⟩
        simp only [hPR] at hn kp
        have hpgo := fun y (h : PR = some y) => kpg.out ow p0.g p0.round y hpg.1 hpg.2 (hPR.trans h)
        have hpw := fun y (h : PR = some y) => put_w (hPR.trans h)
        have hsetg : ∀ y, PR = some y → GoodP qq ((openM L ow).set (placeP L ow) y.1) := fun y hy => by
          obtain ⟨g1, g2, -⟩ := hpgo y hy
          refine ⟨ord_set hp4 hp1 (by rw [hpw y hy, hp2]), fun z hz => ?_⟩
          rcases List.mem_or_eq_of_mem_set hz with h1 | rfl
          · exact hgood2.2 z h1
          · exact ⟨g1, g2, by rw [hpw y hy]; exact hforh.out⟩
        have hpgoh := Lib.hid (fun y (h : PR = some y) => (hpgo y h).2.2)
        have hsetgh := Lib.hid hsetg
        have hnh := Lib.hid hn
        clear hPR hpgo hpw hsetg hn hp1 hp2 hp3 hp4 hp5 hp7 hpg hpf hgood2 klh
        unfold PutOk at kp
        have hLo : (openM L ow).length ≤ L.length + 1 := hp6
        clear hp6
        rw [howh.out] at ko
        unfold wdV wdC textV at ko
        simp only at ko
        have H7 : St S w w5 [Blk ob #[.string ⟨yk.toArray⟩, .int .i64 yf, .int .i64 yt] 61, Blk ib #[.int .i64 1, .string ⟨key.toArray⟩, .int .i64 tm, .int .i64 v] 56, Stp t qq mk L O1, Row 61 3 (.slice (some ⟨gw, 0, none⟩) ws.length wc) ws.length (wds ws)] := H6.pick [1, 2, 0, 3]
        clear H6
        cases PR with
        | none =>
          have hresn : res = none := by rw [← hrh.out]; exact hnh.out
          have hresh := Lib.hid hresn
          clear hresn hnh hrh
          simp only at kp
          go_upto_region 12 with (fail)
          refine wp_script [(0, false), (1, false), (2, false), (4, false), (5, false), (3, true), (6, true), (7, false)] (Fam fun w' => St S w w' [Blk ob #[.string ⟨yk.toArray⟩, .int .i64 yf, .int .i64 yt] 61, Blk ib #[.int .i64 1, .string ⟨key.toArray⟩, .int .i64 tm, .int .i64 v] 56]) (fun w' => St S w w' [Blk ob #[.string ⟨yk.toArray⟩, .int .i64 yf, .int .i64 yt] 61, Blk ib #[.int .i64 1, .string ⟨key.toArray⟩, .int .i64 tm, .int .i64 v] 56, Stp t qq mk L O1, Row 61 3 (.slice (some ⟨gw, 0, none⟩) ws.length wc) ws.length (wds ws)]) (by kernel_rfl) (by rfl) (by kernel_rfl) (by kernel_rfl) H7.drew (Fam.st (fun _ h => h.pick [0, 1])) ?_
          iterate 5 first
            | (apply script_pass
               · rfl
               · rfl
               intro K hK
               go_simp
               refine hK _ ?_
               clear hK K)
            | (apply script_step
               · rfl
               · rfl
               · intro I hI w1 h1'
                 have h1 := hI.2 _ h1'
                 have o0 := h1.cell 0 0 rfl rfl
                 have o1 := h1.cell 0 1 rfl rfl
                 have o2 := h1.cell 0 2 rfl rfl
                 have i3 := h1.cell 1 3 rfl rfl
                 first
                   | (go_simp
                      first
                        | rfl
                        | exact ⟨rfl, h1'⟩
                     )
               intro K hK
               go_simp
               refine hK _ ?_
               clear hK K)
          refine script_alone rfl rfl ?_
          intro V hV w1 h1
          go_simp
          obtain ⟨S1, K1, G1⟩ := St.call (l1 := [_]) (l2 := [_, _, _]) (h1.pick [2, 0, 1, 3])
          refine (ko.out w1 S1 K1).mono ?_
          rintro e w2 ⟨rfl, G2⟩
          have HC : St S w w2 [Stp t qq mk (openM L ow) O1, Blk ob #[.string ⟨yk.toArray⟩, .int .i64 yf, .int .i64 yt] 61, Blk ib #[.int .i64 1, .string ⟨key.toArray⟩, .int .i64 tm, .int .i64 v] 56, Row 61 3 (.slice (some ⟨gw, 0, none⟩) ws.length wc) ws.length (wds ws)] := by rw [howh.out]; exact G1 _ _ G2
          rw [← howh.out]
          refine ⟨_, rfl, fun w' => St S w w' [Stp t qq mk (openM L ow) O1, Blk ob #[.string ⟨yk.toArray⟩, .int .i64 yf, .int .i64 yt] 61, Blk ib #[.int .i64 1, .string ⟨key.toArray⟩, .int .i64 tm, .int .i64 v] 56, Row 61 3 (.slice (some ⟨gw, 0, none⟩) ws.length wc) ws.length (wds ws)], hV _ _ _ (fun _ h => h) (Fam.st (fun _ h => h.pick [1, 2])) ?_, HC⟩
          intro K hK
          go_simp
          refine hK _ ?_
          clear hK K hV V
          clear HC h1 G1 K1 G2 w1 w2
          refine script_alone rfl rfl ?_
          intro V hV w1 h1
          go_simp
          obtain ⟨S1, K1, G1⟩ := St.call (l1 := [_]) (l2 := [_, _, _]) h1
          refine (kp.out w1 S1 K1).mono ?_
          rintro e w2 ⟨rfl, G2⟩
          have HC : St S w w2 [Blk ob #[.string ⟨yk.toArray⟩, .int .i64 yf, .int .i64 yt] 61, Blk ib #[.int .i64 1, .string ⟨key.toArray⟩, .int .i64 tm, .int .i64 v] 56, Row 61 3 (.slice (some ⟨gw, 0, none⟩) ws.length wc) ws.length (wds ws)] := G1 _ _ G2
          refine ⟨_, rfl, fun w' => St S w w' [Blk ob #[.string ⟨yk.toArray⟩, .int .i64 yf, .int .i64 yt] 61, Blk ib #[.int .i64 1, .string ⟨key.toArray⟩, .int .i64 tm, .int .i64 v] 56, Row 61 3 (.slice (some ⟨gw, 0, none⟩) ws.length wc) ws.length (wds ws)], hV _ _ _ (fun _ h => h) (Fam.st (fun _ h => h.pick [0, 1])) ?_, HC⟩
          intro K hK
          go_simp
          refine hK _ ?_
          clear hK K hV V
          clear HC h1 G1 K1 G2 w1 w2
          iterate 1 first
            | (apply script_pass
               · rfl
               · rfl
               intro K hK
               go_simp
               refine hK _ ?_
               clear hK K)
            | (apply script_step
               · rfl
               · rfl
               · intro I hI w1 h1'
                 have h1 := hI.2 _ h1'
                 first
                   | (go_simp
                      first
                        | rfl
                        | exact ⟨rfl, h1'⟩
                     )
               intro K hK
               go_simp
               refine hK _ ?_
               clear hK K)
          refine script_nil ?_
          intro w8 H8
          go_wp2
          go_ret
          rw [hresh.out]
          exact ⟨rfl, H8.pick []⟩
        | some y =>
          simp only at kp hnh
          have hy1 := hpgoh.out y rfl
          go_upto_region 12 with (fail)
          refine wp_script [(0, false), (1, false), (2, false), (4, false), (5, false), (3, true), (6, true), (7, false)] (Fam fun w' => St S w w' [Blk ob #[.string ⟨yk.toArray⟩, .int .i64 yf, .int .i64 yt] 61, Blk ib #[.int .i64 1, .string ⟨key.toArray⟩, .int .i64 tm, .int .i64 v] 56]) (fun w' => St S w w' [Blk ob #[.string ⟨yk.toArray⟩, .int .i64 yf, .int .i64 yt] 61, Blk ib #[.int .i64 1, .string ⟨key.toArray⟩, .int .i64 tm, .int .i64 v] 56, Stp t qq mk L O1, Row 61 3 (.slice (some ⟨gw, 0, none⟩) ws.length wc) ws.length (wds ws)]) (by kernel_rfl) (by rfl) (by kernel_rfl) (by kernel_rfl) H7.drew (Fam.st (fun _ h => h.pick [0, 1])) ?_
          iterate 5 first
            | (apply script_pass
               · rfl
               · rfl
               intro K hK
               go_simp
               refine hK _ ?_
               clear hK K)
            | (apply script_step
               · rfl
               · rfl
               · intro I hI w1 h1'
                 have h1 := hI.2 _ h1'
                 have o0 := h1.cell 0 0 rfl rfl
                 have o1 := h1.cell 0 1 rfl rfl
                 have o2 := h1.cell 0 2 rfl rfl
                 have i3 := h1.cell 1 3 rfl rfl
                 first
                   | (go_simp
                      first
                        | rfl
                        | exact ⟨rfl, h1'⟩
                     )
               intro K hK
               go_simp
               refine hK _ ?_
               clear hK K)
          refine script_alone rfl rfl ?_
          intro V hV w1 h1
          go_simp
          obtain ⟨S1, K1, G1⟩ := St.call (l1 := [_]) (l2 := [_, _, _]) (h1.pick [2, 0, 1, 3])
          refine (ko.out w1 S1 K1).mono ?_
          rintro e w2 ⟨rfl, G2⟩
          have HC : St S w w2 [Stp t qq mk (openM L ow) O1, Blk ob #[.string ⟨yk.toArray⟩, .int .i64 yf, .int .i64 yt] 61, Blk ib #[.int .i64 1, .string ⟨key.toArray⟩, .int .i64 tm, .int .i64 v] 56, Row 61 3 (.slice (some ⟨gw, 0, none⟩) ws.length wc) ws.length (wds ws)] := by rw [howh.out]; exact G1 _ _ G2
          rw [← howh.out]
          refine ⟨_, rfl, fun w' => St S w w' [Stp t qq mk (openM L ow) O1, Blk ob #[.string ⟨yk.toArray⟩, .int .i64 yf, .int .i64 yt] 61, Blk ib #[.int .i64 1, .string ⟨key.toArray⟩, .int .i64 tm, .int .i64 v] 56, Row 61 3 (.slice (some ⟨gw, 0, none⟩) ws.length wc) ws.length (wds ws)], hV _ _ _ (fun _ h => h) (Fam.st (fun _ h => h.pick [1, 2])) ?_, HC⟩
          intro K hK
          go_simp
          refine hK _ ?_
          clear hK K hV V
          clear HC h1 G1 K1 G2 w1 w2
          refine script_alone rfl rfl ?_
          intro V hV w1 h1
          go_simp
          obtain ⟨S1, K1, G1⟩ := St.call (l1 := [_]) (l2 := [_, _, _]) h1
          refine (kp.out w1 S1 K1).mono ?_
          rintro e w2 ⟨rfl, G2⟩
          have HC : St S w w2 [Stp t qq mk ((openM L ow).set (placeP L ow) y.1) (O1 ++ y.2), Blk ob #[.string ⟨yk.toArray⟩, .int .i64 yf, .int .i64 yt] 61, Blk ib #[.int .i64 1, .string ⟨key.toArray⟩, .int .i64 tm, .int .i64 v] 56, Row 61 3 (.slice (some ⟨gw, 0, none⟩) ws.length wc) ws.length (wds ws)] := G1 _ _ G2
          refine ⟨_, rfl, fun w' => St S w w' [Stp t qq mk ((openM L ow).set (placeP L ow) y.1) (O1 ++ y.2), Blk ob #[.string ⟨yk.toArray⟩, .int .i64 yf, .int .i64 yt] 61, Blk ib #[.int .i64 1, .string ⟨key.toArray⟩, .int .i64 tm, .int .i64 v] 56, Row 61 3 (.slice (some ⟨gw, 0, none⟩) ws.length wc) ws.length (wds ws)], hV _ _ _ (fun _ h => h) (Fam.st (fun _ h => h.pick [1, 2])) ?_, HC⟩
          intro K hK
          go_simp
          refine hK _ ?_
          clear hK K hV V
          clear HC h1 G1 K1 G2 w1 w2
          iterate 1 first
            | (apply script_pass
               · rfl
               · rfl
               intro K hK
               go_simp
               refine hK _ ?_
               clear hK K)
            | (apply script_step
               · rfl
               · rfl
               · intro I hI w1 h1'
                 have h1 := hI.2 _ h1'
                 first
                   | (go_simp
                      first
                        | rfl
                        | exact ⟨rfl, h1'⟩
                     )
               intro K hK
               go_simp
               refine hK _ ?_
               clear hK K)
          refine script_nil ?_
          intro w8 H8
          go_wp2
          go_roundw
          case rel =>
            exact ⟨i + 1, (openM L ow).set (placeP L ow) y.1, O1 ++ y.2, true, by omega, by go_num, rfl, hnh, Lib.hid (hsetgh.out y rfl), by rw [List.length_set]; omega, by rw [List.length_append]; omega, H8.pick [0, 2, 3]⟩
          case measure => simp [intOf]; omega
    · obtain rfl : i = ws.length := by omega
      have hresh : Hid (res = some ⟨L, O1, b⟩) := Lib.hid (by rw [← hrh.out, hlays.out, List.drop_length]; rfl)
      have hO1b : O1.length ≤ 1073741823 := by omega
      have H7 : St S w wr [Stp t qq mk L O1, Blk ib #[.int .i64 1, .string ⟨key.toArray⟩, .int .i64 tm, .int .i64 v] 56] := HM.pick [0, 1]
      clear HM hlays hgood
      cases b with
      | false =>
        go_upto_region 17 with (fail)
        obtain ⟨pv, ov, ms, os, HH, hml, hol2, hmo, hoo, HO⟩ := Stp.open H7
        have hmlh := Lib.hid hml
        have hol2h := Lib.hid hol2
        have hmoh := Lib.hid hmo
        have hooh := Lib.hid hoo
        have hosb : os.length ≤ 1073741824 := by
          have : os.length = O1.length := by rw [← hol2, List.length_map]
          omega
        have hmsb : ms.length = L.length := by rw [← hml, List.length_map]
        have hmsbh := Lib.hid hmsb
        obtain ⟨pa, pc, rfl, hpc, hpa⟩ := slice_form' (HO.row 1 rfl)
        rw [hqqh.out] at HO
        have HO : St S w wr [Blk t #[.int .i64 kd, .int .i64 sz, .int .i64 sl, .int .i64 lt, .int .i64 ag, .int .i64 kk, .int .i64 mk, .slice pa ms.length pc, ov] 137, Row 68 8 (.slice pa ms.length pc) ms.length (encP.all ms), Row 63 10 ov os.length (encO.all os), Pool HH, Blk ib #[.int .i64 1, .string ⟨key.toArray⟩, .int .i64 tm, .int .i64 v] 56] := HO
        clear hml hol2 hmo hoo hmsb hpa H7
        go_upto_region 17 with (fail)
        refine wp_script_tail 11 [(0, false), (1, false), (2, false), (3, false), (4, false), (5, false), (6, false), (7, true), (8, true), (9, false), (10, false)] (Fam fun w' => St S w w' [Blk ib #[.int .i64 1, .string ⟨key.toArray⟩, .int .i64 tm, .int .i64 v] 56, Blk t #[.int .i64 kd, .int .i64 sz, .int .i64 sl, .int .i64 lt, .int .i64 ag, .int .i64 kk, .int .i64 mk, .slice pa ms.length pc, ov] 137]) (fun w' => St S w w' [Blk ib #[.int .i64 1, .string ⟨key.toArray⟩, .int .i64 tm, .int .i64 v] 56, Blk t #[.int .i64 kd, .int .i64 sz, .int .i64 sl, .int .i64 lt, .int .i64 ag, .int .i64 kk, .int .i64 mk, .slice pa ms.length pc, ov] 137, Row 68 8 (.slice pa ms.length pc) ms.length (encP.all ms), Row 63 10 ov os.length (encO.all os), Pool HH]) (by kernel_rfl) (by rfl) (by kernel_rfl) (by kernel_rfl) (HO.pick [4, 0, 1, 2, 3]).drew (Fam.st (fun _ h => h.pick [0, 1])) ?_
        iterate 7 first
          | (apply script_pass
             · rfl
             · rfl
             intro K hK
             go_simp
             refine hK _ ?_
             clear hK K)
          | (apply script_step
             · rfl
             · rfl
             · intro I hI w1 h1'
               have h1 := hI.2 _ h1'
               have i0 := h1.cell 0 0 rfl rfl
               have i1 := h1.cell 0 1 rfl rfl
               have i2 := h1.cell 0 2 rfl rfl
               have i3 := h1.cell 0 3 rfl rfl
               have d8 := h1.cell 1 8 rfl rfl
               first
                 | (go_simp
                    first
                      | rfl
                      | exact ⟨rfl, h1'⟩
                   )
             intro K hK
             go_simp
             refine hK _ ?_
             clear hK K)
        refine script_alone rfl rfl ?_
        intro V hV w1 h1
        go_simp
        obtain ⟨gn, hgn⟩ : ∃ g, w1.heap.size = g := ⟨_, rfl⟩
        have HA : St S w _ [Blk gn #[.bool true, .int .i64 1, .string ⟨key.toArray⟩, .int .i64 tm, .int .i64 v, .string ⟨#[]⟩, .int .i64 0, .int .i64 0, .int .i64 0, .slice none 0 0] 63, Blk ib #[.int .i64 1, .string ⟨key.toArray⟩, .int .i64 tm, .int .i64 v] 56, Blk t #[.int .i64 kd, .int .i64 sz, .int .i64 sl, .int .i64 lt, .int .i64 ag, .int .i64 kk, .int .i64 mk, .slice pa ms.length pc, ov] 137, Row 68 8 (.slice pa ms.length pc) ms.length (encP.all ms), Row 63 10 ov os.length (encO.all os), Pool HH] := h1.allocAt hgn #[.bool true, .int .i64 1, .string ⟨key.toArray⟩, .int .i64 tm, .int .i64 v, .string ⟨#[]⟩, .int .i64 0, .int .i64 0, .int .i64 0, .slice none 0 0] 63
        simp only [hgn]
        refine ⟨fun w' => St S w w' [Blk gn #[.bool true, .int .i64 1, .string ⟨key.toArray⟩, .int .i64 tm, .int .i64 v, .string ⟨#[]⟩, .int .i64 0, .int .i64 0, .int .i64 0, .slice none 0 0] 63, Blk ib #[.int .i64 1, .string ⟨key.toArray⟩, .int .i64 tm, .int .i64 v] 56, Blk t #[.int .i64 kd, .int .i64 sz, .int .i64 sl, .int .i64 lt, .int .i64 ag, .int .i64 kk, .int .i64 mk, .slice pa ms.length pc, ov] 137, Row 68 8 (.slice pa ms.length pc) ms.length (encP.all ms), Row 63 10 ov os.length (encO.all os), Pool HH], hV _ _ _ (fun _ h => h) (Fam.st (fun _ h => h.pick [1, 2])) ?_, HA⟩
        intro K hK
        go_simp
        refine hK _ ?_
        clear hK K hV V
        clear HA h1 hgn w1
        refine script_alone rfl rfl ?_
        intro V hV w1 h1
        have HA : St S w w1 (Row 63 10 ov os.length (encO.all os) :: [Blk gn #[.bool true, .int .i64 1, .string ⟨key.toArray⟩, .int .i64 tm, .int .i64 v, .string ⟨#[]⟩, .int .i64 0, .int .i64 0, .int .i64 0, .slice none 0 0] 63, Blk ib #[.int .i64 1, .string ⟨key.toArray⟩, .int .i64 tm, .int .i64 v] 56, Blk t #[.int .i64 kd, .int .i64 sz, .int .i64 sl, .int .i64 lt, .int .i64 ag, .int .i64 kk, .int .i64 mk, .slice pa ms.length pc, ov] 137, Row 68 8 (.slice pa ms.length pc) ms.length (encP.all ms), Pool HH]) := h1.pick [4, 0, 1, 2, 3, 5]
        have hnw := World.news_of_block (h1.blk 0 rfl)
        refine St.came_row HA (.tmp 69) (.tmp 72) 46 rfl Tryz.underlying46 Tryz.info63 (by decide) rfl #[.bool true, .int .i64 1, .string ⟨key.toArray⟩, .int .i64 tm, .int .i64 v, .string ⟨#[]⟩, .int .i64 0, .int .i64 0, .int .i64 0, .slice none 0 0].toList rfl rfl (by intro h; cases h) (fun ad e => by cases e; exact hnw) (by simp [Value.oneCell']) (by omega) ?_
        intro v2 w2 HB
        obtain ⟨a2, p2, rfl, -, -⟩ := slice_form' (HB.row 0 rfl)
        refine ⟨fun w' => St S w w' [Row 63 10 (.slice a2 (os.length + 1) p2) (os.length + 1) (encO.all os ++ #[.bool true, .int .i64 1, .string ⟨key.toArray⟩, .int .i64 tm, .int .i64 v, .string ⟨#[]⟩, .int .i64 0, .int .i64 0, .int .i64 0, .slice none 0 0].toList), Blk gn #[.bool true, .int .i64 1, .string ⟨key.toArray⟩, .int .i64 tm, .int .i64 v, .string ⟨#[]⟩, .int .i64 0, .int .i64 0, .int .i64 0, .slice none 0 0] 63, Blk ib #[.int .i64 1, .string ⟨key.toArray⟩, .int .i64 tm, .int .i64 v] 56, Blk t #[.int .i64 kd, .int .i64 sz, .int .i64 sl, .int .i64 lt, .int .i64 ag, .int .i64 kk, .int .i64 mk, .slice pa ms.length pc, ov] 137, Row 68 8 (.slice pa ms.length pc) ms.length (encP.all ms), Pool HH], hV _ _ _ (fun _ h => h) (Fam.st (fun _ h => h.pick [2, 3])) ?_, HB⟩
        intro K hK
        go_simp
        refine hK _ ?_
        clear hK K hV V
        clear HB HA hnw h1 w1 w2
        iterate 2 first
          | (apply script_pass
             · rfl
             · rfl
             intro K hK
             go_simp
             refine hK _ ?_
             clear hK K)
          | (apply script_step
             · rfl
             · rfl
             · intro I hI w1 h1'
               have h1 := hI.2 _ h1'
               first
                 | (go_simp
                    first
                      | rfl
                      | exact ⟨rfl, h1'⟩
                   )
             intro K hK
             go_simp
             refine hK _ ?_
             clear hK K)
        refine script_nil ?_
        intro w8 H8
        simp only [List.drop_succ_cons, List.drop_zero]
        have c8 := H8.cell 3 8 rfl rfl
        have f8 := H8.free 3 8 rfl
        have H9 := (H8.set 3 rfl 8 (.slice a2 (os.length + 1) p2)).pool_zero 5 rfl
        go_upto_region 18 with (fail)
        obtain ⟨w9, hw9⟩ : ∃ z, w8.setCell ⟨t, 8, none⟩ (.slice a2 (os.length + 1) p2) = z := ⟨_, rfl⟩
        rw [hw9] at H9
        try rw [hw9]
        clear hw9 c8 f8 H8 HO
        have HF : St S w w9 [Blk t #[.int .i64 kd, .int .i64 sz, .int .i64 sl, .int .i64 lt, .int .i64 ag, .int .i64 kk, .int .i64 mk, .slice pa ms.length pc, .slice a2 (os.length + 1) p2] 137, Row 68 8 (.slice pa ms.length pc) ms.length (encP.all ms), Row 63 10 (.slice a2 (os.length + 1) p2) (os.length + 1) (encO.all os ++ #[.bool true, .int .i64 1, .string ⟨key.toArray⟩, .int .i64 tm, .int .i64 v, .string ⟨#[]⟩, .int .i64 0, .int .i64 0, .int .i64 0, .slice none 0 0].toList), Pool ((.slice none 0 0, []) :: HH)] := H9.pick [3, 4, 0, 5]
        clear H9
        have d7 := HF.cell 0 7 rfl rfl
        by_cases hfull : 256 < L.length
        · have hfull2 : (256 : Int) < (ms.length : Int) := by rw [hmsbh.out]; omega
          go_wp2
          go_ret
          rw [hresh.out]
          unfold EvOk
          simp only
          rw [if_pos hfull]
          exact ⟨rfl, HF.pick []⟩
        · have hfull2 : ¬ (256 : Int) < (ms.length : Int) := by rw [hmsbh.out]; omega
          go_wp2
          go_ret
          rw [hresh.out]
          unfold EvOk
          simp only
          rw [if_neg hfull]
          refine ⟨rfl, ?_⟩
          refine Stp.mk' (ms := ms) (os := os ++ [⟨lateO ⟨1, key, tm, v⟩, none, 0⟩]) (H := (.slice none 0 0, []) :: HH) (pv := .slice pa ms.length pc) (ov := .slice a2 (os.length + 1) p2) hmlh.out (by rw [List.map_append, hol2h.out]; rfl) (fun m hm => List.mem_cons_of_mem _ (hmoh.out m hm)) (fun y hy => by
            rcases List.mem_append.1 hy with hy | hy
            · exact List.mem_cons_of_mem _ (hooh.out y hy)
            · rw [List.mem_singleton.1 hy]; exact List.mem_cons_self) ?_
          rw [hqqh.out, encO.all_app, encO.all_one, List.length_append, List.length_singleton]
          exact HF
      | true =>
        go_upto_region 18 with (fail)
        obtain ⟨pv, ov, ms, os, HH, hml, hol2, hmo, hoo, HO⟩ := Stp.open H7
        have hmlh := Lib.hid hml
        have hol2h := Lib.hid hol2
        have hmoh := Lib.hid hmo
        have hooh := Lib.hid hoo
        have hosb : os.length ≤ 1073741824 := by
          have : os.length = O1.length := by rw [← hol2, List.length_map]
          omega
        have hmsb : ms.length = L.length := by rw [← hml, List.length_map]
        have hmsbh := Lib.hid hmsb
        obtain ⟨pa, pc, rfl, hpc, hpa⟩ := slice_form' (HO.row 1 rfl)
        rw [hqqh.out] at HO
        have HO : St S w wr [Blk t #[.int .i64 kd, .int .i64 sz, .int .i64 sl, .int .i64 lt, .int .i64 ag, .int .i64 kk, .int .i64 mk, .slice pa ms.length pc, ov] 137, Row 68 8 (.slice pa ms.length pc) ms.length (encP.all ms), Row 63 10 ov os.length (encO.all os), Pool HH, Blk ib #[.int .i64 1, .string ⟨key.toArray⟩, .int .i64 tm, .int .i64 v] 56] := HO
        clear hml hol2 hmo hoo hmsb hpa H7
        have d7 := HO.cell 0 7 rfl rfl
        by_cases hfull : 256 < L.length
        · have hfull2 : (256 : Int) < (ms.length : Int) := by rw [hmsbh.out]; omega
          go_wp2
          go_ret
          rw [hresh.out]
          unfold EvOk
          simp only
          rw [if_pos hfull]
          exact ⟨rfl, HO.pick []⟩
        · have hfull2 : ¬ (256 : Int) < (ms.length : Int) := by rw [hmsbh.out]; omega
          go_wp2
          go_ret
          rw [hresh.out]
          unfold EvOk
          simp only
          rw [if_neg hfull]
          refine ⟨rfl, ?_⟩
          refine Stp.mk' (ms := ms) (os := os) (H := HH) (pv := .slice pa ms.length pc) (ov := ov) hmlh.out hol2h.out hmoh.out hooh.out ?_
          rw [hqqh.out]
          exact HO.pick [0, 1, 2, 3]

theorem step_event {t : Nat} {q : Qry} {mk : Int} {l : List Pn} {o : List Ot} {x : Itm} {w : World} {S : Nat → Prop} (hs : Stt.right q ⟨mk, l⟩ = true) (hx : x.right = true) (hk : x.kind = 1) (hol : o.length ≤ 1073741000) (H0 : Sep w [Stp t q mk l o] S) :
    Calls Tryz.prog 73 #[.pointer (some ⟨t, 0, none⟩), itmV x] w fun e w' => EvOk t q mk x S w (laysM q mk x.value (winsOf q x.key x.time) ⟨l, o, false⟩) e w' := by
  obtain ⟨k, key, tm, v⟩ := x
  simp only at hk
  subst hk
  unfold Itm.right at hx
  simp only [if_true, Bool.and_eq_true, decide_eq_true_eq] at hx
  obtain ⟨⟨h1, h2⟩, ⟨h3, h4⟩, h5⟩ := hx
  by_cases hk3 : q.kind = 3
  · exact event_sess hs hk3 h3 ⟨h1, h2⟩ (valB_iff.2 ⟨h4, h5⟩) (by omega) H0
  · exact event_wins hs hk3 h3 ⟨h1, h2⟩ (valB_iff.2 ⟨h4, h5⟩) hol H0

end Go.Proofs.YtiglgfonhdfpmaaGreat

/- The order in which panes fire. Plain laws. -/
set_option linter.unusedVariables false
set_option linter.unusedSimpArgs false
namespace Go.Proofs.YtiglgfonhdfpmaaGreat

theorem cmp_neg {a b : Wd} : a.cmp b < 0 ↔ a.to < b.to ∨ (a.to = b.to ∧ (a.frm < b.frm ∨ (a.frm = b.frm ∧ Lib.compareBytes a.key b.key < 0))) := by
  have h1 := ci_zero (a := a.to) (b := b.to)
  have h2 := ci_zero (a := a.frm) (b := b.frm)
  have h3 := ci_neg (a := a.to) (b := b.to)
  have h4 := ci_neg (a := a.frm) (b := b.frm)
  unfold Wd.cmp
  by_cases e1 : Lib.compareInt a.to b.to = 0
  · rw [if_neg (by simpa using e1)]
    have e1' := h1.1 e1
    by_cases e2 : Lib.compareInt a.frm b.frm = 0
    · rw [if_neg (by simpa using e2)]
      have e2' := h2.1 e2
      constructor
      · intro h; exact .inr ⟨e1', .inr ⟨e2', h⟩⟩
      · rintro (h | ⟨_, h | ⟨_, h⟩⟩)
        · omega
        · omega
        · exact h
    · rw [if_pos e2]
      have e2' : ¬ a.frm = b.frm := fun h => e2 (h2.2 h)
      rw [h4]
      constructor
      · intro h; exact .inr ⟨e1', .inl h⟩
      · rintro (h | ⟨_, h | ⟨h, _⟩⟩)
        · omega
        · exact h
        · exact absurd h e2'
  · rw [if_pos e1]
    have e1' : ¬ a.to = b.to := fun h => e1 (h1.2 h)
    rw [h3]
    constructor
    · intro h; exact .inl h
    · rintro (h | ⟨h, _⟩)
      · exact h
      · exact absurd h e1'
theorem cmp_self (a : Wd) : a.cmp a = 0 := by
  unfold Wd.cmp
  rw [if_neg (by simpa using ci_zero.2 rfl), if_neg (by simpa using ci_zero.2 rfl)]
  exact (cb_zero _ _).2 rfl
theorem cmp_zero {a b : Wd} (h : a.cmp b = 0) : a = b := by
  unfold Wd.cmp at h
  split at h
  · rename_i hc; exact absurd h hc
  · rename_i hc
    split at h
    · rename_i hd; exact absurd h hd
    · rename_i hd
      have e1 := ci_zero.1 (Classical.not_not.1 hc)
      have e2 := ci_zero.1 (Classical.not_not.1 hd)
      have e3 := (cb_zero _ _).1 h
      cases a; cases b
      simp only at e1 e2 e3
      subst e1 e2 e3
      rfl
theorem cmp_swap (a b : Wd) : b.cmp a = - a.cmp b := by
  have h1 := ci_swap (a := a.to) (b := b.to)
  have h2 := ci_swap (a := a.frm) (b := b.frm)
  have h3 := cb_swap a.key b.key
  unfold Wd.cmp
  rw [h1, h2, h3]
  by_cases e1 : Lib.compareInt a.to b.to = 0
  · by_cases e2 : Lib.compareInt a.frm b.frm = 0
    · simp [e1, e2]
    · simp [e1, e2]
  · simp [e1]
theorem cmp_trans {a b c : Wd} (h1 : a.cmp b < 0) (h2 : b.cmp c < 0) : a.cmp c < 0 := by
  rw [cmp_neg] at h1 h2 ⊢
  rcases h1 with h1 | ⟨e1, h1 | ⟨f1, k1⟩⟩
  · rcases h2 with h2 | ⟨e2, _⟩
    · exact .inl (by omega)
    · exact .inl (by omega)
  · rcases h2 with h2 | ⟨e2, h2 | ⟨f2, _⟩⟩
    · exact .inl (by omega)
    · exact .inr ⟨by omega, .inl (by omega)⟩
    · exact .inr ⟨by omega, .inl (by omega)⟩
  · rcases h2 with h2 | ⟨e2, h2 | ⟨f2, k2⟩⟩
    · exact .inl (by omega)
    · exact .inr ⟨by omega, .inl (by omega)⟩
    · refine .inr ⟨by omega, .inr ⟨by omega, ?_⟩⟩
      have h3 := cb_trans a.key b.key c.key (by omega) (by omega)
      rcases Int.lt_or_eq_of_le h3 with h | h
      · exact h
      · have e := (cb_zero _ _).1 h
        rw [e] at k1
        have := cb_swap b.key c.key
        omega
/-- Panes as they fire: of two, the first has the lesser end. -/
def Fire (l : List Pn) : Prop := l.Pairwise fun a b => a.w.cmp b.w < 0
theorem insC_mem (p : Pn) : ∀ l (x : Pn), x ∈ insC p l ↔ x = p ∨ x ∈ l
  | [], x => by simp [insC]
  | y :: r, x => by
    unfold insC
    split
    · simp only [List.mem_cons, insC_mem p r x]
      constructor
      · rintro (h | h | h)
        · exact .inr (.inl h)
        · exact .inl h
        · exact .inr (.inr h)
      · rintro (h | h | h)
        · exact .inr (.inl h)
        · exact .inl h
        · exact .inr (.inr h)
    · simp
theorem insC_fire {p : Pn} : ∀ {l : List Pn}, Fire l → (∀ y ∈ l, y.w ≠ p.w) → Fire (insC p l)
  | [], _, _ => List.pairwise_singleton _ _
  | y :: r, h, hn => by
    have h1 := List.pairwise_cons.1 h
    unfold insC
    split
    · rename_i hy
      refine List.pairwise_cons.2 ⟨fun z hz => ?_, insC_fire h1.2 (fun z hz => hn z (List.mem_cons_of_mem _ hz))⟩
      rcases (insC_mem p r z).1 hz with rfl | hz
      · exact hy
      · exact h1.1 z hz
    · rename_i hy
      have hlt : p.w.cmp y.w < 0 := by
        have h2 := cmp_swap y.w p.w
        have h3 : y.w.cmp p.w ≠ 0 := fun e => hn y (by simp) (cmp_zero e)
        omega
      refine List.pairwise_cons.2 ⟨fun z hz => ?_, h⟩
      rcases List.mem_cons.1 hz with rfl | hz
      · exact hlt
      · exact cmp_trans hlt (h1.1 z hz)
theorem insC_perm (p : Pn) : ∀ l, (insC p l).Perm (p :: l)
  | [] => List.Perm.refl _
  | y :: r => by
    unfold insC
    split
    · exact ((insC_perm p r).cons y).trans (List.Perm.swap p y r)
    · exact List.Perm.refl _
theorem sortC_perm : ∀ l, (sortC l).Perm l
  | [] => List.Perm.refl _
  | p :: r => (insC_perm p (sortC r)).trans ((sortC_perm r).cons p)
theorem sortC_fire : ∀ {l : List Pn}, l.Pairwise (fun a b => a.w ≠ b.w) → Fire (sortC l)
  | [], _ => List.Pairwise.nil
  | p :: r, h => by
    have h1 := List.pairwise_cons.1 h
    exact insC_fire (sortC_fire h1.2) (fun y hy e => h1.1 y ((sortC_perm r).mem_iff.1 hy) e.symm)
theorem fire_one : ∀ {l m : List Pn}, Fire l → Fire m → l.Perm m → l = m
  | [], m, _, _, h => (List.nil_perm.1 h).symm
  | x :: l, [], _, _, h => absurd h.length_eq (by simp)
  | x :: l, y :: m, hl, hm, h => by
    have h1 := List.pairwise_cons.1 hl
    have h2 := List.pairwise_cons.1 hm
    have hxy : x = y := by
      rcases List.mem_cons.1 (h.symm.subset (List.mem_cons_self (a := y) (l := m))) with e | hy
      · exact e.symm
      · rcases List.mem_cons.1 (h.subset (List.mem_cons_self (a := x) (l := l))) with e | hx
        · exact e
        · have a := h1.1 y hy
          have b := h2.1 x hx
          have := cmp_swap x.w y.w
          omega
    subst hxy
    rw [fire_one h1.2 h2.2 (List.Perm.cons_inv h)]
theorem ord_ne : ∀ {l : List Pn}, Ord l → l.Pairwise (fun a b => a.w ≠ b.w)
  | [], _ => List.Pairwise.nil
  | x :: l, h => by
    have h1 := List.pairwise_cons.1 h
    exact List.pairwise_cons.2 ⟨fun y hy e => by have := h1.1 y hy; rw [e, place_self] at this; omega, ord_ne h1.2⟩
theorem sortC_is {l m : List Pn} (hl : l.Pairwise (fun a b => a.w ≠ b.w)) (hm : Fire m) (hp : m.Perm l) : sortC l = m := fire_one (sortC_fire hl) hm ((sortC_perm l).trans hp.symm)

end Go.Proofs.YtiglgfonhdfpmaaGreat

/- wins.Compare once more, with what it draws; the comparison of two panes by where they lie; slices.SortFunc at such. Condition: so many. -/
set_option linter.unusedVariables false
set_option linter.unusedSimpArgs false
namespace Go.Proofs.YtiglgfonhdfpmaaGreat
open Go.RowKit

/-- What is there in the midst of a call, and that no draw is taken back. -/
def StD (S : Nat → Prop) (w0 w : World) (L : List SP) : Prop := St S w0 w L ∧ w0.drawn ≤ w.drawn
theorem StD.st {S : Nat → Prop} {w0 w : World} {L : List SP} (h : StD S w0 w L) : St S w0 w L := h.1
theorem StD.drew {S : Nat → Prop} {w0 w : World} {L : List SP} (h : StD S w0 w L) : StD S w0 w.drew L := ⟨h.1.drew, Nat.le_succ_of_le h.2⟩
theorem StD.same {S : Nat → Prop} {w w' : World} {L : List SP} {P : Program} {fid : Nat} {args : Array Value} {p : Ending → Prop} (hc : Calls P fid args w' fun e w2 => p e ∧ w2 = w') (H : StD S w w' L) :
    Calls P fid args w' fun e w2 => p e ∧ StD S w w2 L := hc.mono fun _ _ h => ⟨h.1, h.2 ▸ H⟩
theorem StD.past {S : Nat → Prop} {w w' : World} {L : List SP} {P : Program} {fid : Nat} {args : Array Value} {p : Ending → Prop} (hc : Calls P fid args w' fun e w2 => p e ∧ Below w'.heap.size w' w2 ∧ w'.drawn ≤ w2.drawn) (H : StD S w w' L) :
    Calls P fid args w' fun e w2 => p e ∧ StD S w w2 L := hc.mono fun _ _ h => ⟨h.1, H.1.past h.2.1, Nat.le_trans H.2 h.2.2⟩

set_option maxHeartbeats 2000000 in
set_option maxRecDepth 100000 in
theorem wd_cmpD (x y : Wd) (w : World) : Calls Tryz.prog 132 #[wdV x, wdV y] w fun e w' => e = .returned (.int .i64 (x.cmp y)) ∧ Below w.heap.size w w' ∧ w.drawn ≤ w'.drawn := by
  have hp := Lib.hid (order_or x y)
  have l3 := compare_lim x.key y.key
  have l2 := compareI_lim x.frm y.frm
  have l1 := compareI_lim x.to y.to
  obtain ⟨xk, xf, xt⟩ := x
  obtain ⟨yk, yf, yt⟩ := y
  have H0 : St (fun _ => False) w w [] := St.nil (fun _ => False) w
  have H1 : St (fun _ => False) w _ [_] := H0.allocAt rfl #[.string ⟨xk.toArray⟩, .int .i64 xf, .int .i64 xt] 61
  have H2 : St (fun _ => False) w _ [_, _] := H1.allocAt (B := w.heap.size + 1) (Array.size_push _) #[.string ⟨yk.toArray⟩, .int .i64 yf, .int .i64 yt] 61
  have k3 := fun w' => strings_Compare ⟨xk.toArray⟩ ⟨yk.toArray⟩ w'
  have k2 := fun w' => cmp_Compare_int xf yf w'
  have k1 := fun w' => cmp_Compare_int xt yt w'
  simp only at hp l1 l2 l3 k3
  obtain ⟨c1, hc1⟩ : ∃ c, Lib.compareInt xt yt = c := ⟨_, rfl⟩
  obtain ⟨c2, hc2⟩ : ∃ c, Lib.compareInt xf yf = c := ⟨_, rfl⟩
  obtain ⟨c3, hc3⟩ : ∃ c, Lib.compareBytes xk yk = c := ⟨_, rfl⟩
  rw [hc1] at l1
  rw [hc2] at l2
  rw [hc3] at l3
  rw [hc1, hc2, hc3] at hp
  simp only [hc1] at k1
  simp only [hc2] at k2
  simp only [hc3] at k3
  clear hc1 hc2 hc3
  unfold wdV wdC textV
  simp only
  go_enter Tryz.func132, Tryz.ntmps132
  go_upto_region 1 with (fail)
  obtain ⟨b, hb⟩ : ∃ b, w.heap.size = b := ⟨_, rfl⟩
  obtain ⟨b2, hb2⟩ : ∃ b2, b + 1 = b2 := ⟨_, rfl⟩
  have hdr : ((w.alloc (.cells #[.string ⟨xk.toArray⟩, .int .i64 xf, .int .i64 xt] 61)).alloc (.cells #[.string ⟨yk.toArray⟩, .int .i64 yf, .int .i64 yt] 61)).drawn = w.drawn := rfl
  obtain ⟨w2, hw2⟩ : ∃ w2, (w.alloc (.cells #[.string ⟨xk.toArray⟩, .int .i64 xf, .int .i64 xt] 61)).alloc (.cells #[.string ⟨yk.toArray⟩, .int .i64 yf, .int .i64 yt] 61) = w2 := ⟨_, rfl⟩
  rw [hw2, hb, hb2] at H2
  rw [hw2] at hdr
  rw [hw2]
  simp only [hb, hb2]
  have H2 : StD (fun _ => False) w w2 [Blk b2 #[.string ⟨yk.toArray⟩, .int .i64 yf, .int .i64 yt] 61, Blk b #[.string ⟨xk.toArray⟩, .int .i64 xf, .int .i64 xt] 61] := ⟨H2, by omega⟩
  clear hb hb2 hw2 H0 H1 hdr
  refine wp_calm_tail 15 (fun w' => StD (fun _ => False) w w' [Blk b2 #[.string ⟨yk.toArray⟩, .int .i64 yf, .int .i64 yt] 61, Blk b #[.string ⟨xk.toArray⟩, .int .i64 xf, .int .i64 xt] 61]) (by kernel_rfl) (by kernel_rfl) (H2.drew) ?_
  simp only [List.take_succ_cons, List.take_zero, List.drop_succ_cons, List.drop_zero]
  iterate 15 first
    | (apply calm_pass
       · rfl
       intro K hK
       go_simp
       refine hK _ ?_
       clear hK K)
    | (apply calm_step
       · rfl
       · intro w1 h1
         have d0 := h1.st.cell 0 0 rfl rfl
         have d1 := h1.st.cell 0 1 rfl rfl
         have d2 := h1.st.cell 0 2 rfl rfl
         have e0 := h1.st.cell 1 0 rfl rfl
         have e1 := h1.st.cell 1 1 rfl rfl
         have e2 := h1.st.cell 1 2 rfl rfl
         first
           | (go_simp
              first
                | rfl
                | exact ⟨rfl, h1⟩
                | (go_at_call 144; with_reducible exact StD.same (k3 w1) h1)
                | (go_at_call 145; with_reducible exact StD.same (k2 w1) h1)
                | (go_at_call 145; with_reducible exact StD.same (k1 w1) h1)
             )
       intro K hK
       go_simp
       refine hK _ ?_
       clear hK K)
  refine calm_nil ?_
  intro w3 H3
  have H4 : St (fun _ => False) w _ [_, _, _] := H3.1.allocAt rfl #[.int .i64 c1, .int .i64 c2, .int .i64 c3] 3
  have ko := cmp_or _ (ints_blk (l := [c1, c2, c3]) (H4.blk 0 rfl) (by
    intro z hz
    simp only [List.mem_cons, List.not_mem_nil, or_false] at hz
    omega)) (by simp)
  have ko2 := StD.same ko (show StD (fun _ => False) w _ _ from ⟨H4, H3.2⟩)
  simp only [List.length_cons, List.length_nil] at ko2
  go_wp2_with (go_at_call 143; go_must (refine ko2.mono ?_; rintro e w4 ⟨rfl, H5⟩))
  go_ret
  rw [hp.out]
  exact ⟨rfl, H5.1.below (Nat.le_refl _) (fun _ h => h.elim), H5.2⟩

set_option maxHeartbeats 2000000 in
set_option maxRecDepth 100000 in
theorem mark_one {g i j : Nat} {ms : List Pm} {R : List Value} {x y : Pm} (w : World) (hb : w.heap[g]? = some (.cells (encP.all ms ++ R).toArray 68 (0, 0))) (hi : ms[i]? = some x) (hj : ms[j]? = some y) :
    Calls Tryz.prog 131 #[.pointer (some ⟨g, i * 8, none⟩), .pointer (some ⟨g, j * 8, none⟩)] w fun e w' => e = .returned (.int .i64 (x.p.w.cmp y.p.w)) ∧ Below w.heap.size w w' ∧ w.drawn ≤ w'.drawn := by
  have kc := fun w' => wd_cmpD x.p.w y.p.w w'
  have H0 : StD (fun _ => False) w w [] := ⟨St.nil _ w, Nat.le_refl _⟩
  have hih := Lib.hid hi
  have hjh := Lib.hid hj
  clear hi hj
  obtain ⟨C, hC⟩ : ∃ C, x.p.w.cmp y.p.w = C := ⟨_, rfl⟩
  rw [hC]
  simp only [hC] at kc
  clear hC
  obtain ⟨⟨⟨xk, xf, xt⟩, ⟨gn, ga, gt, gx, gy⟩, xr⟩, xa, xc⟩ := x
  obtain ⟨⟨⟨yk, yf, yt⟩, ⟨hn, hga, ht, hx, hy⟩, yr⟩, ya, yc⟩ := y
  unfold wdV wdC textV at kc
  simp only at kc
  go_enter Tryz.func131, Tryz.ntmps131
  go_upto_region 1 with (fail)
  refine wp_calm (fun w' => StD (fun _ => False) w w' []) (by kernel_rfl) (by kernel_rfl) (H0.drew) ?_
  iterate 10 first
    | (apply calm_pass
       · rfl
       intro K hK
       go_simp
       refine hK _ ?_
       clear hK K)
    | (apply calm_step
       · rfl
       · intro w1 h1
         have hg1 := (h1.st.kept.block g (blk_lt hb) id).trans hb
         obtain ⟨p0, p1, p2, -⟩ := pn_blk hg1 hih.out
         obtain ⟨r0, r1, r2, -⟩ := pn_blk hg1 hjh.out
         unfold textV at p0 r0
         simp only at p0 p1 p2 r0 r1 r2
         first
           | (go_simp
              first
                | rfl
                | exact ⟨rfl, h1⟩
                | (go_at_call 132; with_reducible exact StD.past (kc w1) h1)
             )
       intro K hK
       go_simp
       refine hK _ ?_
       clear hK K)
  refine calm_nil ?_
  intro w9 H9
  go_wp2
  go_ret
  exact ⟨rfl, H9.1.below (Nat.le_refl _) (fun _ h => h.elim), H9.2⟩
theorem grown_of {w w' : World} (h : Below w.heap.size w w') (hd : w.drawn ≤ w'.drawn) : ∃ q os', w' = Go.Sort.grow (w.drewN q) os' := by
  obtain ⟨p, hp⟩ := regrown_of_below h
  refine ⟨p.d - w.drawn, p.os, ?_⟩
  have e : p.d = w'.drawn := by rw [hp]; rfl
  have e2 : w.drawn + (p.d - w.drawn) = p.d := by omega
  rw [hp]
  unfold World.drewN
  rw [e2]
  rfl

end Go.Proofs.YtiglgfonhdfpmaaGreat

/- slices.SortFunc at panes by where they lie. Condition: so many. -/
set_option linter.unusedVariables false
set_option linter.unusedSimpArgs false
namespace Go.Proofs.YtiglgfonhdfpmaaGreat
open Go.RowKit

def ptrV (g i : Nat) : Value := .pointer (some ⟨g, i * 8, none⟩)
def ptrs (g : Nat) (l : List Nat) : List Value := l.map (ptrV g)
theorem swo_cmp {n : Nat} (f : Fin n → Wd) : Go.Sort.SWO (ltOf fun a b => (f a).cmp (f b)) := by
  have hlt : ∀ a b, ltOf (fun a b => (f a).cmp (f b)) a b = decide ((f a).cmp (f b) < 0) := fun a b => rfl
  refine ⟨fun x => ?_, fun x y z h1 h2 => ?_, fun x y z h1 h2 => ?_⟩
  · rw [hlt, cmp_self]; rfl
  · rw [hlt, decide_eq_true_eq] at *
    exact cmp_trans h1 h2
  · rw [hlt, decide_eq_false_iff_not] at *
    intro h3
    have a1 := cmp_swap (f x) (f y)
    have a2 := cmp_swap (f y) (f z)
    by_cases e1 : (f x).cmp (f y) = 0
    · rw [cmp_zero e1] at h3
      exact h2 h3
    · by_cases e2 : (f y).cmp (f z) = 0
      · rw [← cmp_zero e2] at h3
        exact h1 h3
      · have := cmp_trans (a := f z) (b := f y) (c := f x) (by omega) (by omega)
        have := cmp_swap (f x) (f z)
        omega
theorem row_blk_lt {w : World} {g n cap : Nat} {e : TypeId} {xs : List Value} (h : w.ownsRow 0 e 1 (.slice (some ⟨g, 0, none⟩) n cap) n xs) : xs.length = n := by
  have := h.1
  omega

set_option maxHeartbeats 2000000 in
theorem pns_sort {S : Nat → Prop} {w0 w : World} {L : List SP} {rb n cap g : Nat} {idx : List Nat} {ms : List Pm} {R : List Value} (H : St S w0 w (Row 198 1 (.slice (some ⟨rb, 0, none⟩) n cap) n (ptrs g idx) :: Blk g (encP.all ms ++ R).toArray 68 :: L)) (hn : n ≠ 0) (hl : n ≤ 1073741824) (hidx : ∀ j ∈ idx, j < ms.length) :
    Calls Tryz.prog 130 #[.slice (some ⟨rb, 0, none⟩) n cap, .func (.func 131) #[] #[]] w fun e w' => ∃ idx', e = .returned (.tuple #[]) ∧ idx'.Perm idx ∧ (idx'.Pairwise fun a b => ∀ x y, ms[a]? = some x → ms[b]? = some y → ¬ y.p.w.cmp x.p.w < 0) ∧
      St S w0 w' (Row 198 1 (.slice (some ⟨rb, 0, none⟩) n cap) n (ptrs g idx') :: Blk g (encP.all ms ++ R).toArray 68 :: L) := by
  have hln : idx.length = n := by
    have := row_blk_lt (H.row 0 rfl)
    unfold ptrs at this
    rw [List.length_map] at this
    exact this
  have hpos : 0 < ms.length := by
    cases idx with
    | nil => exact absurd hln.symm hn
    | cons j r => exact Nat.lt_of_le_of_lt (Nat.zero_le _) (hidx j (by simp))
  letI inh : Inhabited (Fin ms.length) := ⟨⟨0, hpos⟩⟩
  obtain ⟨d, hd⟩ : ∃ d : Array (Fin ms.length), d.toList.map (·.val) = idx := by
    refine ⟨(idx.attach.map fun j => ⟨j.1, hidx j.1 j.2⟩).toArray, ?_⟩
    simp
  have hds : d.size = n := by rw [← hln, ← hd]; simp
  have hptr : ptrs g idx = d.toList.map fun i => ptrV g i.val := by unfold ptrs; rw [← hd, List.map_map]; rfl
  subst hds
  rw [hptr] at H
  obtain ⟨g', cap', RR, hv, hnc, hcm, hxl, hcs, HB⟩ := H.row_blk 0 rfl hn
  simp only [Value.slice.injEq, Option.some.injEq, Addr.mk.injEq, and_true, true_and] at hv
  obtain ⟨rfl, rfl⟩ := hv
  have HB : St S w0 w (Blk rb ((d.toList.map fun i => ptrV g i.val) ++ RR).toArray 198 :: Blk g (encP.all ms ++ R).toArray 68 :: L) := HB
  have hne : ¬ rb = g := blk_apart' HB
  have hblk := HB.blk 0 rfl
  have hgb := HB.blk 1 rfl
  have hsz : d.size ≤ ((d.toList.map fun i => ptrV g i.val) ++ RR).length := by simp
  refine (Any.slices_SortFunc sh_sortP (fun i : Fin ms.length => ptrV g i.val) (fun _ => rfl) (fun a b => (ms[a.val].p.w).cmp (ms[b.val].p.w)) (swo_cmp fun a => ms[a.val].p.w) 131 #[] rb 0 cap d w (enters_of Tryz.func131 (by kernel_rfl) rfl) (fun m os dk hdk x y => ?_) (fun j hj => ⟨?_, ?_⟩) (blk_lt hblk) (by omega)).mono ?_
  · have hk := (sort_world (fun i : Fin ms.length => ptrV g i.val) hblk m dk os (by rw [hdk]; exact hsz)).2
    have hg2 := (hk.block g (blk_lt hgb) (fun e => hne e.symm)).trans hgb
    refine (mark_one (i := x.val) (j := y.val) (x := ms[x.val]) (y := ms[y.val]) _ hg2 (List.getElem?_eq_getElem x.2) (List.getElem?_eq_getElem y.2)).mono fun e w' h => ⟨h.1, grown_of h.2.1 h.2.2⟩
  · rw [Nat.zero_add, getElem!_pos d j hj]
    refine cell_blk' hblk ?_
    simp [List.getElem?_append, hj]
  · exact free_blk hblk _
  · rintro e w' ⟨rfl, d', m, os, ⟨h1, -, h3⟩, h4, rfl⟩
    rw [← h1] at h4
    have hp : d'.toList.Perm d.toList := by
      rw [← h1, Array.extract_size] at h3
      rw [h1, Array.extract_size] at h3
      exact h3
    refine ⟨d'.toList.map (·.val), rfl, by rw [← hd]; exact hp.map _, ?_, ?_⟩
    · rw [List.pairwise_map, List.pairwise_iff_getElem]
      intro i j hi hj hij a b ha hb
      have h5 := h4 i j (Nat.zero_le _) hij (by simpa using hj)
      rw [getElem!_pos d' i (by simpa using hi), getElem!_pos d' j (by simpa using hj)] at h5
      unfold ltOf at h5
      rw [decide_eq_false_iff_not] at h5
      simp only [Array.getElem_toList] at ha hb
      rw [List.getElem?_eq_getElem (Fin.is_lt _)] at ha hb
      obtain rfl := Option.some.inj ha
      obtain rfl := Option.some.inj hb
      exact h5
    · have H9 := St.sorted (fun i : Fin ms.length => ptrV g i.val) H 0 rfl hn (d' := d') h1 m os
      have e : ptrs g (d'.toList.map (·.val)) = d'.toList.map fun i => ptrV g i.val := by unfold ptrs; rw [List.map_map]; rfl
      rw [e]
      exact H9

set_option maxRecDepth 100000 in
theorem ins_nil (w : World) (fv : Value) : Calls Tryz.prog 236 #[.slice none 0 0, .int .i64 0, .int .i64 0, fv] w fun e w' => e = .returned (.tuple #[]) ∧ w' = w := by
  go_enter Tryz.func236, Tryz.ntmps236
  go_upto_block 1 with (fail)
  go_loopw [8, 9] (fun i _ wr => i = .int .i64 1 ∧ wr = w) (fun _ _ _ => 0)
  case atStart => exact ⟨rfl, rfl⟩
  case round =>
    obtain ⟨rfl, rfl⟩ := hrel
    go_wp2
    go_end0
    exact ⟨rfl, rfl⟩
end Go.Proofs.YtiglgfonhdfpmaaGreat

/- slices.SortFunc at no pane. -/
set_option linter.unusedVariables false
set_option linter.unusedSimpArgs false
namespace Go.Proofs.YtiglgfonhdfpmaaGreat
open Go.RowKit

set_option maxHeartbeats 1000000 in
set_option maxRecDepth 100000 in
theorem pdq_nil (w : World) (L : Int) (fv : Value) : Calls Tryz.prog 191 #[.slice none 0 0, .int .i64 0, .int .i64 0, .int .i64 L, fv] w fun e w' => e = .returned (.tuple #[]) ∧ w' = w := by
  go_enter Tryz.func191, Tryz.ntmps191
  go_upto_block 1 with (fail)
  go_loopw [1, 2, 3, 10, 11, 12, 13, 14, 15, 16, 17, 18, 19, 20] (fun a b _ _ _ _ _ _ _ _ _ _ _ _ wr => a = .int .i64 0 ∧ b = .int .i64 0 ∧ wr = w) (fun _ _ _ _ _ _ _ _ _ _ _ _ _ _ _ => 0)
  case atStart => exact ⟨rfl, rfl, rfl⟩
  case round =>
    obtain ⟨rfl, rfl, rfl⟩ := hrel
    go_wp2_with (go_at_call 236; go_must (refine (ins_nil _ _).mono ?_; rintro e w2 ⟨rfl, rfl⟩))
    refine bodyPost_ret (results_none rfl _ _ _) rfl ?_
    exact ⟨rfl, rfl⟩
set_option maxHeartbeats 1000000 in
set_option maxRecDepth 100000 in
theorem sort_nil (w : World) (fv : Value) : Calls Tryz.prog 130 #[.slice none 0 0, fv] w fun e w' => e = .returned (.tuple #[]) ∧ w' = w := by
  have hl := fun w' => Any.bits_Len (SlLaysF0.n15.bits (P := Tryz.prog) (ρ := sh_sortP_ren) { sh_sortP with }) (0 : Int) w' (by omega) (by omega)
  have hl2 : ∀ w', Calls Tryz.prog 192 #[.int .u64 0] w' fun e w2 => e = .returned (.int .i64 (Lib.bitLen 0 : Nat)) ∧ w2 = w' := hl
  clear hl
  have kp := fun (L : Int) w' => pdq_nil w' L fv
  go_enter Tryz.func130, Tryz.ntmps130
  go_wp2_with (first
    | (go_at_call 192; go_must (refine (hl2 _).mono ?_; rintro e w2 ⟨rfl, rfl⟩))
    | (go_at_call 191; go_must (refine (kp _ _).mono ?_; rintro e w2 ⟨rfl, rfl⟩)))
  go_end0
  exact ⟨rfl, rfl⟩
end Go.Proofs.YtiglgfonhdfpmaaGreat

/- Which panes fire at a mark, and in which order: plain laws over panes that lie in a row. -/
set_option linter.unusedVariables false
set_option linter.unusedSimpArgs false
namespace Go.Proofs.YtiglgfonhdfpmaaGreat
open Go.RowKit

def nowAt (m : Int) (ms : List Pm) (i : Nat) : Bool := match ms[i]? with | some x => x.p.now m | none => false
def nowI (m : Int) (ms : List Pm) (n : Nat) : List Nat := (List.range n).filter (nowAt m ms)
theorem nowI_succ (m : Int) (ms : List Pm) (n : Nat) : nowI m ms (n + 1) = nowI m ms n ++ (if nowAt m ms n = true then [n] else []) := by
  unfold nowI
  rw [List.range_succ, List.filter_append]
  by_cases h : nowAt m ms n = true
  · rw [if_pos h]; simp [h]
  · rw [if_neg h]; simp [h]
def atP (ms : List Pm) (i : Nat) : Option Pn := (ms[i]?).map (·.p)
def panesAt (ms : List Pm) (idx : List Nat) : List Pn := idx.filterMap (atP ms)
theorem panes_now (m : Int) (ms : List Pm) : ∀ n, n ≤ ms.length → panesAt ms (nowI m ms n) = ((ms.take n).map (·.p)).filter (Pn.now m)
  | 0, _ => by simp [panesAt, nowI]
  | n + 1, h => by
    have ih := panes_now m ms n (by omega)
    obtain ⟨x, hx⟩ : ∃ x, ms[n]? = some x := ⟨_, List.getElem?_eq_getElem (by omega)⟩
    have hat : atP ms n = some x.p := by unfold atP; rw [hx]; rfl
    have hno : nowAt m ms n = x.p.now m := by unfold nowAt; rw [hx]
    rw [nowI_succ, take_snoc' hx, List.map_append, List.filter_append, ← ih, hno]
    unfold panesAt
    rw [List.filterMap_append]
    congr 1
    by_cases hn : x.p.now m = true
    · rw [if_pos hn]
      simp [hat, hn]
    · rw [if_neg hn]
      simp [hn]
theorem nowI_mem {m : Int} {ms : List Pm} {n i : Nat} : i ∈ nowI m ms n ↔ i < n ∧ nowAt m ms i = true := by
  unfold nowI
  rw [List.mem_filter, List.mem_range]
theorem nowI_nodup (m : Int) (ms : List Pm) (n : Nat) : (nowI m ms n).Nodup := List.Nodup.sublist List.filter_sublist List.nodup_range
/-- The panes in the order of the sorted places are those that fire, as they fire. -/
theorem fire_order {m : Int} {ms : List Pm} {idx : List Nat} (hord : Ord (ms.map (·.p))) (hp : idx.Perm (nowI m ms ms.length)) (hs : idx.Pairwise fun a b => ∀ x y, ms[a]? = some x → ms[b]? = some y → ¬ y.p.w.cmp x.p.w < 0) :
    panesAt ms idx = sortC ((ms.map (·.p)).filter (Pn.now m)) := by
  have hnd : idx.Nodup := hp.nodup_iff.2 (nowI_nodup m ms ms.length)
  have hne : ∀ (a b : Nat) (x y : Pm), a ≠ b → ms[a]? = some x → ms[b]? = some y → x.p.w ≠ y.p.w := fun a b x y hab hx hy e => by
    have h1 := List.pairwise_iff_getElem.1 hord
    have hal := (List.getElem?_eq_some_iff.1 hx)
    have hbl := (List.getElem?_eq_some_iff.1 hy)
    rcases Nat.lt_or_gt_of_ne hab with h | h
    · have := h1 a b (by simpa using hal.1) (by simpa using hbl.1) h
      simp only [List.getElem_map] at this
      rw [hal.2, hbl.2, e, place_self] at this
      omega
    · have := h1 b a (by simpa using hbl.1) (by simpa using hal.1) h
      simp only [List.getElem_map] at this
      rw [hal.2, hbl.2, e, place_self] at this
      omega
  have hfire : Fire (panesAt ms idx) := by
    unfold Fire panesAt
    rw [List.pairwise_filterMap, List.pairwise_iff_getElem]
    intro i j hi hj hij b hb b' hb'
    have h2 := List.pairwise_iff_getElem.1 hs i j hi hj hij
    have h3 := List.pairwise_iff_getElem.1 hnd i j hi hj hij
    unfold atP at hb hb'
    obtain ⟨x, hx, rfl⟩ := Option.map_eq_some_iff.1 hb
    obtain ⟨y, hy, rfl⟩ := Option.map_eq_some_iff.1 hb'
    have h4 := h2 x y hx hy
    have h5 : x.p.w.cmp y.p.w ≠ 0 := fun e => hne _ _ x y h3 hx hy (cmp_zero e)
    have h6 := cmp_swap x.p.w y.p.w
    omega
  have hperm : (panesAt ms idx).Perm ((ms.map (·.p)).filter (Pn.now m)) := by
    have h1 := panes_now m ms ms.length (Nat.le_refl _)
    rw [List.take_length] at h1
    rw [← h1]
    exact hp.filterMap _
  have hord2 : Ord ((ms.map (·.p)).filter (Pn.now m)) := hord.sublist List.filter_sublist
  exact (sortC_is (ord_ne hord2) hfire hperm).symm
def fire1 (m : Pm) : Pm := ⟨⟨m.p.w, m.p.g, m.p.round + 1⟩, m.ad, m.cap⟩
/-- Panes of which some have fired. -/
def FiredAt (ms cur : List Pm) (idx : List Nat) : Prop := cur.length = ms.length ∧ ∀ k, cur[k]? = if k ∈ idx then (ms[k]?).map fire1 else ms[k]?
theorem fired_nil (ms : List Pm) : FiredAt ms ms [] := ⟨rfl, fun k => by simp⟩
theorem fired_snoc {ms cur : List Pm} {idx : List Nat} {k : Nat} {m : Pm} (h : FiredAt ms cur idx) (hk : k ∉ idx) (hm : ms[k]? = some m) : cur[k]? = some m ∧ FiredAt ms (cur.set k (fire1 m)) (idx ++ [k]) := by
  have h1 : cur[k]? = some m := by rw [h.2, if_neg hk, hm]
  have hlt := (List.getElem?_eq_some_iff.1 h1).1
  refine ⟨h1, by rw [List.length_set]; exact h.1, fun j => ?_⟩
  rw [List.getElem?_set]
  by_cases hjk : k = j
  · subst hjk
    rw [if_pos rfl, if_pos hlt, if_pos (by simp), hm]
    rfl
  · rw [if_neg hjk, h.2]
    by_cases hj : j ∈ idx
    · rw [if_pos hj, if_pos (by simp [hj])]
    · rw [if_neg hj, if_neg (by simp only [List.mem_append, List.mem_singleton]; rintro (h | h); exact hj h; exact hjk h.symm)]
theorem fired_all {m : Int} {ms cur : List Pm} {idx : List Nat} (h : FiredAt ms cur idx) (hp : idx.Perm (nowI m ms ms.length)) : cur.map (·.p) = (ms.map (·.p)).map (Pn.fire m) := by
  refine List.ext_getElem? fun k => ?_
  rw [List.getElem?_map, List.getElem?_map, List.getElem?_map, h.2 k]
  have hmem : k ∈ idx ↔ k < ms.length ∧ nowAt m ms k = true := by rw [hp.mem_iff, nowI_mem]
  cases hx : ms[k]? with
  | none =>
    have : ¬ k < ms.length := by rw [List.getElem?_eq_none_iff] at hx; omega
    rw [if_neg (fun h2 => this (hmem.1 h2).1)]
    rfl
  | some x =>
    have hlt := (List.getElem?_eq_some_iff.1 hx).1
    have hno : nowAt m ms k = x.p.now m := by unfold nowAt; rw [hx]
    simp only [Option.map_some]
    by_cases hn : x.p.now m = true
    · rw [if_pos (hmem.2 ⟨hlt, by rw [hno]; exact hn⟩)]
      have hr : x.p.round = 0 := by
        unfold Pn.now at hn
        simp only [Bool.and_eq_true, decide_eq_true_eq] at hn
        exact hn.1
      unfold Pn.fire
      rw [if_pos hn]
      simp only [Option.map_some, fire1, hr]
      rfl
    · rw [if_neg (fun h2 => hn (by rw [← hno]; exact (hmem.1 h2).2))]
      unfold Pn.fire
      rw [if_neg hn]
      rfl

end Go.Proofs.YtiglgfonhdfpmaaGreat
