import Derived.Test.YtaafedpjifaghaaDoorGp1
import Derived.Test.YtaafedpjifaghaaDoorGp2
import Derived.Test.YtaafedpjifaghaaDoorGp3
import Derived.Test.YtaafedpjifaghaaDoorGp4
import Derived.Test.YtaafedpjifaghaaDoorGp5
import Derived.Test.YtaafedpjifaghaaDoorGp6
import Derived.Test.YtaafedpjifaghaaDoorGp7
import Derived.ProofKit
import Derived.OpenShut
import Derived.Deep.MidRow
import Derived.Lib.ConvBytes
import Derived.ArgAppend
/- The walks of the reference's rogue: among, noughts, Note. Conditions: its blocks lie as its maker lays them. -/
set_option linter.unusedVariables false
set_option linter.unusedSimpArgs false
namespace Go.Proofs.YtaafedpjifaghaaDoor
open Go.RowKit

theorem ref24_among (a n : Int) (w : World) : Calls Tryd.prog 31 #[.int .i64 a, .int .i64 n] w fun e w' => e = .returned (.bool (decide (0 ≤ a) && decide (a < n))) ∧ w' = w := by
  by_cases h : 0 ≤ a
  · have d1 : decide (0 ≤ a) = true := by simpa using h
    rw [d1, Bool.true_and]
    go_enter Tryd.func31, Tryd.ntmps31
    go_wp2
    go_ret
    exact ⟨rfl, rfl⟩
  · have d1 : decide (0 ≤ a) = false := by simpa using h
    rw [d1, Bool.false_and]
    go_enter Tryd.func31, Tryd.ntmps31
    go_wp2
    go_ret
    exact ⟨rfl, rfl⟩
set_option maxHeartbeats 400000 in
set_option maxRecDepth 100000 in
theorem ref24_noughts (w : World) : Calls Tryd.prog 33 #[] w fun e w' => e = .returned (.string (zs 128)) ∧ w' = w := by
  go_enter Tryd.func33, Tryd.ntmps33
  go_wp2
  go_loop [1] (fun s => ∃ k : Nat, k ≤ 128 ∧ s = .string (zs k)) (fun s => match s with | .string x => 128 - x.size | _ => 0)
  case atStart => exact ⟨0, by omega, rfl⟩
  case round =>
    obtain ⟨k, hk, rfl⟩ := hrel
    have hz := size_zs k
    by_cases hlt : k < 128
    · go_wp2
      go_round
      case rel => exact ⟨k + 1, by omega, by rw [zs_succ]⟩
      case measure => rw [zs_succ]; simp only [size_zs]; omega
    · obtain rfl : k = 128 := by omega
      clear hz
      go_wp2
      go_ret
      exact ⟨rfl, rfl⟩

/-- The reference's rogue: its own block; an image, as texts; the images. -/
def RrB (b b2 : Nat) (iv : Value) : SP := Blk b #[.pointer (some ⟨b2, 0, none⟩), iv] 37
def TA (v : Value) (y : List (List UInt8)) : SP := Row 9 1 v y.length (texts y)
def TImgs (iv : Value) (l : List (List (List UInt8))) : SP := Stack TA 64 iv l
def TR (iv : Value) (l : List (List (List UInt8))) (vs : List Value) : SP := Off 64 1 iv l.length vs
theorem info_texts : (Tryd.prog.info? 64).map (fun i => (i.zero, i.size, i.bytes)) = some (some (.slice none 0 0), 1, 24) := by kernel_rfl
theorem one_texts {l : List (List UInt8)} : ∀ u ∈ texts l, u.oneCell' = true := by
  intro u hu
  obtain ⟨x, _, rfl⟩ := List.mem_map.1 hu
  rfl
theorem row_some {w : World} {e : TypeId} {v : Value} {n : Nat} {xs : List Value} {S1 : Nat → Prop} (h : (Row e 1 v n xs).on w S1) (hn : 0 < n) : ∃ g c, v = .slice (some ⟨g, 0, none⟩) n c ∧ n ≤ c := by
  obtain ⟨ao, c, rfl, hc, hg⟩ := slice_form' h.1
  obtain ⟨g, rfl⟩ := hg (by omega)
  exact ⟨g, c, rfl, hc⟩

set_option maxHeartbeats 4000000 in
set_option maxRecDepth 100000 in
theorem ref24_note {b b2 : Nat} {iv : Value} {r : RogM} {w : World} {S : Nat → Prop} (hg : r.Good) (H : Sep w [RrB b b2 iv, RefAt b2 r.s, TImgs iv r.imgs] S) :
    Calls Tryd.prog 11 #[.pointer (some ⟨b, 0, none⟩)] w fun e w' => ∃ iv', e = .returned (.int .i64 r.note.imgs.length) ∧ St S w w' [RrB b b2 iv', RefAt b2 r.s, TImgs iv' r.note.imgs] := by
  have hroom := hg.room
  have hcnt := hg.s.count
  obtain ⟨vs, hvs, H0⟩ := Stack.open ((St.refl H).pick [2, 0, 1])
  obtain ⟨vl, vw, vc, H1⟩ := RefAt.open (St.pick (l := [TR iv r.imgs vs, Pile TA vs r.imgs, RrB b b2 iv, RefAt b2 r.s]) H0 [3, 0, 1, 2])
  have H1 : St S w w [Blk b2 #[vl, vw, .int .i64 r.s.calls, vc] 67, Row 9 1 vl r.s.last.length (texts r.s.last), Row 103 2 vw r.s.waits.length (refWaits r.s.waits), Row 3 1 vc r.s.reads.length (intCells r.s.reads), TR iv r.imgs vs, Pile TA vs r.imgs, RrB b b2 iv] := H1
  obtain ⟨gl, cl, rfl⟩ := row_form (H1.row 1 rfl) (N := r.s.last.length) rfl (by omega)
  obtain ⟨m, imgs⟩ := r
  simp only at hroom H1 hvs hcnt
  obtain ⟨N, hN⟩ : ∃ N, imgs.length = N := ⟨_, rfl⟩
  obtain ⟨M, hM⟩ : ∃ M, m.last.length = M := ⟨_, rfl⟩
  rw [hN] at hvs hroom
  rw [hM] at H1 hcnt
  have hOne := fun l => one_texts (l := l)
  clear H0 H hg
  go_enter Tryd.func11, Tryd.ntmps11
  go_upto_region 1 with (fail)
  refine wp_script_tail 16 [(0, false), (1, false), (2, false), (3, false), (4, false), (6, false), (7, false), (8, false), (9, false), (10, false), (11, false), (12, false), (5, true), (13, true), (14, true), (15, true)] (Fam fun w' => St S w w' [Blk b2 #[.slice (some ⟨gl, 0, none⟩) M cl, vw, .int .i64 m.calls, vc] 67, Row 9 1 (.slice (some ⟨gl, 0, none⟩) M cl) M (texts m.last), RrB b b2 iv]) (fun w' => St S w w' [Blk b2 #[.slice (some ⟨gl, 0, none⟩) M cl, vw, .int .i64 m.calls, vc] 67, Row 9 1 (.slice (some ⟨gl, 0, none⟩) M cl) M (texts m.last), RrB b b2 iv, Row 103 2 vw m.waits.length (refWaits m.waits), Row 3 1 vc m.reads.length (intCells m.reads), TR iv imgs vs, Pile TA vs imgs]) (by kernel_rfl) (by rfl) (by kernel_rfl) (by kernel_rfl) (H1.pick [0, 1, 6, 2, 3, 4, 5]).drew (Fam.st (fun _ h => h.pick [0, 1, 2])) ?_
  iterate 12 first
    | (apply script_pass
       · rfl
       · rfl
       intro K hK
       go_simp
       refine hK _ ?_
       clear hK K)
    | (apply script_step
       · rfl
       · rfl
       · intro I hI w1 h1'
         have h1 := hI.2 _ h1'
         have c0 : w1.cell? ⟨b, 0, none⟩ = some (.pointer (some ⟨b2, 0, none⟩)) := h1.cell 2 0 rfl rfl
         have c1 : w1.cell? ⟨b, 1, none⟩ = some iv := h1.cell 2 1 rfl rfl
         have s0 : w1.cell? ⟨b2, 0, none⟩ = some (.slice (some ⟨gl, 0, none⟩) M cl) := h1.cell 0 0 rfl rfl
         first
           | (go_simp
              first
                | rfl
                | exact ⟨rfl, h1'⟩
             )
       intro K hK
       go_simp
       refine hK _ ?_
       clear hK K)
  refine script_alone rfl rfl ?_
  intro V hV w1 h1
  go_simp
  obtain ⟨gn, hgn⟩ : ∃ g, w1.heap.size = g := ⟨_, rfl⟩
  have H3 : St S w _ (Row 9 1 (.slice (some ⟨gn, 0, none⟩) 0 0) 0 [] :: _) := St.blkRow (n := 0) (size := 1) (h1.allocAt hgn #[] 9) rfl (Nat.zero_le _)
  simp only [hgn]
  refine ⟨fun w' => St S w w' [Row 9 1 (.slice (some ⟨gn, 0, none⟩) 0 0) 0 [], Blk b2 #[.slice (some ⟨gl, 0, none⟩) M cl, vw, .int .i64 m.calls, vc] 67, Row 9 1 (.slice (some ⟨gl, 0, none⟩) M cl) M (texts m.last), RrB b b2 iv, Row 103 2 vw m.waits.length (refWaits m.waits), Row 3 1 vc m.reads.length (intCells m.reads), TR iv imgs vs, Pile TA vs imgs], hV _ _ _ (fun _ h => h) (Fam.st (fun _ h => h.pick [1, 2, 3])) ?_, H3⟩
  intro K hK
  go_simp
  refine hK _ ?_
  clear hK K hV V
  clear H3 h1 hgn w1
  refine script_alone rfl rfl ?_
  intro V hV w1 h1
  have hro := h1.row 2 rfl
  refine St.came_row h1 (.tmp 8) (.tmp 15) 64 rfl Tryd.underlying64 Tryd.info9 (by decide) rfl (texts m.last) rfl (by simp [texts, hM]) (fun h => by cases h) (fun ad had j u hu => by cases had; rw [Addr.add_mid, Nat.zero_add]; exact own_cell hro hu) (hOne _) (by omega) ?_
  intro v2 w2 H4
  simp only [Nat.zero_add, List.nil_append] at H4
  obtain ⟨a3, p3, rfl, _, _⟩ := slice_form' (H4.row 0 rfl)
  refine ⟨fun w' => St S w w' [Row 9 1 (.slice a3 M p3) M (texts m.last), Blk b2 #[.slice (some ⟨gl, 0, none⟩) M cl, vw, .int .i64 m.calls, vc] 67, Row 9 1 (.slice (some ⟨gl, 0, none⟩) M cl) M (texts m.last), RrB b b2 iv, Row 103 2 vw m.waits.length (refWaits m.waits), Row 3 1 vc m.reads.length (intCells m.reads), TR iv imgs vs, Pile TA vs imgs], hV _ _ _ (fun _ h => h) (Fam.st (fun _ h => h.pick [1, 2, 3])) ?_, H4⟩
  intro K hK
  go_simp
  refine hK _ ?_
  clear hK K hV V
  clear H4 hro h1 w1 w2
  refine script_alone rfl rfl ?_
  intro V hV w1 h1
  go_simp
  obtain ⟨gn2, hgn⟩ : ∃ g, w1.heap.size = g := ⟨_, rfl⟩
  have H3 : St S w (w1.alloc (.cells #[.slice a3 M p3] 64)) [Blk gn2 #[.slice a3 M p3] 64, TA (.slice a3 M p3) m.last, Blk b2 #[.slice (some ⟨gl, 0, none⟩) M cl, vw, .int .i64 m.calls, vc] 67, Row 9 1 (.slice (some ⟨gl, 0, none⟩) M cl) M (texts m.last), RrB b b2 iv, Row 103 2 vw m.waits.length (refWaits m.waits), Row 3 1 vc m.reads.length (intCells m.reads), TR iv imgs vs, Pile TA vs imgs] := by unfold TA; rw [hM]; exact h1.allocAt hgn #[.slice a3 M p3] 64
  simp only [hgn]
  refine ⟨fun w' => St S w w' [Blk gn2 #[.slice a3 M p3] 64, TA (.slice a3 M p3) m.last, Blk b2 #[.slice (some ⟨gl, 0, none⟩) M cl, vw, .int .i64 m.calls, vc] 67, Row 9 1 (.slice (some ⟨gl, 0, none⟩) M cl) M (texts m.last), RrB b b2 iv, Row 103 2 vw m.waits.length (refWaits m.waits), Row 3 1 vc m.reads.length (intCells m.reads), TR iv imgs vs, Pile TA vs imgs], hV _ _ _ (fun _ h => h) (Fam.st (fun _ h => h.pick [2, 3, 4])) ?_, H3⟩
  intro K hK
  go_simp
  refine hK _ ?_
  clear hK K hV V
  clear H3 h1 hgn w1
  refine script_alone rfl rfl ?_
  intro V hV w1 h1
  have H3 : St S w w1 (Off 64 1 iv imgs.length vs :: [Blk gn2 #[.slice a3 M p3] 64, TA (.slice a3 M p3) m.last, Blk b2 #[.slice (some ⟨gl, 0, none⟩) M cl, vw, .int .i64 m.calls, vc] 67, Row 9 1 (.slice (some ⟨gl, 0, none⟩) M cl) M (texts m.last), RrB b b2 iv, Row 103 2 vw m.waits.length (refWaits m.waits), Row 3 1 vc m.reads.length (intCells m.reads), Pile TA vs imgs]) := h1.pick [7, 0, 1, 2, 3, 4, 5, 6, 8]
  have hnw := World.news_of_block (h1.blk 0 rfl)
  refine St.came_off H3 (.tmp 7) (.tmp 17) 35 rfl Tryd.underlying35 info_texts (by decide) rfl [Value.slice a3 M p3] rfl rfl hnw (fun u hu => by simp only [List.mem_singleton] at hu; subst hu; rfl) (by omega) ?_
  intro v2 w2 H4
  obtain ⟨S2, H5⟩ := H4.sep.get 0 rfl
  obtain ⟨a2, p2, rfl, hp2, ha2⟩ := Off.shape H5
  refine ⟨fun w' => St S w w' [Off 64 1 (.slice a2 (imgs.length + 1) p2) (imgs.length + 1) (vs ++ [Value.slice a3 M p3]), Blk gn2 #[.slice a3 M p3] 64, TA (.slice a3 M p3) m.last, Blk b2 #[.slice (some ⟨gl, 0, none⟩) M cl, vw, .int .i64 m.calls, vc] 67, Row 9 1 (.slice (some ⟨gl, 0, none⟩) M cl) M (texts m.last), RrB b b2 iv, Row 103 2 vw m.waits.length (refWaits m.waits), Row 3 1 vc m.reads.length (intCells m.reads), Pile TA vs imgs], hV _ _ _ (fun _ h => h) (Fam.st (fun _ h => h.pick [3, 4, 5])) ?_, H4⟩
  intro K hK
  go_simp
  refine hK _ ?_
  clear hK K hV V
  clear H4 H3 H5 hnw h1 w1 w2
  refine script_nil ?_
  intro w3 H3
  simp only [List.drop_succ_cons, List.drop_zero]
  obtain ⟨g2, o2, rfl⟩ := ha2 (by omega)
  have c1 : w3.cell? ⟨b, 1, none⟩ = some iv := H3.cell 5 1 rfl rfl
  have f1 := H3.free 5 1 rfl
  have H4 : St S w _ [_, _, _, _, _, RrB b b2 (.slice (some ⟨g2, o2, none⟩) (imgs.length + 1) p2), _, _, _] := H3.set 5 rfl 1 (.slice (some ⟨g2, o2, none⟩) (imgs.length + 1) p2)
  have H5 : St S w _ [RrB b b2 (.slice (some ⟨g2, o2, none⟩) (imgs.length + 1) p2), Off 64 1 (.slice (some ⟨g2, o2, none⟩) (imgs.length + 1) p2) (imgs.length + 1) (vs ++ [Value.slice a3 M p3]), Pile TA vs imgs, TA (.slice a3 M p3) m.last, Blk b2 #[.slice (some ⟨gl, 0, none⟩) M cl, vw, .int .i64 m.calls, vc] 67, Row 9 1 (.slice (some ⟨gl, 0, none⟩) M cl) M (texts m.last), Row 103 2 vw m.waits.length (refWaits m.waits), Row 3 1 vc m.reads.length (intCells m.reads)] := H4.pick [5, 0, 8, 2, 3, 4, 6, 7]
  clear H3 H4 ha2
  rw [hN] at hp2 H5
  go_upto_region 2 with (fail)
  by_cases h64 : N + 1 ≤ 64
  · have z1 : decide ((64 : Int) < (N : Int) + 1) = false := by simp; omega
    have hfin := Lib.hid (show RogM.note ⟨m, imgs⟩ = ⟨m, imgs ++ [m.last]⟩ by simp [RogM.note, noteImgs, hN]; omega)
    have d1 := H5.cell 0 1 rfl rfl
    obtain ⟨w5, hw5⟩ : ∃ w5, w3.setCell ⟨b, 1, none⟩ (.slice (some ⟨g2, o2, none⟩) (N + 1) p2) = w5 := ⟨_, rfl⟩
    rw [hw5] at H5 d1
    rw [hw5]
    clear hw5 c1 f1
    go_wp2
    go_ret
    rw [hfin.out]
    refine ⟨by simp [hN], .slice (some ⟨g2, o2, none⟩) (N + 1) p2, ?_⟩
    have H6 : St S w w5 [Pile TA (vs ++ [Value.slice a3 M p3]) (imgs ++ [m.last]), _, _, _, _, _, _] := Pile.snoc (by rw [hvs, hN]) (H5.pick [2, 3, 0, 1, 4, 5, 6, 7])
    have H7 : St S w w5 [TImgs _ _, RrB b b2 _, _, _, _, _] := Stack.mk (vs := vs ++ [Value.slice a3 M p3]) (l := imgs ++ [m.last]) (by rw [show (imgs ++ [m.last]).length = N + 1 by simp [hN]]; exact H6.pick [2, 0, 1, 3, 4, 5, 6])
    have H8 : St S w w5 (RefAt b2 m :: _) := RefAt.mk (l := [TImgs _ _, RrB b b2 _]) (vl := .slice (some ⟨gl, 0, none⟩) M cl) (vw := vw) (vc := vc) (by unfold refParts; rw [hM]; exact H7.pick [2, 3, 4, 5, 0, 1])
    exact H8.pick [2, 0, 1]
  · obtain rfl : N = 64 := by omega
    have hfin := Lib.hid (show RogM.note ⟨m, imgs⟩ = ⟨m, (imgs ++ [m.last]).drop 1⟩ by simp [RogM.note, noteImgs, hN])
    have d1 := H5.cell 0 1 rfl rfl
    have f2 := H5.free 0 1 rfl
    obtain ⟨w5, hw5⟩ : ∃ w5, w3.setCell ⟨b, 1, none⟩ (.slice (some ⟨g2, o2, none⟩) (64 + 1) p2) = w5 := ⟨_, rfl⟩
    rw [hw5] at H5 d1 f2
    rw [hw5]
    clear hw5 c1 f1
    have z2 : ¬ p2 = 1 := by omega
    have z3 : (1 : Int) ≤ (p2 : Int) := by omega
    have H6 : St S w _ [RrB b b2 (.slice (some ⟨g2, o2 + 1, none⟩) 64 (p2 - 1)), _, _, _, _, _, _, _] := H5.set 0 rfl 1 (.slice (some ⟨g2, o2 + 1, none⟩) 64 (p2 - 1))
    have c2 := H6.cell 0 1 rfl rfl
    go_wp2
    go_ret
    rw [hfin.out]
    refine ⟨by simp [hN], .slice (some ⟨g2, o2 + 1, none⟩) 64 (p2 - 1), ?_⟩
    have H7 : St S w _ [Pile TA (vs ++ [Value.slice a3 M p3]) (imgs ++ [m.last]), _, _, _, _, _, _] := Pile.snoc (by rw [hvs, hN]) (H6.pick [2, 3, 0, 1, 4, 5, 6, 7])
    have H8 : St S w _ [Off 64 1 (.slice (some ⟨g2, o2 + 1, none⟩) 64 (p2 - 1)) 64 ((vs ++ [Value.slice a3 M p3]).drop 1), _, _, _, _, _, _] := St.off_drop (k := 1) (m := 64) (H7.pick [2, 0, 1, 3, 4, 5, 6]) rfl (by omega)
    have hcv : ∃ v0 vt, vs ++ [Value.slice a3 M p3] = v0 :: vt := by cases vs with | nil => exact ⟨_, _, rfl⟩ | cons x r => exact ⟨_, _, rfl⟩
    have hci : ∃ y0 yt, imgs ++ [m.last] = y0 :: yt := by cases imgs with | nil => exact ⟨_, _, rfl⟩ | cons x r => exact ⟨_, _, rfl⟩
    obtain ⟨v0, vt, ev⟩ := hcv
    obtain ⟨y0, yt, ei⟩ := hci
    have hl64 : ((imgs ++ [m.last]).drop 1).length = 64 := by simp [hN]
    rw [ei] at hl64
    rw [ev, ei] at H8
    rw [ei]
    have H9 := (Pile.tail (H8.pick [1, 0, 2, 3, 4, 5, 6])).pick [1, 0, 2, 3, 4, 5, 6]
    have H10 : St S w _ [TImgs _ _, RrB b b2 _, _, _, _, _] := Stack.mk (vs := vt) (l := yt) (by rw [show yt.length = 64 from hl64]; exact H9)
    have H11 : St S w _ (RefAt b2 m :: _) := RefAt.mk (l := [TImgs _ _, RrB b b2 _]) (vl := .slice (some ⟨gl, 0, none⟩) M cl) (vw := vw) (vc := vc) (by unfold refParts; rw [hM]; exact H10.pick [2, 3, 4, 5, 0, 1])
    exact H11.pick [2, 0, 1]

end Go.Proofs.YtaafedpjifaghaaDoor

/- What came in, read by its type: integers, texts, structs, arrays, slices of these. Laws over any program. No condition of its own. -/
set_option linter.unusedVariables false
set_option linter.unusedSimpArgs false
namespace Go.Proofs.YtaafedpjifaghaaDoor
open Go.RowKit

/-- These cells read as a value of this type. -/
def R (P : Program) (w : World) (t : TypeId) (cs : List Value) : Prop :=
  ∃ (H : Type) (enc : TypeId × Value → H) (spare : Nat → Bool) (held : Bool) (fuel : Nat) (x : DataW H × List MemPlace), DataW.trod enc P w 0 spare held fuel t cs = some x

section
variable {P : Program} {w : World} {t e : TypeId} {cs : List Value}
theorem R.int {k : IntKind} (ht : P.underlying t = some (.int k)) (h : R P w t cs) : ∃ n, cs = [.int k n] ∧ (Lit.int k n).wf = true := by
  obtain ⟨H, enc, spare, held, fuel, x, h⟩ := h
  obtain ⟨n, h1, _, h2⟩ := DataW.trod_int ht h
  exact ⟨n, h1, h2⟩
theorem R.bool (ht : P.underlying t = some .bool) (h : R P w t cs) : ∃ b, cs = [.bool b] := by
  obtain ⟨H, enc, spare, held, fuel, x, h⟩ := h
  obtain ⟨n, h1, _⟩ := DataW.trod_bool ht h
  exact ⟨n, h1⟩
theorem R.text (ht : P.underlying t = some .string) (h : R P w t cs) : ∃ s : ByteArray, cs = [.string s] ∧ s.size ≤ maxLen := by
  obtain ⟨H, enc, spare, held, fuel, x, h⟩ := h
  obtain ⟨n, h1, _, h2⟩ := DataW.trod_string ht h
  exact ⟨n, h1, h2⟩
theorem R.struct {fs : Array Field} (ht : P.underlying t = some (.struct fs)) (h : R P w t cs) : cs.length = P.cellsOf t ∧ ∀ (i : Nat) (f : Field), fs[i]? = some f → R P w f.type ((cs.drop f.offset).take (P.cellsOf f.type)) := by
  obtain ⟨H, enc, spare, held, fuel, x, h⟩ := h
  obtain ⟨xs, n, rfl, rfl, h1, h2, h3⟩ := DataW.trod_struct ht h
  refine ⟨h1, fun i f hf => ?_⟩
  have hi : i < xs.length := by rw [h2]; exact (Array.getElem?_eq_some_iff.1 hf).1
  exact ⟨H, enc, spare, held, n, xs[i], by rw [h3 i f hf, List.getElem?_eq_getElem hi]⟩
theorem R.array {n : Nat} (ht : P.underlying t = some (.array n e)) (h : R P w t cs) : cs.length = P.cellsOf t ∧ ∀ i, i < n → R P w e ((cs.drop (i * P.cellsOf e)).take (P.cellsOf e)) := by
  obtain ⟨H, enc, spare, held, fuel, x, h⟩ := h
  obtain ⟨xs, m, rfl, rfl, h1, h2, h3⟩ := DataW.trod_array ht h
  refine ⟨h1, fun i hi => ?_⟩
  have hi' : i < xs.length := by omega
  exact ⟨H, enc, spare, held, m, xs[i], by rw [h3 i hi, List.getElem?_eq_getElem hi']⟩
theorem cells_range {b o n : Nat} {cs' : List Value} (h : w.cells? 0 ⟨b, o, none⟩ n = some cs') : cs'.length = n ∧ w.rangeAt b o cs' := by
  obtain ⟨_, h1, h2⟩ := World.cells?_some h
  refine ⟨h1, fun j v hj => ?_⟩
  have hjl : j < n := by rw [← h1]; exact (List.getElem?_eq_some_iff.1 hj).1
  have := h2 j hjl
  rw [Addr.add_mid] at this
  rw [this, hj]
theorem R.slice {size : Nat} (ht : P.underlying t = some (.slice e)) (hs : P.cellsOf e = size) (hp : 0 < size) (h : R P w t cs) :
    ∃ ao len cap, cs = [.slice ao len cap] ∧ len ≤ cap ∧ cap ≤ maxLen ∧ (0 < len → ∃ b o, ao = some ⟨b, o, none⟩ ∧ b < w.heap.size ∧ ∀ i, i < len → ∃ cs', cs'.length = size ∧ w.rangeAt b (o + i * size) cs' ∧ R P w e cs') := by
  obtain ⟨H, enc, spare, held, fuel, x, h⟩ := h
  rcases DataW.trod_slice ht h with ⟨h0, _⟩ | ⟨a, len, cap, elems, rest, n, rfl, hcs, _, hb, hl, hm, hlen, hel, _⟩
  · exact ⟨none, 0, 0, h0, by omega, by simp, fun h => absurd h (by omega)⟩
  · refine ⟨some a, len, cap, hcs, hl, hm, fun h0 => ?_⟩
    obtain ⟨b, o, spot⟩ := a
    have hspot : spot = none := by
      have h1 := hel 0 h0
      rw [List.getElem?_eq_getElem (by omega)] at h1
      obtain ⟨cs', hc, _⟩ := Option.bind_eq_some_iff.1 h1
      rw [hs] at hc
      obtain ⟨_, g1, g2⟩ := World.cells?_some hc
      have g3 := g2 0 hp
      rw [List.getElem?_eq_getElem (by omega)] at g3
      have := World.cell?_spot g3
      simpa [Addr.add] using this
    subst hspot
    have hall : ∀ i, i < len → ∃ cs', cs'.length = size ∧ w.rangeAt b (o + i * size) cs' ∧ R P w e cs' := by
      intro i hi
      have h1 := hel i hi
      rw [List.getElem?_eq_getElem (by omega)] at h1
      obtain ⟨cs', hc, hx⟩ := Option.bind_eq_some_iff.1 h1
      rw [hs, Addr.add_mid] at hc
      obtain ⟨g1, g2⟩ := cells_range hc
      exact ⟨cs', g1, g2, H, enc, spare, held, n, _, hx⟩
    obtain ⟨cs', g1, g2, _⟩ := hall 0 h0
    refine ⟨b, o, rfl, ?_, hall⟩
    have := g2 0 _ (List.getElem?_eq_getElem (by omega))
    exact World.block_lt_of_cell? _ _ this
end

end Go.Proofs.YtaafedpjifaghaaDoor

/- What came in, as plain lists: bytes, bools, integers. Laws over any program. No condition of its own. -/
set_option linter.unusedVariables false
set_option linter.unusedSimpArgs false
namespace Go.Proofs.YtaafedpjifaghaaDoor
open Go.RowKit

theorem list_of {α : Type} {p : Nat → α → Prop} : ∀ n, (∀ i, i < n → ∃ x, p i x) → ∃ l : List α, l.length = n ∧ ∀ i x, l[i]? = some x → p i x
  | 0, _ => ⟨[], rfl, fun i x h => by simp at h⟩
  | n + 1, h => by
    obtain ⟨l, h1, h2⟩ := list_of n (fun i hi => h i (by omega))
    obtain ⟨x, hx⟩ := h n (by omega)
    refine ⟨l ++ [x], by simp [h1], fun i y hi => ?_⟩
    by_cases hq : i < n
    · rw [List.getElem?_append_left (by omega)] at hi
      exact h2 i y hi
    · have hlt := (List.getElem?_eq_some_iff.1 hi).1
      simp [h1] at hlt
      obtain rfl : i = n := by omega
      rw [List.getElem?_append_right (by omega)] at hi
      simp [h1] at hi
      subst hi
      exact hx
theorem max_len : maxLen ≤ 9223372036854775807 := by simp [maxLen]

section
variable {P : Program} {w : World} {t e : TypeId} {cs : List Value}
/-- A slice whose elements each read as something. -/
theorem R.list {α : Type} {p : List Value → α → Prop} {size : Nat} (ht : P.underlying t = some (.slice e)) (hs : P.cellsOf e = size) (hp : 0 < size) (hr : ∀ cs', R P w e cs' → ∃ x, p cs' x) (h : R P w t cs) :
    ∃ ao cap, ∃ l : List α, cs = [.slice ao l.length cap] ∧ l.length ≤ cap ∧ l.length ≤ 9223372036854775807 ∧
      (l ≠ [] → ∃ b o, ao = some ⟨b, o, none⟩ ∧ b < w.heap.size ∧ ∀ i x, l[i]? = some x → ∃ cs', cs'.length = size ∧ w.rangeAt b (o + i * size) cs' ∧ p cs' x) := by
  obtain ⟨ao, len, cap, rfl, h1, h2, h3⟩ := R.slice ht hs hp h
  have hm := max_len
  by_cases h0 : len = 0
  · subst h0
    exact ⟨ao, cap, [], rfl, by simp, by simp, fun h => absurd rfl h⟩
  · obtain ⟨b, o, rfl, hb, hc⟩ := h3 (by omega)
    obtain ⟨l, hl, hx⟩ := list_of (p := fun i x => ∃ cs', cs'.length = size ∧ w.rangeAt b (o + i * size) cs' ∧ p cs' x) len (fun i hi => by
      obtain ⟨cs', g1, g2, g3⟩ := hc i hi
      obtain ⟨x, hx⟩ := hr cs' g3
      exact ⟨x, cs', g1, g2, hx⟩)
    exact ⟨_, cap, l, by rw [hl], by omega, by omega, fun _ => ⟨b, o, rfl, hb, hx⟩⟩
theorem R.bytes (ht : P.underlying t = some (.slice e)) (he : P.underlying e = some (.int .u8)) (hs : P.cellsOf e = 1) (h : R P w t cs) :
    ∃ v l, cs = [v] ∧ BytesRO (fun _ => False) w v l ∧ l.length ≤ 9223372036854775807 := by
  obtain ⟨ao, cap, l, rfl, h1, h2, h3⟩ := R.list (p := fun cs (x : UInt8) => cs = [bv x]) ht hs (by omega) (fun cs' h => by
    obtain ⟨n, rfl, hw⟩ := R.int he h
    simp only [Lit.wf, Bool.and_eq_true, decide_eq_true_eq] at hw
    have e1 : IntKind.u8.min = 0 := rfl
    have e2 : IntKind.u8.max = 255 := rfl
    refine ⟨UInt8.ofNat n.toNat, ?_⟩
    have : (UInt8.ofNat n.toNat).toNat = n.toNat := by simp [UInt8.toNat_ofNat']; omega
    simp only [bv, this]
    rw [Int.toNat_of_nonneg (by omega)]) h
  refine ⟨_, l, rfl, ⟨ao, cap, rfl, h1, fun hl => ?_⟩, h2⟩
  obtain ⟨b, o, rfl, hb, hc⟩ := h3 hl
  refine ⟨b, o, rfl, hb, id, fun i hi => ?_⟩
  obtain ⟨cs', _, g2, rfl⟩ := hc i l[i] (List.getElem?_eq_getElem hi)
  have := g2 0 _ rfl
  simpa using this
theorem R.bools (ht : P.underlying t = some (.slice e)) (he : P.underlying e = some .bool) (hs : P.cellsOf e = 1) (h : R P w t cs) :
    ∃ v l, cs = [v] ∧ BoolsRO (fun _ => False) w v l := by
  obtain ⟨ao, cap, l, rfl, h1, h2, h3⟩ := R.list (p := fun cs (x : Bool) => cs = [.bool x]) ht hs (by omega) (fun cs' h => by
    obtain ⟨n, rfl⟩ := R.bool he h
    exact ⟨n, rfl⟩) h
  refine ⟨_, l, rfl, ⟨ao, cap, rfl, h2, fun hl => ?_⟩⟩
  obtain ⟨b, o, rfl, hb, hc⟩ := h3 hl
  refine ⟨b, o, rfl, hb, id, fun i hi => ?_⟩
  obtain ⟨cs', _, g2, rfl⟩ := hc i l[i] (List.getElem?_eq_getElem hi)
  have := g2 0 _ rfl
  simpa using this
/-- A field of a struct. -/
theorem R.field {fs : Array Field} (ht : P.underlying t = some (.struct fs)) (h : R P w t cs) (i : Nat) {f : Field} (hf : fs[i]? = some f) {o n : Nat} {e : TypeId} (ho : f.offset = o) (he : f.type = e) (hn : P.cellsOf e = n) :
    R P w e ((cs.drop o).take n) := by
  subst ho he hn
  exact (R.struct ht h).2 i f hf
end

end Go.Proofs.YtaafedpjifaghaaDoor

/- StorePlays: ops that came in; bytes lent while others lie there. -/
set_option linter.unusedVariables false
set_option linter.unusedSimpArgs false
namespace Go.Proofs.YtaafedpjifaghaaDoor
open Go.RowKit

/-- An op as it lies in memory. -/
structure OpV where
  kind : Int
  at' : Int
  n : Int
  Bv : Value
  kv : Value
  B : List UInt8
  keep : List Bool
def OpV.fits (w : World) (x : OpV) : Prop := (-9223372036854775808 ≤ x.kind ∧ x.kind ≤ 9223372036854775807) ∧ (-9223372036854775808 ≤ x.at' ∧ x.at' ≤ 9223372036854775807) ∧ (-9223372036854775808 ≤ x.n ∧ x.n ≤ 9223372036854775807) ∧ BytesRO (fun _ => False) w x.Bv x.B ∧ x.B.length ≤ 9223372036854775807 ∧ BoolsRO (fun _ => False) w x.kv x.keep
def OpsRO (w : World) (v : Value) (l : List OpV) : Prop :=
  ∃ ad cap, v = .slice ad l.length cap ∧ l.length ≤ 9223372036854775807 ∧ (∀ x ∈ l, x.fits w) ∧
    (l ≠ [] → ∃ b o, ad = some ⟨b, o, none⟩ ∧ b < w.heap.size ∧ ∀ i x, l[i]? = some x → w.rangeAt b (o + i * 5) (opCells x.kind x.at' x.n x.Bv x.kv).toList)
theorem opv_bounds {n : Int} (h : (Lit.int .i64 n).wf = true) : -9223372036854775808 ≤ n ∧ n ≤ 9223372036854775807 := by
  simp only [Lit.wf, Bool.and_eq_true, decide_eq_true_eq] at h
  simp [IntKind.min, IntKind.max, IntKind.signed, IntKind.bits] at h
  exact h
theorem BoolsRO.free {S : Nat → Prop} {w : World} {v : Value} {l : List Bool} (h : BoolsRO S w v l) : BoolsRO (fun _ => False) w v l := by
  obtain ⟨ad, cap, h1, h2, h3⟩ := h
  refine ⟨ad, cap, h1, h2, fun hl => ?_⟩
  obtain ⟨b, o, g1, g2, _, g4⟩ := h3 hl
  exact ⟨b, o, g1, g2, id, g4⟩
theorem St.lendBoolsS {S : Nat → Prop} {w0 w : World} {l1 rest : List SP} {v : Value} {bs : List Bool} (H : St S w0 w (l1 ++ rest)) (hv : BoolsRO S w0 v bs) :
    ∃ S1, Sep w l1 S1 ∧ BoolsRO S1 w v bs ∧ ∀ w' l1', St S1 w w' l1' → St S w0 w' (l1' ++ rest) := by
  obtain ⟨S1, h1, h2, _, h4⟩ := St.call2 H
  obtain ⟨ad, cap, e1, e2, e3⟩ := hv
  refine ⟨S1, h1, ⟨ad, cap, e1, e2, fun hl => ?_⟩, h4⟩
  obtain ⟨b, o, g1, g2, g3, g4⟩ := e3 hl
  exact ⟨b, o, g1, Nat.lt_of_lt_of_le g2 H.size, fun hs => (h2 b hs).elim g3 (fun h => by omega), fun i hi => (World.cell?_of_block (w := w0) (H.kept.block b g2 g3)).trans (g4 i hi)⟩
/-- Bytes that are lent to calls on other parts, with what bears them. -/
def Lent (S : Nat → Prop) (w0 : World) (v : Value) (X : List UInt8) (P : SP) : Prop :=
  ∀ (w' : World) (l1 rest : List SP), St S w0 w' (l1 ++ (P :: rest)) → ∃ S1, Sep w' l1 S1 ∧ BytesRO S1 w' v X ∧ ∀ w'' l1', St S1 w' w'' l1' → St S w0 w'' (l1' ++ (P :: rest))
theorem Lent.conv {S : Nat → Prop} {w0 : World} {v : Value} {X : List UInt8} {P : SP} (h : Lent S w0 v X P) {w' : World} {rest : List SP} (H : St S w0 w' (P :: rest)) : (convert 38 9 v).run Tryd.prog w' = .ok (.string ⟨X.toArray⟩) w' := by
  obtain ⟨S1, _, h2, _⟩ := h w' [] rest H
  exact conv_ro' h2 (fun _ _ _ => rfl)
/-- Load of what is of no right length. -/
theorem store_load_bad {b : Nat} {m : StM} {ad : Option Addr} {n cap : Nat} {w : World} {S : Nat → Prop} (hg : m.Good) (hn : n ≠ 128 * m.last.length) (H : Sep w [StoreAt b m] S) :
    Calls Tryd.prog 54 #[.pointer (some ⟨b, 0, none⟩), .slice ad n cap] w fun e w' => e = .returned (.bool false) ∧ w = w' := by
  have hcnt := hg.count
  obtain ⟨bl, br, vw, H0⟩ := StoreAt.out H
  have H3 : St S w w [StoreB b (.slice (some ⟨bl, 0, none⟩) m.last.length m.last.length) vw (.slice (some ⟨br, 0, none⟩) m.last.length m.last.length) m.calls, Blk bl (lastCells m.last).toArray 72, Blk br (intCells m.reads).toArray 3, Row 97 129 vw m.waits.length (waitCells m.waits)] := St.refl H0
  have c0 := H3.cell 0 0 rfl rfl
  have hwr : IntKind.i64.wrap (128 * (m.last.length : Int)) = 128 * (m.last.length : Int) := by rw [IntKind.wrap_i64]; omega
  have y1 : ((n : Int) != 128 * (m.last.length : Int)) = true := by simp; omega
  clear hn H0 H3
  go_enter Tryd.func54, Tryd.ntmps54
  go_wp2
  go_ret
  exact ⟨rfl, rfl⟩

end Go.Proofs.YtaafedpjifaghaaDoor

/- A text turned into bytes: fresh, lent to calls, appended to. Laws over any program of these types. -/
set_option linter.unusedVariables false
set_option linter.unusedSimpArgs false
namespace Go.Proofs.YtaafedpjifaghaaDoor
open Go.RowKit

/-- Fresh bytes of a text. -/
def Conv (v : Value) (l : List UInt8) : SP where
  on w S := ∃ g cap cur, v = .slice (some ⟨g, 0, none⟩) l.length cap ∧ w.heap[g]? = some (.cells cur 5 (cur.size, cur.size + 1)) ∧ cur.size = cap ∧ l.length ≤ cap ∧ (∀ i (hi : i < l.length), cur[i]? = some (bv l[i])) ∧ ∀ k, S k ↔ k = g
  loc w w' S h hs := by
    obtain ⟨g, cap, cur, h1, h2, h3, h5, h6, h4⟩ := h
    exact ⟨g, cap, cur, h1, (hs g ((h4 g).2 rfl)).trans h2, h3, h5, h6, h4⟩
  lt w S k h hk := by
    obtain ⟨g, cap, cur, h1, h2, h3, h5, h6, h4⟩ := h
    obtain rfl := (h4 k).1 hk
    exact Go.Proofs.YtaafedpjifaghaaDoor.blk_lt h2
theorem conv_new {S : Nat → Prop} {w0 w : World} {L : List SP} (H : St S w0 w L) (bs : List UInt8) : ∃ cap w1, (convert 9 38 (.string ⟨bs.toArray⟩)).run Tryd.prog w = .ok (.slice (some ⟨w.heap.size, 0, none⟩) bs.length cap) w1 ∧
    St S w0 w1 (Conv (.slice (some ⟨w.heap.size, 0, none⟩) bs.length cap) bs :: L) := by
  have hsz := text_len bs
  refine ⟨grownCap w bs.length 0 5, Lib.bytesWorld w 5 ⟨bs.toArray⟩, by rw [Lib.run_convert_string_bytes (P := Tryd.prog) w 9 38 5 ⟨bs.toArray⟩ Tryd.underlying9 Tryd.underlying38 Tryd.underlying5, hsz], ?_⟩
  have hb : Below w.heap.size w (Lib.bytesWorld w 5 ⟨bs.toArray⟩) := ⟨rfl, rfl, rfl, by rw [Lib.bytesWorld_size]; omega, fun j hj => Lib.bytesWorld_at_old _ _ _ _ hj⟩
  have H1 := H.past hb
  have hge := grownCap_ge w bs.length 0 5
  refine ⟨H1.kept, fun k => k = w.heap.size, ⟨w.heap.size, _, _, rfl, Lib.bytesWorld_at_new _ _ _, ?_, hge, fun i hi => ?_, fun _ => Iff.rfl⟩, fun k e => .inr (by have := H.size; omega), ?_⟩
  · simp [Lib.bytesCells]
    rw [hsz]
    omega
  · simp [Lib.bytesCells, Array.getElem?_append, hi, bv]
  · refine (H.sep.clip.move (fun k hk _ => hb.block k hk)).mono ?_
    rintro k _ ⟨a, b⟩
    exact ⟨a, by omega⟩
theorem St.lendConv {S : Nat → Prop} {w0 w : World} {l1 rest : List SP} {v : Value} {bs : List UInt8} (H : St S w0 w (l1 ++ (Conv v bs :: rest))) :
    ∃ S1, Sep w l1 S1 ∧ BytesRO S1 w v bs ∧ ∀ w' l1', St S1 w w' l1' → St S w0 w' (l1' ++ (Conv v bs :: rest)) := by
  obtain ⟨S1, h1, h2, S2, g1, g2, g3⟩ := H.sep.split
  obtain ⟨g, cap, cur, e1, e2, e3, e5, e6, e4⟩ := id g1
  have hg : ¬ S1 g := (g2 g ((e4 g).2 rfl)).2
  refine ⟨S1, h2, ⟨_, cap, e1, e5, fun _ => ⟨g, 0, rfl, Go.Proofs.YtaafedpjifaghaaDoor.blk_lt e2, hg, fun i hi => ?_⟩⟩, fun w' l1' G => ?_⟩
  · rw [Nat.zero_add, cell_blk e2]
    exact e6 i hi
  · refine ⟨?_, ?_⟩
    · refine H.kept.trans' G.kept (fun i hi hs => ?_)
      rcases (h1 i hs).1 with a | a
      · exact a
      · omega
    · have hsz := H.kept.size
      have h3 : Sep w (Conv v bs :: rest) (fun k => (S k ∨ w0.heap.size ≤ k) ∧ ¬ S1 k) := ⟨S2, g1, g2, g3⟩
      refine Sep.join G.sep ?_ (((h3.clip).move ?_).mono ?_)
      · rintro k _ (a | a)
        · exact (h1 k a).1
        · exact .inr (by omega)
      · rintro k hk ⟨⟨_, b⟩, _⟩
        exact G.kept.block k hk b
      · rintro k _ ⟨⟨a, b⟩, c⟩
        exact ⟨a, by rintro (d | d); exact b d; omega⟩
theorem setCells_other {b : Nat} : ∀ (vs : List Value) (o : Nat) (w : World) {k : Nat}, k ≠ b → (w.setCells b o vs).heap[k]? = w.heap[k]?
  | [], _, _, _, _ => rfl
  | v :: r, o, w, k, h => by rw [World.setCells, setCells_other r (o + 1) _ h, set_other h]
theorem setCells_size {b : Nat} : ∀ (vs : List Value) (o : Nat) (w : World), (w.setCells b o vs).heap.size = w.heap.size ∧ (w.setCells b o vs).os = w.os ∧ (w.setCells b o vs).tape = w.tape ∧ (w.setCells b o vs).output = w.output
  | [], _, _ => ⟨rfl, rfl, rfl, rfl⟩
  | v :: r, o, w => by
    obtain ⟨h1, h2, h3, h4⟩ := setCells_size r (o + 1) (w.setCell ⟨b, o, none⟩ v)
    rw [World.setCells]
    exact ⟨h1.trans (by simp), h2, h3, h4⟩
theorem new_byte (w : World) (t : TypeId) : (w.alloc (.cells #[.int .u8 0] t)).cell? ⟨w.heap.size, 0, none⟩ = some (bv 0) := by
  rw [cell_blk (heap_alloc_new w (.cells #[.int .u8 0] t))]
  simp [bv]
/-- A guarded operation that is wanted is as one without a guard. -/
theorem wpList_want {P : Program} {ops : Array Oper} {Q : Exit → Act → World → Prop} {a : Act} {w : World} {rest : List Oper} {dst : Option Tmp} {op : Op} {ty : TypeId} {pos : String} {after : Array Edge} {g : Option (Nat × Bool)}
    (hw : Region.wanted ⟨dst, op, ty, pos, after, g⟩ (yielded ops a.tmps) = true) (h : wpList P ops Q (⟨dst, op, ty, pos, after, none⟩ :: rest) a w) : wpList P ops Q (⟨dst, op, ty, pos, after, g⟩ :: rest) a w := by
  rw [wpList, if_pos hw]
  rw [wpList, if_pos (by simp [Region.wanted])] at h
  exact h
/-- One more byte behind fresh ones, at a plain region's operation: the slice is longer by one, all else as it was. -/
theorem list_conv_add {S : Nat → Prop} {w0 w : World} {L : List SP} {bs : List UInt8} {g n cap : Nat} (H : St S w0 w (Conv (.slice (some ⟨g, 0, none⟩) n cap) bs :: L)) (hlen : bs.length = n) (hn : n ≤ 1000000000)
    {ops : Array Oper} {rest : List Oper} {o : Oper} {a : Act} {Q : Exit → Act → World → Prop} (hgd : o.guard = none) (s x : Operand) (ho : o.op = .call { callee := .builtin .append, args := #[s, x], argTypes := #[38, 38] })
    (hs : a.eval s = .slice (some ⟨g, 0, none⟩) n cap) {ad : Addr} {c : Nat} (u : UInt8) (hx : a.eval x = .slice (some ad) 1 c) (hnew : w.cell? ad = some (bv u))
    (h : ∀ ao cap' w', St S w0 w' L → wpList Tryd.prog ops Q rest (a.put o.dst (.slice ao (n + 1) cap')) w') : wpList Tryd.prog ops Q (o :: rest) a w := by
  obtain ⟨ti, hti, hz, hsz, hby⟩ := info_parts Tryd.info5
  obtain ⟨S1, hC, hturn⟩ := H.turn 0 rfl
  obtain ⟨g', cap', cur, e1, e2, e3, e5, e6, e4⟩ := id hC
  cases e1
  have hadd : ∀ (j : Nat) (v : Value), [bv u][j]? = some v → w.cell? (ad.add j) = some v := by
    intro j v hj
    cases j with
    | zero =>
      have : ad.add 0 = ad := by cases ad; simp [Addr.add]
      rw [this, hnew, ← hj]
      rfl
    | succ j => simp at hj
  refine wpList_append_arg w hgd s x 38 ho 5 ti (.int .u8 0) 1 1 Tryd.underlying38 hti hz hsz hby rfl (by omega) g 0 bs.length cap (bvs bs) hs (by rw [length_bvs, Nat.mul_one]) ?_ ad 1 c [bv u] hx rfl hadd (by simp [one_bv]) ?_ (by unfold maxLen; omega) (by omega) ?_ ?_
  · intro j v hj
    have hjl : j < bs.length := by have := (List.getElem?_eq_some_iff.1 hj).1; rwa [length_bvs] at this
    rw [Nat.zero_add, cell_blk e2, e6 j hjl, ← hj]
    simp [bvs, hjl]
  · intro hr j hj
    have hj0 : j = 0 := by simpa using hj
    subst hj0
    have hlt : bs.length < cur.size := by omega
    refine ⟨?_, ?_⟩
    · rw [Nat.zero_add, Nat.mul_one, Nat.add_zero, cell_blk e2, Array.getElem?_eq_getElem hlt]
      rfl
    · simp [World.frozen?, e2]
      omega
  · intro hr
    refine h _ _ _ ?_
    obtain ⟨q1, q2, q3, q4⟩ := setCells_size (b := g) [bv u] (0 + bs.length * 1) w
    have H2 : St S w0 _ (SP.all [] :: L) := hturn (A' := SP.all []) (S1' := fun _ => False) ⟨q2, q3, q4, by rw [q1]; exact Nat.le_refl _, fun k _ hk => setCells_other _ _ _ (fun e => hk ((e4 k).2 e))⟩ ⟨trivial, fun _ h => h.elim⟩ (fun _ h => h.elim)
    exact St.all_iff.1 H2
  · intro hr v' w' hown hgrow
    rcases own_shape hown with ⟨rfl, h0⟩ | ⟨g2, cap2, rfl, _⟩
    · omega
    · refine h _ _ _ ?_
      have hb : Below w.heap.size w w' := ⟨hgrow.os, hgrow.tape, hgrow.output, hgrow.size, fun k hk => hgrow.block k hk (by simp)⟩
      exact (H.past hb).tail

end Go.Proofs.YtaafedpjifaghaaDoor

/- Laws for the reference's rogue's Do: the old image's number; texts. -/
set_option linter.unusedVariables false
set_option linter.unusedSimpArgs false
namespace Go.Proofs.YtaafedpjifaghaaDoor
open Go.RowKit

theorem old_cases (n : Int) (m : StM) (imgs : List (List (List UInt8))) : imgs.length = 0 ∧ (if imgs = [] then 0 else (RogM.mk m imgs).ix n) = 0 ∨
    0 < imgs.length ∧ n.tmod imgs.length < 0 ∧ ((if imgs = [] then 0 else (RogM.mk m imgs).ix n : Nat) : Int) = n.tmod imgs.length + imgs.length ∧ (if imgs = [] then 0 else (RogM.mk m imgs).ix n) < imgs.length ∨
    0 < imgs.length ∧ 0 ≤ n.tmod imgs.length ∧ ((if imgs = [] then 0 else (RogM.mk m imgs).ix n : Nat) : Int) = n.tmod imgs.length ∧ (if imgs = [] then 0 else (RogM.mk m imgs).ix n) < imgs.length := by
  by_cases h0 : imgs = []
  · subst h0
    exact .inl ⟨rfl, rfl⟩
  · rw [if_neg h0]
    have hp : 0 < imgs.length := List.length_pos_iff.2 h0
    obtain ⟨k1, k2, k3⟩ := ix_mod n imgs.length hp
    have hlt := ix_lt (r := ⟨m, imgs⟩) h0 n
    have e : (RogM.mk m imgs).ix n = (n % (imgs.length : Int)).toNat := rfl
    rw [← e, Int.tmod_eq_emod_of_nonneg (by omega)] at k1
    have hlt : (RogM.mk m imgs).ix n < imgs.length := hlt
    by_cases hn : n.tmod imgs.length < 0
    · refine .inr (.inl ⟨hp, hn, ?_, hlt⟩)
      rw [Int.emod_eq_of_lt (by omega) (by omega)] at k1
      exact k1.symm
    · refine .inr (.inr ⟨hp, by omega, ?_, hlt⟩)
      rw [Int.add_emod_right, Int.emod_eq_of_lt (by omega) k3] at k1
      exact k1.symm

theorem mblk_at {m : StM} {p : Nat} (h : p < m.last.length) : m.last[p]? = some (m.blk p) := by
  unfold StM.blk
  rw [Int.toNat_natCast, List.getD_eq_getElem?_getD, List.getElem?_eq_getElem h]
  rfl
/-- Lay of a text, in the midst of a call. -/
theorem lay_text {b2 : Nat} {m : StM} {at' : Int} {X : List UInt8} {w0 w : World} {L : List SP} {S : Nat → Prop} (hg : m.Good) (hl : X.length ≤ 9223372036854775807) (ok : (m.lay at' X).1 = true) (H : St S w0 w (RefAt b2 m :: L)) :
    Calls Tryd.prog 32 #[.pointer (some ⟨b2, 0, none⟩), .int .i64 at', .string ⟨X.toArray⟩] w fun e w' => e = .returned (.bool true) ∧ St S w0 w' (RefAt b2 (m.lay at' X).2 :: L) := by
  obtain ⟨S1, K1, G1⟩ := St.call (l1 := [_]) H
  refine (ref_lay hg hl K1).mono ?_
  rintro e w' ⟨rfl, h⟩
  exact ⟨by rw [ok], G1 _ _ h⟩

theorem txt_snoc (l : List UInt8) (c : UInt8) : (⟨l.toArray⟩ : ByteArray) ++ ⟨#[c]⟩ = ⟨(l ++ [c]).toArray⟩ := by
  rw [show (⟨#[c]⟩ : ByteArray) = ⟨[c].toArray⟩ from rfl, ByteArray.mk_append_mk]
theorem txt_app (l k : List UInt8) : (⟨l.toArray⟩ : ByteArray) ++ ⟨k.toArray⟩ = ⟨(l ++ k).toArray⟩ := ByteArray.mk_append_mk ..
/-- What an image's slice is, and its texts. -/
theorem pile_cell {w : World} {vs : List Value} {imgs : List (List (List UInt8))} {S1 : Nat → Prop} (h : (Pile TA vs imgs).on w S1) {i : Nat} {v : Value} {y : List (List UInt8)} (hv : vs[i]? = some v) (hy : imgs[i]? = some y) (h0 : 0 < y.length) :
    ∃ g c, v = .slice (some ⟨g, 0, none⟩) y.length c ∧ y.length ≤ c ∧ ∀ p X, y[p]? = some X → w.cell? ⟨g, p, none⟩ = some (.string ⟨X.toArray⟩) := by
  obtain ⟨S2, h2, _⟩ := Pile.at h hv hy
  obtain ⟨g, c, rfl, hc⟩ := row_some h2 h0
  exact ⟨g, c, rfl, hc, fun p X hp => own_cell h2.1 (texts_at hp)⟩
/-- A cell of fresh bytes laid anew. -/
theorem St.convSet {S : Nat → Prop} {w0 w : World} {L : List SP} {g n cap : Nat} {bs : List UInt8} (H : St S w0 w (Conv (.slice (some ⟨g, 0, none⟩) n cap) bs :: L)) (k : Nat) (hk : k < bs.length) (x : UInt8) :
    w.cell? ⟨g, k, none⟩ = some (bv bs[k]) ∧ w.frozen? ⟨g, k, none⟩ = false ∧ St S w0 (w.setCell ⟨g, k, none⟩ (bv x)) (Conv (.slice (some ⟨g, 0, none⟩) n cap) (bs.set k x) :: L) := by
  obtain ⟨S1, ⟨g', c', cur, e1, e2, e3, e4, e5, e6⟩, h2⟩ := H.turn 0 rfl
  simp only [Value.slice.injEq, Option.some.injEq, Addr.mk.injEq, and_true] at e1
  obtain ⟨rfl, rfl, rfl⟩ := e1
  refine ⟨by rw [cell_blk e2, e5 k hk], ?_, ?_⟩
  · simp only [World.frozen?, e2]
    simp
    omega
  · refine h2 (S1' := S1) (kept_set.mono (fun j _ e => (e6 j).2 e)) ⟨g, cap, cur.setIfInBounds k (bv x), by simp, ?_, by simpa using e3, by simpa using e4, fun i hi => ?_, e6⟩ (fun _ a => .inl a)
    · rw [set_same e2]
      simp
    · simp only [List.length_set] at hi
      rw [Array.getElem?_setIfInBounds]
      by_cases hki : k = i
      · subst hki
        rw [if_pos rfl, if_pos (by omega)]
        simp
      · rw [if_neg hki, e5 i hi, List.getElem_set_ne hki]

theorem Conv.text {w : World} {v : Value} {l : List UInt8} {S1 : Nat → Prop} (h : (Conv v l).on w S1) : (convert 38 9 v).run Tryd.prog w = .ok (.string ⟨l.toArray⟩) w := by
  obtain ⟨g, cap, cur, rfl, e2, e3, e4, e5, e6⟩ := h
  refine conv_text (fun j u hj => ?_) rfl
  rw [Nat.zero_add, cell_blk e2]
  have hlt : j < l.length := by have := (List.getElem?_eq_some_iff.1 hj).1; rwa [length_bvs] at this
  rw [e5 j hlt, ← hj]
  simp [bvs, hlt]

theorem load_text {b2 : Nat} {m : StM} {X : List UInt8} {w0 w : World} {L : List SP} {S : Nat → Prop} (hg : m.Good) (hl : X.length ≤ 9223372036854775807) (ok : (m.load X).1 = true) (H : St S w0 w (RefAt b2 m :: L)) :
    Calls Tryd.prog 34 #[.pointer (some ⟨b2, 0, none⟩), .string ⟨X.toArray⟩] w fun e w' => e = .returned (.bool true) ∧ St S w0 w' (RefAt b2 (m.load X).2 :: L) := by
  obtain ⟨S1, K1, G1⟩ := St.call (l1 := [_]) H
  refine (ref_load hg hl K1).mono ?_
  rintro e w' ⟨rfl, h⟩
  exact ⟨by rw [ok], G1 _ _ h⟩

end Go.Proofs.YtaafedpjifaghaaDoor

/- The walk of the reference's rogue: Do, kind 0. Conditions: its blocks lie as its maker lays them. (Printed by gen_rrd.py.) -/
set_option linter.unusedVariables false
set_option linter.unusedSimpArgs false
namespace Go.Proofs.YtaafedpjifaghaaDoor
open Go.RowKit

set_option maxHeartbeats 4000000 in
set_option maxRecDepth 100000 in
theorem ref24_do0 {b b2 : Nat} {iv : Value} {r : RogM} {vs : List Value} (at' tt n : Int) (bb : List UInt8) {x : Value} {w : World} {S : Nat → Prop} (hv : BytesRO S w x bb) (hg : r.Good) (hvs : vs.length = r.imgs.length) (H : Sep w [RrB b b2 iv, RefAt b2 r.s, TR iv r.imgs vs, Pile TA vs r.imgs] S) :
    Calls Tryd.prog 13 #[.pointer (some ⟨b, 0, none⟩), .agg (mvCells ⟨0, at', tt, n, bb⟩ x)] w fun e w' => e = .returned (.bool (r.do ⟨0, at', tt, n, bb⟩).1) ∧ St S w w' [RrB b b2 iv, RefAt b2 (r.do ⟨0, at', tt, n, bb⟩).2.s, TR iv r.imgs vs, Pile TA vs r.imgs] := by
  obtain ⟨ad, cap, rfl, _⟩ := id hv
  have hvh := Lib.hid hv
  clear hv
  obtain ⟨m, imgs⟩ := r
  have hroom := hg.room
  have hgs := hg.s
  have hcnt := hg.s.count
  have hif := hg.s.full
  have himg := hg.imgs
  simp only at hroom hcnt hgs hif hvs himg
  obtain ⟨mb, hmb⟩ : ∃ g, w.heap.size = g := ⟨_, rfl⟩
  obtain ⟨S1, hT⟩ := H.get 2 rfl
  obtain ⟨ao, ci, rfl, hci, hao⟩ := Off.shape hT
  obtain ⟨vl, vw, vc, H1⟩ := RefAt.open (St.pick (St.refl H) [1, 0, 2, 3])
  have HA := ((H1.allocAt hmb (mvCells ⟨0, at', tt, n, bb⟩ (.slice ad bb.length cap)) 40).pick [0, 5, 1, 2, 3, 4, 6, 7])
  have HA : St S w (w.alloc (.cells (mvCells ⟨0, at', tt, n, bb⟩ (.slice ad bb.length cap)) 40)) [Blk mb (mvCells ⟨0, at', tt, n, bb⟩ (.slice ad bb.length cap)) 40, RrB b b2 (.slice ao imgs.length ci), Blk b2 #[vl, vw, .int .i64 m.calls, vc] 67, Row 9 1 vl m.last.length (texts m.last), Row 103 2 vw m.waits.length (refWaits m.waits), Row 3 1 vc m.reads.length (intCells m.reads), TR (.slice ao imgs.length ci) imgs vs, Pile TA vs imgs] := HA
  obtain ⟨gl, cl, rfl⟩ := row_form (HA.row 3 rfl) (N := m.last.length) rfl (by omega)
  obtain ⟨K, hK⟩ : ∃ K, imgs.length = K := ⟨_, rfl⟩
  obtain ⟨M, hM⟩ : ∃ M, m.last.length = M := ⟨_, rfl⟩
  have hfold := fun (w' : World) (h : St S w w' [Blk mb (mvCells ⟨0, at', tt, n, bb⟩ (.slice ad bb.length cap)) 40, RrB b b2 (.slice ao K ci), Blk b2 #[.slice (some ⟨gl, 0, none⟩) M cl, vw, .int .i64 m.calls, vc] 67, Row 9 1 (.slice (some ⟨gl, 0, none⟩) M cl) M (texts m.last), Row 103 2 vw m.waits.length (refWaits m.waits), Row 3 1 vc m.reads.length (intCells m.reads), TR (.slice ao K ci) imgs vs, Pile TA vs imgs]) => show St S w w' [RefAt b2 m, Blk mb (mvCells ⟨0, at', tt, n, bb⟩ (.slice ad bb.length cap)) 40, RrB b b2 (.slice ao K ci), TR (.slice ao K ci) imgs vs, Pile TA vs imgs] from RefAt.mk (l := [_, _, _, _]) (vl := .slice (some ⟨gl, 0, none⟩) M cl) (vw := vw) (vc := vc) (by unfold refParts; rw [hM]; exact h.pick [2, 3, 4, 5, 0, 1, 6, 7])
  rw [hK] at HA hroom hvs hci hao
  rw [hM] at HA hcnt
  rw [hK]
  have d0 : (w.alloc (.cells (mvCells ⟨0, at', tt, n, bb⟩ (.slice ad bb.length cap)) 40)).cell? ⟨mb, 0, none⟩ = some (.int .i64 0) := HA.cell 0 0 rfl rfl
  have d1 : (w.alloc (.cells (mvCells ⟨0, at', tt, n, bb⟩ (.slice ad bb.length cap)) 40)).cell? ⟨mb, 1, none⟩ = some (.int .i64 at') := HA.cell 0 1 rfl rfl
  have d2 : (w.alloc (.cells (mvCells ⟨0, at', tt, n, bb⟩ (.slice ad bb.length cap)) 40)).cell? ⟨mb, 2, none⟩ = some (.int .i64 tt) := HA.cell 0 2 rfl rfl
  have d3 : (w.alloc (.cells (mvCells ⟨0, at', tt, n, bb⟩ (.slice ad bb.length cap)) 40)).cell? ⟨mb, 3, none⟩ = some (.int .i64 n) := HA.cell 0 3 rfl rfl
  have d4 : (w.alloc (.cells (mvCells ⟨0, at', tt, n, bb⟩ (.slice ad bb.length cap)) 40)).cell? ⟨mb, 4, none⟩ = some (.slice ad bb.length cap) := HA.cell 0 4 rfl rfl
  have c0 : (w.alloc (.cells (mvCells ⟨0, at', tt, n, bb⟩ (.slice ad bb.length cap)) 40)).cell? ⟨b, 0, none⟩ = some (.pointer (some ⟨b2, 0, none⟩)) := HA.cell 1 0 rfl rfl
  have c1 : (w.alloc (.cells (mvCells ⟨0, at', tt, n, bb⟩ (.slice ad bb.length cap)) 40)).cell? ⟨b, 1, none⟩ = some (.slice ao K ci) := HA.cell 1 1 rfl rfl
  have s0 : (w.alloc (.cells (mvCells ⟨0, at', tt, n, bb⟩ (.slice ad bb.length cap)) 40)).cell? ⟨b2, 0, none⟩ = some (.slice (some ⟨gl, 0, none⟩) M cl) := HA.cell 2 0 rfl rfl
  obtain ⟨bi, hbi⟩ : ∃ bi, (decide (0 ≤ at') && decide (at' < (M : Int))) = bi := ⟨_, rfl⟩
  obtain ⟨bt, hbt⟩ : ∃ bt, (decide (0 ≤ tt) && decide (tt < (M : Int))) = bt := ⟨_, rfl⟩
  have ka := fun w => ref24_among at' M w
  have kb := fun w => ref24_among tt M w
  rw [hbi] at ka
  rw [hbt] at kb
  have hin := Lib.hid (show (bi = true ↔ m.among at' 1) by rw [← hbi]; simp [StM.among, hM]; omega)
  have hto := Lib.hid (show (bt = true ↔ m.among tt 1) by rw [← hbt]; simp [StM.among, hM]; omega)
  obtain ⟨od, hod⟩ : ∃ od : Nat, (if imgs = [] then 0 else (RogM.mk m imgs).ix n) = od := ⟨_, rfl⟩
  have hodc : K = 0 ∧ od = 0 ∨ 0 < K ∧ n.tmod K < 0 ∧ (od : Int) = n.tmod K + K ∧ od < K ∨ 0 < K ∧ 0 ≤ n.tmod K ∧ (od : Int) = n.tmod K ∧ od < K := by
    rw [← hod, ← hK]
    exact old_cases n m imgs
  clear hbi hbt H1 hT S1
  go_enter Tryd.func13, Tryd.ntmps13
  go_upto_if 44 with (go_at_call 31; first | (with_reducible refine (ka _).mono ?_; rintro e w' ⟨rfl, rfl⟩) | (refine (kb _).mono ?_; rintro e w' ⟨rfl, rfl⟩))
  obtain ⟨wa, hwa⟩ : ∃ wa, w.alloc (.cells (mvCells ⟨0, at', tt, n, bb⟩ (.slice ad bb.length cap)) 40) = wa := ⟨_, rfl⟩
  rw [hwa] at HA d0 d1 d2 d3 d4 c0 c1 s0
  rw [hwa]
  clear hwa ka kb
  go_cut [9] from 43 to 53 (fun o wx => o = .int .i64 (od : Int) ∧ wx = wa)
  case first =>
    rcases hodc with ⟨q1, q2⟩ | ⟨q1, q2, q3, q4⟩ | ⟨q1, q2, q3, q4⟩
    · have z4 : ¬ (0 : Int) < (K : Int) := by omega
      have q2h := Lib.hid q2
      clear q1 q2
      go_wp2
      go_meet
      exact ⟨by rw [q2h.out]; rfl, rfl⟩
    · obtain ⟨t, ht⟩ : ∃ t, n.tmod (K : Int) = t := ⟨_, rfl⟩
      rw [ht] at q2 q3
      have z0 : ((K : Int) == 0) = false := by simp; omega
      have z1 : IntKind.i64.wrap t = t := by rw [IntKind.wrap_i64]; omega
      have z2 : IntKind.i64.wrap (t + (K : Int)) = (od : Int) := by rw [IntKind.wrap_i64]; omega
      have z3 : decide (t < 0) = true := by simpa using q2
      have z4 : (0 : Int) < (K : Int) := by omega
      clear q3
      go_wp2
      go_meet
      exact ⟨rfl, rfl⟩
    · obtain ⟨t, ht⟩ : ∃ t, n.tmod (K : Int) = t := ⟨_, rfl⟩
      rw [ht] at q2 q3
      have z0 : ((K : Int) == 0) = false := by simp; omega
      have z1 : IntKind.i64.wrap t = t := by rw [IntKind.wrap_i64]; omega
      have z3 : decide (t < 0) = false := by simpa using q2
      have z4 : (0 : Int) < (K : Int) := by omega
      have q3h := Lib.hid q3
      clear q3
      go_wp2
      go_meet
      exact ⟨by rw [q3h.out], rfl⟩
  case rest =>
    obtain ⟨rfl, rfl⟩ := hcut
    cases bi
    · have hn1 : ¬ m.among at' 1 := fun h => by have := hin.out.2 h; cases this
      have hfin := Lib.hid (show RogM.do ⟨m, imgs⟩ ⟨0, at', tt, n, bb⟩ = (false, ⟨m, imgs⟩) by
        unfold RogM.do
        simp [hn1])
      go_wp2
      go_ret
      rw [hfin.out]
      exact ⟨rfl, (hfold _ HA).pick [2, 0, 3, 4]⟩
    · by_cases h2 : bb.length ≤ 128
      · obtain ⟨p, rfl, hp⟩ := among_one (hin.out.1 rfl)
        have hd2 : decide ((128 : Int) < (bb.length : Int)) = false := by simp; omega
        have hd3 : ¬ (128 : Int) < (bb.length : Int) := by omega
        have hfin := Lib.hid (show RogM.do ⟨m, imgs⟩ ⟨0, p, tt, n, bb⟩ = (true, ⟨m.lays p [pad128 bb], imgs⟩) by
          unfold RogM.do
          simp [hin.out.1 rfl, h2, RogM.put])
        have lX := pad_len h2
        have ok1 : (m.lay p (pad128 bb)).1 = true := lay_ok (by omega) (by omega) lX
        have hcv := conv_ro' hvh.out (fun b hb hs => HA.kept.block b hb hs)
        have HF := hfold _ HA
        clear hin hto hodc
        go_upto_block 2 with (fail)
        clear hcv d0 d1 d2 d3 d4 c0 c1 s0
        go_loop [10] (fun s => ∃ j : Nat, bb.length + j ≤ 128 ∧ s = .string ⟨(bb ++ List.replicate j 0).toArray⟩) (fun s => match s with | .string x => 128 - x.size | _ => 0)
        case atStart => exact ⟨0, by omega, by simp⟩
        case round =>
          obtain ⟨j, hj, rfl⟩ := hrel
          have hz : (⟨(bb ++ List.replicate j 0).toArray⟩ : ByteArray).size = bb.length + j := by rw [text_len]; simp
          have hz2 : (⟨(bb ++ List.replicate (j + 1) 0).toArray⟩ : ByteArray).size = bb.length + (j + 1) := by rw [text_len]; simp
          have hsn : (⟨(bb ++ List.replicate j 0).toArray⟩ : ByteArray) ++ ⟨#[0]⟩ = ⟨(bb ++ List.replicate (j + 1) 0).toArray⟩ := by rw [txt_snoc, List.append_assoc, ← List.replicate_succ']
          by_cases hlt : bb.length + j < 128
          · have hlt2 : (bb.length : Int) + (j : Int) < 128 := by omega
            go_wp2
            go_round
            case rel => exact ⟨j + 1, by omega, rfl⟩
            case measure => simp only [hz, hz2]; omega
          · have hlt2 : ¬ (bb.length : Int) + (j : Int) < 128 := by omega
            have e : bb ++ List.replicate j 0 = pad128 bb := by unfold pad128; congr 2; omega
            clear hsn hz2
            go_upto_region 17 with (fail)
            rw [e]
            clear e hz
            refine wp_calm_tail 7 (fun w' => St S w w' [RefAt b2 m, Blk mb (mvCells ⟨0, (p : Int), tt, n, bb⟩ (.slice ad bb.length cap)) 40, RrB b b2 (.slice ao K ci), TR (.slice ao K ci) imgs vs, Pile TA vs imgs]) (by kernel_rfl) (by kernel_rfl) (HF.drew) ?_
            simp only [List.take_succ_cons, List.take_zero, List.drop_succ_cons, List.drop_zero]
            iterate 7 first
              | (apply calm_pass
                 · rfl
                 intro K hK
                 go_simp
                 refine hK _ ?_
                 clear hK K)
              | (apply calm_step
                 · rfl
                 · intro w1 h1
                   have e0 : w1.cell? ⟨b, 0, none⟩ = some (.pointer (some ⟨b2, 0, none⟩)) := h1.cell 2 0 rfl rfl
                   have e1 : w1.cell? ⟨mb, 1, none⟩ = some (.int .i64 (p : Int)) := h1.cell 1 1 rfl rfl
                   have e2 : w1.cell? ⟨mb, 2, none⟩ = some (.int .i64 tt) := h1.cell 1 2 rfl rfl
                   have e3 : w1.cell? ⟨mb, 3, none⟩ = some (.int .i64 n) := h1.cell 1 3 rfl rfl
                   first
                     | (go_simp
                        first
                          | rfl
                          | exact ⟨rfl, h1⟩
                       )
                 intro K hK
                 go_simp
                 refine hK _ ?_
                 clear hK K)
            refine calm_nil ?_
            intro w5 H5
            go_wp2_with (go_at_call 32; go_must (refine (lay_text hgs (by omega) ok1 H5).mono ?_; rintro e w6 ⟨rfl, H6⟩))
            go_ret
            rw [hfin.out]
            exact ⟨rfl, H6.pick [2, 0, 3, 4]⟩
      · have hd2 : decide ((128 : Int) < (bb.length : Int)) = true := by simp; omega
        have hfin := Lib.hid (show RogM.do ⟨m, imgs⟩ ⟨0, at', tt, n, bb⟩ = (false, ⟨m, imgs⟩) by
          unfold RogM.do
          simp [h2])
        go_wp2
        go_ret
        rw [hfin.out]
        exact ⟨rfl, (hfold _ HA).pick [2, 0, 3, 4]⟩

end Go.Proofs.YtaafedpjifaghaaDoor

/- The walk of the reference's rogue: Do, kind 1. Conditions: its blocks lie as its maker lays them. (Printed by gen_rrd.py.) -/
set_option linter.unusedVariables false
set_option linter.unusedSimpArgs false
namespace Go.Proofs.YtaafedpjifaghaaDoor
open Go.RowKit

set_option maxHeartbeats 4000000 in
set_option maxRecDepth 100000 in
theorem ref24_do1 {b b2 : Nat} {iv : Value} {r : RogM} {vs : List Value} (at' tt n : Int) (bb : List UInt8) {x : Value} {w : World} {S : Nat → Prop} (hg : r.Good) (hvs : vs.length = r.imgs.length) (H : Sep w [RrB b b2 iv, RefAt b2 r.s, TR iv r.imgs vs, Pile TA vs r.imgs] S) :
    Calls Tryd.prog 13 #[.pointer (some ⟨b, 0, none⟩), .agg (mvCells ⟨1, at', tt, n, bb⟩ x)] w fun e w' => e = .returned (.bool (r.do ⟨1, at', tt, n, bb⟩).1) ∧ St S w w' [RrB b b2 iv, RefAt b2 (r.do ⟨1, at', tt, n, bb⟩).2.s, TR iv r.imgs vs, Pile TA vs r.imgs] := by
  obtain ⟨m, imgs⟩ := r
  have hroom := hg.room
  have hgs := hg.s
  have hcnt := hg.s.count
  have hif := hg.s.full
  have himg := hg.imgs
  simp only at hroom hcnt hgs hif hvs himg
  obtain ⟨mb, hmb⟩ : ∃ g, w.heap.size = g := ⟨_, rfl⟩
  obtain ⟨S1, hT⟩ := H.get 2 rfl
  obtain ⟨ao, ci, rfl, hci, hao⟩ := Off.shape hT
  obtain ⟨vl, vw, vc, H1⟩ := RefAt.open (St.pick (St.refl H) [1, 0, 2, 3])
  have HA := ((H1.allocAt hmb (mvCells ⟨1, at', tt, n, bb⟩ x) 40).pick [0, 5, 1, 2, 3, 4, 6, 7])
  have HA : St S w (w.alloc (.cells (mvCells ⟨1, at', tt, n, bb⟩ x) 40)) [Blk mb (mvCells ⟨1, at', tt, n, bb⟩ x) 40, RrB b b2 (.slice ao imgs.length ci), Blk b2 #[vl, vw, .int .i64 m.calls, vc] 67, Row 9 1 vl m.last.length (texts m.last), Row 103 2 vw m.waits.length (refWaits m.waits), Row 3 1 vc m.reads.length (intCells m.reads), TR (.slice ao imgs.length ci) imgs vs, Pile TA vs imgs] := HA
  obtain ⟨gl, cl, rfl⟩ := row_form (HA.row 3 rfl) (N := m.last.length) rfl (by omega)
  obtain ⟨K, hK⟩ : ∃ K, imgs.length = K := ⟨_, rfl⟩
  obtain ⟨M, hM⟩ : ∃ M, m.last.length = M := ⟨_, rfl⟩
  have hfold := fun (w' : World) (h : St S w w' [Blk mb (mvCells ⟨1, at', tt, n, bb⟩ x) 40, RrB b b2 (.slice ao K ci), Blk b2 #[.slice (some ⟨gl, 0, none⟩) M cl, vw, .int .i64 m.calls, vc] 67, Row 9 1 (.slice (some ⟨gl, 0, none⟩) M cl) M (texts m.last), Row 103 2 vw m.waits.length (refWaits m.waits), Row 3 1 vc m.reads.length (intCells m.reads), TR (.slice ao K ci) imgs vs, Pile TA vs imgs]) => show St S w w' [RefAt b2 m, Blk mb (mvCells ⟨1, at', tt, n, bb⟩ x) 40, RrB b b2 (.slice ao K ci), TR (.slice ao K ci) imgs vs, Pile TA vs imgs] from RefAt.mk (l := [_, _, _, _]) (vl := .slice (some ⟨gl, 0, none⟩) M cl) (vw := vw) (vc := vc) (by unfold refParts; rw [hM]; exact h.pick [2, 3, 4, 5, 0, 1, 6, 7])
  rw [hK] at HA hroom hvs hci hao
  rw [hM] at HA hcnt
  rw [hK]
  have d0 : (w.alloc (.cells (mvCells ⟨1, at', tt, n, bb⟩ x) 40)).cell? ⟨mb, 0, none⟩ = some (.int .i64 1) := HA.cell 0 0 rfl rfl
  have d1 : (w.alloc (.cells (mvCells ⟨1, at', tt, n, bb⟩ x) 40)).cell? ⟨mb, 1, none⟩ = some (.int .i64 at') := HA.cell 0 1 rfl rfl
  have d2 : (w.alloc (.cells (mvCells ⟨1, at', tt, n, bb⟩ x) 40)).cell? ⟨mb, 2, none⟩ = some (.int .i64 tt) := HA.cell 0 2 rfl rfl
  have d3 : (w.alloc (.cells (mvCells ⟨1, at', tt, n, bb⟩ x) 40)).cell? ⟨mb, 3, none⟩ = some (.int .i64 n) := HA.cell 0 3 rfl rfl
  have d4 : (w.alloc (.cells (mvCells ⟨1, at', tt, n, bb⟩ x) 40)).cell? ⟨mb, 4, none⟩ = some x := HA.cell 0 4 rfl rfl
  have c0 : (w.alloc (.cells (mvCells ⟨1, at', tt, n, bb⟩ x) 40)).cell? ⟨b, 0, none⟩ = some (.pointer (some ⟨b2, 0, none⟩)) := HA.cell 1 0 rfl rfl
  have c1 : (w.alloc (.cells (mvCells ⟨1, at', tt, n, bb⟩ x) 40)).cell? ⟨b, 1, none⟩ = some (.slice ao K ci) := HA.cell 1 1 rfl rfl
  have s0 : (w.alloc (.cells (mvCells ⟨1, at', tt, n, bb⟩ x) 40)).cell? ⟨b2, 0, none⟩ = some (.slice (some ⟨gl, 0, none⟩) M cl) := HA.cell 2 0 rfl rfl
  obtain ⟨bi, hbi⟩ : ∃ bi, (decide (0 ≤ at') && decide (at' < (M : Int))) = bi := ⟨_, rfl⟩
  obtain ⟨bt, hbt⟩ : ∃ bt, (decide (0 ≤ tt) && decide (tt < (M : Int))) = bt := ⟨_, rfl⟩
  have ka := fun w => ref24_among at' M w
  have kb := fun w => ref24_among tt M w
  rw [hbi] at ka
  rw [hbt] at kb
  have hin := Lib.hid (show (bi = true ↔ m.among at' 1) by rw [← hbi]; simp [StM.among, hM]; omega)
  have hto := Lib.hid (show (bt = true ↔ m.among tt 1) by rw [← hbt]; simp [StM.among, hM]; omega)
  obtain ⟨od, hod⟩ : ∃ od : Nat, (if imgs = [] then 0 else (RogM.mk m imgs).ix n) = od := ⟨_, rfl⟩
  have hodc : K = 0 ∧ od = 0 ∨ 0 < K ∧ n.tmod K < 0 ∧ (od : Int) = n.tmod K + K ∧ od < K ∨ 0 < K ∧ 0 ≤ n.tmod K ∧ (od : Int) = n.tmod K ∧ od < K := by
    rw [← hod, ← hK]
    exact old_cases n m imgs
  clear hbi hbt H1 hT S1
  go_enter Tryd.func13, Tryd.ntmps13
  go_upto_if 44 with (go_at_call 31; first | (with_reducible refine (ka _).mono ?_; rintro e w' ⟨rfl, rfl⟩) | (refine (kb _).mono ?_; rintro e w' ⟨rfl, rfl⟩))
  obtain ⟨wa, hwa⟩ : ∃ wa, w.alloc (.cells (mvCells ⟨1, at', tt, n, bb⟩ x) 40) = wa := ⟨_, rfl⟩
  rw [hwa] at HA d0 d1 d2 d3 d4 c0 c1 s0
  rw [hwa]
  clear hwa ka kb
  go_cut [9] from 43 to 53 (fun o wx => o = .int .i64 (od : Int) ∧ wx = wa)
  case first =>
    rcases hodc with ⟨q1, q2⟩ | ⟨q1, q2, q3, q4⟩ | ⟨q1, q2, q3, q4⟩
    · have z4 : ¬ (0 : Int) < (K : Int) := by omega
      have q2h := Lib.hid q2
      clear q1 q2
      go_wp2
      go_meet
      exact ⟨by rw [q2h.out]; rfl, rfl⟩
    · obtain ⟨t, ht⟩ : ∃ t, n.tmod (K : Int) = t := ⟨_, rfl⟩
      rw [ht] at q2 q3
      have z0 : ((K : Int) == 0) = false := by simp; omega
      have z1 : IntKind.i64.wrap t = t := by rw [IntKind.wrap_i64]; omega
      have z2 : IntKind.i64.wrap (t + (K : Int)) = (od : Int) := by rw [IntKind.wrap_i64]; omega
      have z3 : decide (t < 0) = true := by simpa using q2
      have z4 : (0 : Int) < (K : Int) := by omega
      clear q3
      go_wp2
      go_meet
      exact ⟨rfl, rfl⟩
    · obtain ⟨t, ht⟩ : ∃ t, n.tmod (K : Int) = t := ⟨_, rfl⟩
      rw [ht] at q2 q3
      have z0 : ((K : Int) == 0) = false := by simp; omega
      have z1 : IntKind.i64.wrap t = t := by rw [IntKind.wrap_i64]; omega
      have z3 : decide (t < 0) = false := by simpa using q2
      have z4 : (0 : Int) < (K : Int) := by omega
      have q3h := Lib.hid q3
      clear q3
      go_wp2
      go_meet
      exact ⟨by rw [q3h.out], rfl⟩
  case rest =>
    obtain ⟨rfl, rfl⟩ := hcut
    cases bi
    · have hn1 : ¬ m.among at' 1 := fun h => by have := hin.out.2 h; cases this
      have hfin := Lib.hid (show RogM.do ⟨m, imgs⟩ ⟨1, at', tt, n, bb⟩ = (false, ⟨m, imgs⟩) by
        unfold RogM.do
        simp [hn1])
      go_wp2
      go_ret
      rw [hfin.out]
      exact ⟨rfl, (hfold _ HA).pick [2, 0, 3, 4]⟩
    · cases bt
      · have hn1 : ¬ m.among tt 1 := fun h => by have := hto.out.2 h; cases this
        have hfin := Lib.hid (show RogM.do ⟨m, imgs⟩ ⟨1, at', tt, n, bb⟩ = (false, ⟨m, imgs⟩) by
          unfold RogM.do
          simp [hn1])
        go_wp2
        go_ret
        rw [hfin.out]
        exact ⟨rfl, (hfold _ HA).pick [2, 0, 3, 4]⟩
      · obtain ⟨p, rfl, hp⟩ := among_one (hin.out.1 rfl)
        obtain ⟨q, rfl, hq⟩ := among_one (hto.out.1 rfl)
        have hfin := Lib.hid (show RogM.do ⟨m, imgs⟩ ⟨1, p, q, n, bb⟩ = (true, ⟨(m.lays p [m.blk q]).lays q [m.blk p], imgs⟩) by
          unfold RogM.do
          simp [hin.out.1 rfl, hto.out.1 rfl, RogM.put])
        have xp : m.last[p]? = some (m.blk p) := mblk_at hp
        have xq : m.last[q]? = some (m.blk q) := mblk_at hq
        have lp : (m.blk p).length = 128 := hif _ (List.mem_of_getElem? xp)
        have lq : (m.blk q).length = 128 := hif _ (List.mem_of_getElem? xq)
        obtain ⟨X, hX⟩ : ∃ X, m.blk p = X := ⟨_, rfl⟩
        obtain ⟨Y, hY⟩ : ∃ Y, m.blk q = Y := ⟨_, rfl⟩
        rw [hX] at xp lp hfin
        rw [hY] at xq lq hfin
        have ok1 : (m.lay p Y).1 = true := lay_ok (by omega) (by omega) lq
        have ok2 : ((m.lay p Y).2.lay q X).1 = true := lay_ok (by omega) (by have := lays_len (p : Int) [Y] m; rw [show (m.lays (p : Int) [Y]) = (m.lay p Y).2 from rfl] at this; omega) lp
        have hg1 : (m.lay p Y).2.Good := hgs.lay p Y
        rw [hM] at hp hq
        have hpi : (p : Int) < (M : Int) := by omega
        have hqi : (q : Int) < (M : Int) := by omega
        clear hin hto hX hY
        go_upto_region 21 with (fail)
        clear d0 d1 d2 d3 d4 c0 c1 s0
        refine wp_calm (fun w' => St S w w' [Blk mb (mvCells ⟨1, (p : Int), (q : Int), n, bb⟩ x) 40, RrB b b2 (.slice ao K ci), Blk b2 #[.slice (some ⟨gl, 0, none⟩) M cl, vw, .int .i64 m.calls, vc] 67, Row 9 1 (.slice (some ⟨gl, 0, none⟩) M cl) M (texts m.last), Row 103 2 vw m.waits.length (refWaits m.waits), Row 3 1 vc m.reads.length (intCells m.reads), TR (.slice ao K ci) imgs vs, Pile TA vs imgs]) (by kernel_rfl) (by kernel_rfl) (HA.drew) ?_
        iterate 24 first
          | (apply calm_pass
             · rfl
             intro K hK
             go_simp
             refine hK _ ?_
             clear hK K)
          | (apply calm_step
             · rfl
             · intro w1 h1
               have e0 : w1.cell? ⟨b, 0, none⟩ = some (.pointer (some ⟨b2, 0, none⟩)) := h1.cell 1 0 rfl rfl
               have g0 : w1.cell? ⟨b2, 0, none⟩ = some (.slice (some ⟨gl, 0, none⟩) M cl) := h1.cell 2 0 rfl rfl
               have e1 : w1.cell? ⟨mb, 1, none⟩ = some (.int .i64 (p : Int)) := h1.cell 0 1 rfl rfl
               have e2 : w1.cell? ⟨mb, 2, none⟩ = some (.int .i64 (q : Int)) := h1.cell 0 2 rfl rfl
               have e3 : w1.cell? ⟨mb, 3, none⟩ = some (.int .i64 n) := h1.cell 0 3 rfl rfl
               have r1 : w1.cell? ⟨gl, p, none⟩ = some (.string ⟨X.toArray⟩) := by have := h1.rowCell 3 p rfl (texts_at xp); unfold textV at this; exact this
               have r2 : w1.cell? ⟨gl, q, none⟩ = some (.string ⟨Y.toArray⟩) := by have := h1.rowCell 3 q rfl (texts_at xq); unfold textV at this; exact this
               first
                 | (go_simp
                    first
                      | rfl
                      | exact ⟨rfl, h1⟩
                   )
             intro K hK
             go_simp
             refine hK _ ?_
             clear hK K)
        refine calm_nil ?_
        intro w2 H2
        have HF := hfold _ H2
        clear H2 HA
        go_upto_region 22 with (fail)
        refine wp_calm_tail 7 (fun w' => St S w w' [RefAt b2 m, Blk mb (mvCells ⟨1, (p : Int), (q : Int), n, bb⟩ x) 40, RrB b b2 (.slice ao K ci), TR (.slice ao K ci) imgs vs, Pile TA vs imgs]) (by kernel_rfl) (by kernel_rfl) (HF.drew) ?_
        simp only [List.take_succ_cons, List.take_zero, List.drop_succ_cons, List.drop_zero]
        iterate 7 first
          | (apply calm_pass
             · rfl
             intro K hK
             go_simp
             refine hK _ ?_
             clear hK K)
          | (apply calm_step
             · rfl
             · intro w1 h1
               have e0 : w1.cell? ⟨b, 0, none⟩ = some (.pointer (some ⟨b2, 0, none⟩)) := h1.cell 2 0 rfl rfl
               have e1 : w1.cell? ⟨mb, 1, none⟩ = some (.int .i64 (p : Int)) := h1.cell 1 1 rfl rfl
               have e2 : w1.cell? ⟨mb, 2, none⟩ = some (.int .i64 (q : Int)) := h1.cell 1 2 rfl rfl
               have e3 : w1.cell? ⟨mb, 3, none⟩ = some (.int .i64 n) := h1.cell 1 3 rfl rfl
               first
                 | (go_simp
                    first
                      | rfl
                      | exact ⟨rfl, h1⟩
                   )
             intro K hK
             go_simp
             refine hK _ ?_
             clear hK K)
        refine calm_nil ?_
        intro w5 H5
        go_upto_region 23 with (go_at_call 32; go_must (refine (lay_text hgs (by omega) ok1 H5).mono ?_; rintro e w6 ⟨rfl, HF⟩))
        refine wp_calm_tail 7 (fun w' => St S w w' [RefAt b2 (m.lay p Y).2, Blk mb (mvCells ⟨1, (p : Int), (q : Int), n, bb⟩ x) 40, RrB b b2 (.slice ao K ci), TR (.slice ao K ci) imgs vs, Pile TA vs imgs]) (by kernel_rfl) (by kernel_rfl) (HF.drew) ?_
        simp only [List.take_succ_cons, List.take_zero, List.drop_succ_cons, List.drop_zero]
        iterate 7 first
          | (apply calm_pass
             · rfl
             intro K hK
             go_simp
             refine hK _ ?_
             clear hK K)
          | (apply calm_step
             · rfl
             · intro w1 h1
               have e0 : w1.cell? ⟨b, 0, none⟩ = some (.pointer (some ⟨b2, 0, none⟩)) := h1.cell 2 0 rfl rfl
               have e1 : w1.cell? ⟨mb, 1, none⟩ = some (.int .i64 (p : Int)) := h1.cell 1 1 rfl rfl
               have e2 : w1.cell? ⟨mb, 2, none⟩ = some (.int .i64 (q : Int)) := h1.cell 1 2 rfl rfl
               have e3 : w1.cell? ⟨mb, 3, none⟩ = some (.int .i64 n) := h1.cell 1 3 rfl rfl
               first
                 | (go_simp
                    first
                      | rfl
                      | exact ⟨rfl, h1⟩
                   )
             intro K hK
             go_simp
             refine hK _ ?_
             clear hK K)
        refine calm_nil ?_
        intro w5 H5
        go_wp2_with (go_at_call 32; go_must (refine (lay_text hg1 (by omega) ok2 H5).mono ?_; rintro e w6 ⟨rfl, H6⟩))
        go_ret
        rw [hfin.out]
        exact ⟨rfl, H6.pick [2, 0, 3, 4]⟩

end Go.Proofs.YtaafedpjifaghaaDoor
