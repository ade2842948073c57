/- The walks of the reference's ring over its store: Read. Conditions: the store's blocks lie as its maker lays them. -/
import Derived.Test.YtbikjhmdpgoofabRefRingB
namespace Go.Proofs.Ytbikjhmdpgoofab
open Go.RowKit

/-- What a run of any length tells. -/
def StM.rreadI (m : StM) (f l v n : Int) : List UInt8 × Int × StM := if runE f l v n m.last.length ≠ 0 then ([], runE f l v n m.last.length, m) else rrGo f l v n.toNat 0 m []

set_option maxHeartbeats 4000000 in
set_option maxRecDepth 100000 in
theorem ref_rread {b : Nat} {m : StM} (f l v n : Int) {w : World} {S : Nat → Prop} (hg : m.Good) (H : Sep w [RefAt b m] S) :
    Calls Try.prog 19 #[.pointer (some ⟨b, 0, none⟩), ringV f l, .int .i64 v, .int .i64 n] w fun e w' => e = .returned (.tuple #[textV (m.rreadI f l v n).1, .int .i64 (m.rreadI f l v n).2.1]) ∧ St S w w' [RefAt b (m.rreadI f l v n).2.2] := by
  obtain ⟨al, cl, vw, vc, H0⟩ := ref_open (St.refl H)
  have H0 : St S w _ [_, _, _, _, _] := (H0.allocAt rfl #[.int .i64 f, .int .i64 l] 23).pick [1, 2, 3, 4, 0]
  obtain ⟨res, hres⟩ : ∃ res, m.rreadI f l v n = res := ⟨_, rfl⟩
  rw [hres]
  have hres2 : (if runE f l v n m.last.length ≠ 0 then ([], runE f l v n m.last.length, m) else rrGo f l v n.toNat 0 m []) = res := by rw [← hres]; rfl
  rw [refBad_run] at hres2
  have hres3 := Lib.hid hres2
  clear hres hres2 H
  have kr := fun w1 => ref_right f l m.last.length w1
  have kq := fun w1 => ref_start f l v n w1
  obtain ⟨r, hr⟩ : ∃ r, rightI f l m.last.length = r := ⟨_, rfl⟩
  obtain ⟨q, hq⟩ : ∃ q, startI f l v n = q := ⟨_, rfl⟩
  have hb0 : refBad f l v n m.last.length = (!r || (q != v) || decide (v < 0)) := by rw [refBad, hr, hq]
  have hb := Lib.hid hb0
  have hq2 := Lib.hid hq
  simp only [hr, ringV] at kr
  simp only [hq, ringV] at kq
  clear hb0 hr
  unfold ringV
  go_enter Try.func19, Try.ntmps19
  go_upto_region 1 with (fail)
  obtain ⟨wa, hwa⟩ : ∃ wa, w.alloc (.cells #[.int .i64 f, .int .i64 l] 23) = wa := ⟨_, rfl⟩
  rw [hwa] at H0 ⊢
  cases r
  · skip
    refine wp_calm (fun w' => St S w w' [Blk b #[.slice al m.last.length cl, vw, .int .i64 m.calls, vc] 41, Row 9 1 (.slice al m.last.length cl) m.last.length (texts m.last), Row 46 2 vw m.waits.length (refWaits m.waits), Row 3 1 vc m.reads.length (intCells m.reads), Blk w.heap.size #[.int .i64 f, .int .i64 l] 23]) (by kernel_rfl) (by kernel_rfl) (H0.drew) ?_
    iterate 20 first
      | (apply calm_pass
         · rfl
         intro K hK
         go_simp
         refine hK _ ?_
         clear hK K)
      | (apply calm_step
         · rfl
         · intro w1 h1
           have c0 := h1.cell 4 0 rfl rfl
           have c1 := h1.cell 4 1 rfl rfl
           have c2 := h1.cell 0 0 rfl rfl
           go_simp
           first
             | rfl
             | exact ⟨rfl, h1⟩
             | (go_at_call 64; with_reducible exact St.callPast (kr w1) h1)
             | (go_at_call 65; with_reducible exact St.callPast (kq w1) h1)
         intro K hK
         go_simp
         refine hK _ ?_
         clear hK K)
    refine calm_nil ?_
    intro w2 H2
    go_wp2
    go_ret2
    have e : res = ([], 2, m) := by rw [← hres3.out]; simp [hb.out]
    rw [e]
    exact ⟨rfl, RefAt.mk (l := []) (H2.take (l1 := [_, _, _, _]))⟩
  · by_cases hqv : q = v
    · have z1 : (q != v) = false := by simpa using hqv
      by_cases hv0 : v < 0
      · have z2 : decide (v < 0) = true := by simpa using hv0
        refine wp_calm (fun w' => St S w w' [Blk b #[.slice al m.last.length cl, vw, .int .i64 m.calls, vc] 41, Row 9 1 (.slice al m.last.length cl) m.last.length (texts m.last), Row 46 2 vw m.waits.length (refWaits m.waits), Row 3 1 vc m.reads.length (intCells m.reads), Blk w.heap.size #[.int .i64 f, .int .i64 l] 23]) (by kernel_rfl) (by kernel_rfl) (H0.drew) ?_
        iterate 20 first
          | (apply calm_pass
             · rfl
             intro K hK
             go_simp
             refine hK _ ?_
             clear hK K)
          | (apply calm_step
             · rfl
             · intro w1 h1
               have c0 := h1.cell 4 0 rfl rfl
               have c1 := h1.cell 4 1 rfl rfl
               have c2 := h1.cell 0 0 rfl rfl
               go_simp
               first
                 | rfl
                 | exact ⟨rfl, h1⟩
                 | (go_at_call 64; with_reducible exact St.callPast (kr w1) h1)
                 | (go_at_call 65; with_reducible exact St.callPast (kq w1) h1)
             intro K hK
             go_simp
             refine hK _ ?_
             clear hK K)
        refine calm_nil ?_
        intro w2 H2
        go_wp2
        go_ret2
        have e : res = ([], 2, m) := by rw [← hres3.out]; simp [hb.out, z1, hv0]
        rw [e]
        exact ⟨rfl, RefAt.mk (l := []) (H2.take (l1 := [_, _, _, _]))⟩
      · have z2 : decide (v < 0) = false := by simpa using hv0
        have hre : refBad f l v n m.last.length = false := by rw [hb.out, z1, z2]; rfl
        refine wp_calm (fun w' => St S w w' [Blk b #[.slice al m.last.length cl, vw, .int .i64 m.calls, vc] 41, Row 9 1 (.slice al m.last.length cl) m.last.length (texts m.last), Row 46 2 vw m.waits.length (refWaits m.waits), Row 3 1 vc m.reads.length (intCells m.reads), Blk w.heap.size #[.int .i64 f, .int .i64 l] 23]) (by kernel_rfl) (by kernel_rfl) (H0.drew) ?_
        iterate 20 first
          | (apply calm_pass
             · rfl
             intro K hK
             go_simp
             refine hK _ ?_
             clear hK K)
          | (apply calm_step
             · rfl
             · intro w1 h1
               have c0 := h1.cell 4 0 rfl rfl
               have c1 := h1.cell 4 1 rfl rfl
               have c2 := h1.cell 0 0 rfl rfl
               go_simp
               first
                 | rfl
                 | exact ⟨rfl, h1⟩
                 | (go_at_call 64; with_reducible exact St.callPast (kr w1) h1)
                 | (go_at_call 65; with_reducible exact St.callPast (kq w1) h1)
             intro K hK
             go_simp
             refine hK _ ?_
             clear hK K)
        refine calm_nil ?_
        intro w2 H2
        have hok := runE_ok (f := f) (l := l) (v := v) (n := n) (cnt := m.last.length) (by rw [refBad_run, hre]; rfl)
        obtain ⟨N, rfl⟩ := Int.eq_ofNat_of_zero_le (show 0 ≤ n by omega)
        have hres4 : rrGo f l v N 0 m [] = res := by rw [← hres3.out, hre]; simp
        have H3 : St S w w2 [RefAt b m, _] := RefAt.mk (l := [_]) H2
        clear H0 H2 hv0 hqv
        go_upto_block 1 with (fail)
        go_loopw [10, 11] (fun s j wr => ∃ (i : Nat) (m' : StM) (out : List UInt8), i ≤ N ∧ j = .int .i64 i ∧ s = textV out ∧ m'.Good ∧ out.length = i * 128 ∧ rrGo f l v (N - i) i m' out = res ∧
            St S w wr [RefAt b m', Blk w.heap.size #[.int .i64 f, .int .i64 l] 23])
          (fun _ j _ => N - (intOf j).toNat)
        case atStart => exact ⟨0, m, [], by omega, rfl, rfl, hg, rfl, hres4, H3⟩
        case round =>
          clear H3 hres4 z1 z2 hre
          obtain ⟨i, m', out, hi, rfl, rfl, hg', hol, hrw, HL⟩ := hrel
          by_cases hlt : i < N
          · obtain ⟨k, hk⟩ : ∃ k, N - i = k + 1 := ⟨N - i - 1, by omega⟩
            rw [hk] at hrw
            have hrw2 := Lib.hid hrw
            clear hrw
            have x1 : IntKind.i64.wrap (v + (i : Int)) = v + i := by rw [IntKind.wrap_i64]; omega
            have d0 := HL.cell 1 0 rfl rfl
            have d1 := HL.cell 1 1 rfl rfl
            go_wp2_with fail
            refine (St.callPast (ref_block f l (v + i) _) HL).mono ?_
            rintro e w3 ⟨rfl, H3⟩
            go_wp2_with fail
            refine (St.callOn (fun S' h => ref_read hg' h) H3).mono ?_
            rintro e w4 ⟨rfl, H4⟩
            have hgn := read_good hg' (blockI f l (v + i))
            have hln := read_len hg' (a := blockI f l (v + i))
            have hrw3 := hrw2.out
            rw [rrGo] at hrw3
            obtain ⟨r, hr⟩ : ∃ r, m'.read (blockI f l (v + i)) = r := ⟨_, rfl⟩
            rw [hr] at hrw3 hgn hln H4 ⊢
            clear hr hrw2 H3 HL d0 d1
            obtain ⟨x, e, m2⟩ := r
            by_cases he : e = 0
            · subst he
              rw [if_pos rfl] at hrw3
              have hrw4 := Lib.hid hrw3
              clear hrw3
              have hxl : x.length = 128 := hln rfl
              have hs1 : (⟨out.toArray⟩ : ByteArray).size = out.length := by simp [ByteArray.size]
              have hs2 : (⟨x.toArray⟩ : ByteArray).size = 128 := by simp [ByteArray.size, hxl]
              have ha := text_append out x
              unfold textV
              clear hln
              go_wp2
              go_roundw
              case rel => exact ⟨i + 1, m2, out ++ x, by omega, by go_num, rfl, hgn, by simp [hol, hxl]; omega, by rw [← hrw4.out]; congr 1; omega, H4⟩
              case measure => simp [intOf]; omega
            · have he2 : (e == 0) = false := by simpa using he
              have he3 : (e != 0) = true := by simpa using he
              rw [if_neg he] at hrw3
              have hrw4 := Lib.hid hrw3
              clear hrw3
              go_wp2
              go_ret2
              exact ⟨by rw [← hrw4.out]; rfl, by rw [← hrw4.out]; exact H4.take (l1 := [_])⟩
          · obtain rfl : i = N := by omega
            rw [Nat.sub_self] at hrw
            have e : res = (out, 0, m') := by rw [← hrw]; rfl
            have e2 := Lib.hid e
            clear e hrw
            go_wp2
            go_ret2
            exact ⟨by rw [e2.out]; rfl, by rw [e2.out]; exact HL.take (l1 := [_])⟩
    · have z1 : (q != v) = true := by simpa using hqv
      refine wp_calm (fun w' => St S w w' [Blk b #[.slice al m.last.length cl, vw, .int .i64 m.calls, vc] 41, Row 9 1 (.slice al m.last.length cl) m.last.length (texts m.last), Row 46 2 vw m.waits.length (refWaits m.waits), Row 3 1 vc m.reads.length (intCells m.reads), Blk w.heap.size #[.int .i64 f, .int .i64 l] 23]) (by kernel_rfl) (by kernel_rfl) (H0.drew) ?_
      iterate 20 first
        | (apply calm_pass
           · rfl
           intro K hK
           go_simp
           refine hK _ ?_
           clear hK K)
        | (apply calm_step
           · rfl
           · intro w1 h1
             have c0 := h1.cell 4 0 rfl rfl
             have c1 := h1.cell 4 1 rfl rfl
             have c2 := h1.cell 0 0 rfl rfl
             go_simp
             first
               | rfl
               | exact ⟨rfl, h1⟩
               | (go_at_call 64; with_reducible exact St.callPast (kr w1) h1)
               | (go_at_call 65; with_reducible exact St.callPast (kq w1) h1)
           intro K hK
           go_simp
           refine hK _ ?_
           clear hK K)
      refine calm_nil ?_
      intro w2 H2
      go_wp2
      go_ret2
      have e : res = ([], 2, m) := by rw [← hres3.out]; simp [hb.out, z1]
      rw [e]
      exact ⟨rfl, RefAt.mk (l := []) (H2.take (l1 := [_, _, _, _]))⟩

end Go.Proofs.Ytbikjhmdpgoofab
