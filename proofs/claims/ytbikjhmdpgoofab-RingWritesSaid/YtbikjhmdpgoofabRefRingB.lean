/- The walks of the reference's ring over its store: Write, Read. Conditions: the store's blocks lie as its maker lays them. -/
import Derived.Test.YtbikjhmdpgoofabRefRing
import Derived.Test.YtbikjhmdpgoofabRefB
import Derived.Test.YtbikjhmdpgoofabRingE
namespace Go.Proofs.Ytbikjhmdpgoofab
open Go.RowKit

theorem ref_open {S : Nat → Prop} {w0 w : World} {b : Nat} {m : StM} {l : List SP} (H : St S w0 w (RefAt b m :: l)) : ∃ al cl vw vc, St S w0 w (refParts b (.slice al m.last.length cl) vw vc m ++ l) := by
  obtain ⟨vl, vw, vc, H1⟩ := RefAt.open H
  rcases own_shape (H1.row 1 rfl) with ⟨h, h'⟩ | ⟨g, cap, h, _⟩
  · exact ⟨none, 0, vw, vc, by rw [show Value.slice none m.last.length 0 = vl by rw [h, h']]; exact H1⟩
  · exact ⟨some ⟨g, 0, none⟩, cap, vw, vc, by rw [← h]; exact H1⟩

theorem text_part {bs : List UInt8} {ls : ByteArray} (h : (⟨bs.toArray⟩ : ByteArray) = ls) (a n : Nat) (_hn : a + n ≤ bs.length) : ls.extract a (a + n) = ⟨((bs.drop a).take n).toArray⟩ := by
  subst h
  apply ByteArray.ext
  rw [ByteArray.data_extract]
  simp [List.take_drop]
theorem text_append (a b : List UInt8) : (⟨a.toArray⟩ : ByteArray) ++ ⟨b.toArray⟩ = ⟨(a ++ b).toArray⟩ := ByteArray.mk_append_mk ..
def refBad (f l v n cnt : Int) : Bool := !rightI f l cnt || (startI f l v n != v) || decide (v < 0)
theorem refBad_run (f l v n cnt : Int) : runE f l v n cnt = if refBad f l v n cnt then 2 else 0 := by
  unfold runE refBad
  cases h1 : rightI f l cnt
  · simp
  · by_cases h2 : startI f l v n = v
    · have hbe : (startI f l v n == v) = true := by simpa using h2
      have hbn : (startI f l v n != v) = false := by simpa using h2
      rw [hbe, hbn]
      by_cases h3 : v < 0
      · simp [h3, placeI]; omega
      · have hr := start_range (f := f) (l := l) (v := v) (n := n) (by omega)
        simp [h3, placeI]; omega
    · have hbe : (startI f l v n == v) = false := by simpa using h2
      have hbn : (startI f l v n != v) = true := by simpa using h2
      rw [hbe, hbn]
      simp

set_option maxHeartbeats 4000000 in
set_option maxRecDepth 100000 in
theorem ref_rwrite {b : Nat} {m : StM} (f l v : Int) {bs : List UInt8} {w : World} {S : Nat → Prop} (hg : m.Good) (hw : m.waits.length ≤ 900000) (hbl : bs.length ≤ 9223372036854775807) (H : Sep w [RefAt b m] S) :
    Calls Try.prog 16 #[.pointer (some ⟨b, 0, none⟩), ringV f l, .int .i64 v, textV bs] w fun e w' => e = .returned (.int .i64 (m.rwrite f l v bs).1) ∧ St S w w' [RefAt b (m.rwrite f l v bs).2] := by
  obtain ⟨al, cl, vw, vc, H0⟩ := ref_open (St.refl H)
  have H0 : St S w _ [_, _, _, _, _] := (H0.allocAt rfl #[.int .i64 f, .int .i64 l] 23).pick [1, 2, 3, 4, 0]
  obtain ⟨N, hN⟩ : ∃ N, bs.length / 128 = N := ⟨_, rfl⟩
  obtain ⟨R, hR⟩ : ∃ R, bs.length % 128 = R := ⟨_, rfl⟩
  have hdiv : ((bs.length : Int).tdiv 128) = (N : Int) := by rw [Int.tdiv_eq_ediv_of_nonneg (by omega)]; omega
  have hmod : ((bs.length : Int).tmod 128) = (R : Int) := by rw [Int.tmod_eq_emod_of_nonneg (by omega)]; omega
  have hdiv2 : (bs.length : Int) / 128 = (N : Int) := by omega
  have hmod2 : (bs.length : Int) % 128 = (R : Int) := by omega
  have hsz : (⟨bs.toArray⟩ : ByteArray).size = bs.length := by simp [ByteArray.size]
  obtain ⟨ls, hls⟩ : ∃ s : ByteArray, (⟨bs.toArray⟩ : ByteArray) = s := ⟨_, rfl⟩
  have htv : textV bs = .string ls := by rw [← hls]; rfl
  rw [htv]
  rw [hls] at hsz
  have hls2 := Lib.hid hls
  clear hls htv
  obtain ⟨res, hres⟩ : ∃ res, m.rwrite f l v bs = res := ⟨_, rfl⟩
  rw [hres]
  have hres2 : (if runE f l v N m.last.length ≠ 0 then (runE f l v N m.last.length, m) else if R ≠ 0 then (2, m) else rwGo f l v bs N 0 m) = res := by rw [← hres, ← hN, ← hR]; rfl
  rw [refBad_run] at hres2
  have hres3 := Lib.hid hres2
  clear hres hres2 H
  have kr := fun w1 => ref_right f l m.last.length w1
  have kq := fun w1 => ref_start f l v N w1
  obtain ⟨r, hr⟩ : ∃ r, rightI f l m.last.length = r := ⟨_, rfl⟩
  obtain ⟨q, hq⟩ : ∃ q, startI f l v N = q := ⟨_, rfl⟩
  have hb0 : refBad f l v N m.last.length = (!r || (q != v) || decide (v < 0)) := by rw [refBad, hr, hq]
  have hb := Lib.hid hb0
  have hq2 := Lib.hid hq
  simp only [hr, ringV] at kr
  simp only [hq, ringV] at kq
  clear hb0 hr
  unfold ringV
  have hRh := Lib.hid hR
  have hNh := Lib.hid hN
  clear hR hN
  go_enter Try.func16, Try.ntmps16
  go_upto_region 2 with (fail)
  obtain ⟨wa, hwa⟩ : ∃ wa, w.alloc (.cells #[.int .i64 f, .int .i64 l] 23) = wa := ⟨_, rfl⟩
  rw [hwa] at H0 ⊢
  cases r
  · skip
    refine wp_calm (fun w' => St S w w' [Blk b #[.slice al m.last.length cl, vw, .int .i64 m.calls, vc] 41, Row 9 1 (.slice al m.last.length cl) m.last.length (texts m.last), Row 46 2 vw m.waits.length (refWaits m.waits), Row 3 1 vc m.reads.length (intCells m.reads), Blk w.heap.size #[.int .i64 f, .int .i64 l] 23]) (by kernel_rfl) (by kernel_rfl) (H0.drew) ?_
    iterate 26 first
      | (apply calm_pass
         · rfl
         intro K hK
         go_simp
         refine hK _ ?_
         clear hK K)
      | (apply calm_step
         · rfl
         · intro w1 h1
           have c0 := h1.cell 4 0 rfl rfl
           have c1 := h1.cell 4 1 rfl rfl
           have c2 := h1.cell 0 0 rfl rfl
           go_simp
           first
             | rfl
             | exact ⟨rfl, h1⟩
             | (go_at_call 64; with_reducible exact St.callPast (kr w1) h1)
             | (go_at_call 65; with_reducible exact St.callPast (kq w1) h1)
         intro K hK
         go_simp
         refine hK _ ?_
         clear hK K)
    refine calm_nil ?_
    intro w2 H2
    go_wp2
    go_ret
    have e : res = (2, m) := by rw [← hres3.out]; simp [hb.out]
    rw [e]
    exact ⟨rfl, RefAt.mk (l := []) (H2.take (l1 := [_, _, _, _]))⟩
  · by_cases hqv : q = v
    · have z1 : (q != v) = false := by simpa using hqv
      by_cases hv0 : v < 0
      · have z2 : decide (v < 0) = true := by simpa using hv0
        refine wp_calm (fun w' => St S w w' [Blk b #[.slice al m.last.length cl, vw, .int .i64 m.calls, vc] 41, Row 9 1 (.slice al m.last.length cl) m.last.length (texts m.last), Row 46 2 vw m.waits.length (refWaits m.waits), Row 3 1 vc m.reads.length (intCells m.reads), Blk w.heap.size #[.int .i64 f, .int .i64 l] 23]) (by kernel_rfl) (by kernel_rfl) (H0.drew) ?_
        iterate 26 first
          | (apply calm_pass
             · rfl
             intro K hK
             go_simp
             refine hK _ ?_
             clear hK K)
          | (apply calm_step
             · rfl
             · intro w1 h1
               have c0 := h1.cell 4 0 rfl rfl
               have c1 := h1.cell 4 1 rfl rfl
               have c2 := h1.cell 0 0 rfl rfl
               go_simp
               first
                 | rfl
                 | exact ⟨rfl, h1⟩
                 | (go_at_call 64; with_reducible exact St.callPast (kr w1) h1)
                 | (go_at_call 65; with_reducible exact St.callPast (kq w1) h1)
             intro K hK
             go_simp
             refine hK _ ?_
             clear hK K)
        refine calm_nil ?_
        intro w2 H2
        go_wp2
        go_ret
        have e : res = (2, m) := by rw [← hres3.out]; simp [hb.out, z1, hv0]
        rw [e]
        exact ⟨rfl, RefAt.mk (l := []) (H2.take (l1 := [_, _, _, _]))⟩
      · have z2 : decide (v < 0) = false := by simpa using hv0
        have hre : refBad f l v N m.last.length = false := by rw [hb.out, z1, z2]; rfl
        by_cases hR0 : R = 0
        · have z3 : ((R : Int) != 0) = false := by simpa using hR0
          refine wp_calm (fun w' => St S w w' [Blk b #[.slice al m.last.length cl, vw, .int .i64 m.calls, vc] 41, Row 9 1 (.slice al m.last.length cl) m.last.length (texts m.last), Row 46 2 vw m.waits.length (refWaits m.waits), Row 3 1 vc m.reads.length (intCells m.reads), Blk w.heap.size #[.int .i64 f, .int .i64 l] 23]) (by kernel_rfl) (by kernel_rfl) (H0.drew) ?_
          iterate 26 first
            | (apply calm_pass
               · rfl
               intro K hK
               go_simp
               refine hK _ ?_
               clear hK K)
            | (apply calm_step
               · rfl
               · intro w1 h1
                 have c0 := h1.cell 4 0 rfl rfl
                 have c1 := h1.cell 4 1 rfl rfl
                 have c2 := h1.cell 0 0 rfl rfl
                 go_simp
                 first
                   | rfl
                   | exact ⟨rfl, h1⟩
                   | (go_at_call 64; with_reducible exact St.callPast (kr w1) h1)
                   | (go_at_call 65; with_reducible exact St.callPast (kq w1) h1)
               intro K hK
               go_simp
               refine hK _ ?_
               clear hK K)
          refine calm_nil ?_
          intro w2 H2
          have hok := runE_ok (f := f) (l := l) (v := v) (n := N) (cnt := m.last.length) (by rw [refBad_run, hre]; rfl)
          have hres4 : rwGo f l v bs N 0 m = res := by rw [← hres3.out, hre]; simp [hR0]
          have H3 : St S w w2 [RefAt b m, _] := RefAt.mk (l := [_]) H2
          clear H0 H2 hR0 hv0 hqv
          go_upto_block 1 with (fail)
          go_loopw [10] (fun j wr => ∃ (i : Nat) (m' : StM), i ≤ N ∧ j = .int .i64 i ∧ m'.Good ∧ m'.waits.length ≤ m.waits.length + i ∧ rwGo f l v bs (N - i) i m' = res ∧
              St S w wr [RefAt b m', Blk w.heap.size #[.int .i64 f, .int .i64 l] 23])
            (fun j _ => N - (intOf j).toNat)
          case atStart => exact ⟨0, m, by omega, rfl, hg, by omega, hres4, H3⟩
          case round =>
            clear H3 hres4 z1 z2 z3 hre
            obtain ⟨i, m', hi, rfl, hg', hw', hrw, HL⟩ := hrel
            by_cases hlt : i < N
            · obtain ⟨k, hk⟩ : ∃ k, N - i = k + 1 := ⟨N - i - 1, by omega⟩
              rw [hk] at hrw
              have hrw2 := Lib.hid hrw
              have hNr := hNh.out
              have hext := text_part hls2.out (128 * i) 128 (by omega)
              have hexth := Lib.hid hext
              clear hrw hext
              have hNl : (N : Int) ≤ 4096 := by omega
              have x1 : IntKind.i64.wrap (v + (i : Int)) = v + i := by rw [IntKind.wrap_i64]; omega
              have x2 : IntKind.i64.wrap (128 * (i : Int)) = 128 * (i : Int) := by rw [IntKind.wrap_i64]; omega
              have x4 : IntKind.i64.wrap (128 * (i : Int) + 128) = 128 * (i : Int) + 128 := by rw [IntKind.wrap_i64]; omega
              have x5 : (0 : Int) ≤ 128 * (i : Int) + 128 := by omega
              have x6 : 128 * (i : Int) + 128 ≤ (bs.length : Int) := by omega
              have x7 : (0 : Int) ≤ 128 * (i : Int) := by omega
              have x12 : 128 * (i : Int) ≤ 128 * (i : Int) + 128 := by omega
              have x8 : 128 * (i : Int) ≤ max (128 * (i : Int) + 128) 0 := by omega
              have x9 : (128 * (i : Int)).toNat = 128 * i := by omega
              have x10 : (128 * (i : Int) + 128).toNat = 128 * i + 128 := by omega
              clear hNr hdiv hdiv2 hmod hmod2
              have kb := fun w1 => ref_block f l (v + i) w1
              simp only [ringV] at kb
              go_wp2_with fail
              refine wp_calm_tail 13 (fun w' => St S w w' [RefAt b m', Blk w.heap.size #[.int .i64 f, .int .i64 l] 23]) (by kernel_rfl) (by kernel_rfl) (HL.drew) ?_
              simp only [List.take_succ_cons, List.take_zero, List.drop_succ_cons, List.drop_zero]
              iterate 13 first
                | (apply calm_pass
                   · rfl
                   intro K hK
                   go_simp
                   refine hK _ ?_
                   clear hK K)
                | (apply calm_step
                   · rfl
                   · intro w1 h1
                     have d0 := h1.cell 1 0 rfl rfl
                     have d1 := h1.cell 1 1 rfl rfl
                     go_simp
                     first
                       | rfl
                       | exact ⟨rfl, h1⟩
                       | (go_at_call 67; with_reducible exact St.callPast (kb w1) h1)
                   intro K hK
                   go_simp
                   refine hK _ ?_
                   clear hK K)
              refine calm_nil ?_
              intro w2 H2
              go_wp2_with fail
              rw [hexth.out]
              have hbn : ((bs.drop (128 * i)).take 128).length ≤ 128 := by simp; omega
              refine (St.callOn (fun S' h => ref_write (l := (bs.drop (128 * i)).take 128) hg' (by omega) (by omega) h) H2).mono ?_
              rintro e w3 ⟨rfl, H4⟩
              have hgn := write_good hg' (by omega) (blockI f l (v + i)) ((bs.drop (128 * i)).take 128)
              have hwn := write_waits (m := m') (blockI f l (v + i)) ((bs.drop (128 * i)).take 128)
              have hrw3 := hrw2.out
              rw [rwGo] at hrw3
              obtain ⟨r, hr⟩ : ∃ r, m'.write (blockI f l (v + i)) ((bs.drop (128 * i)).take 128) = r := ⟨_, rfl⟩
              rw [hr] at hrw3 hgn hwn H4 ⊢
              clear hr hrw2 H2 HL kb
              obtain ⟨e, m2⟩ := r
              by_cases he : e = 0
              · subst he
                rw [if_pos rfl] at hrw3
                have hrw4 := Lib.hid hrw3
                clear hrw3
                go_wp2
                go_roundw
                case rel => exact ⟨i + 1, m2, by omega, by go_num, hgn, by omega, by rw [← hrw4.out]; congr 1; omega, H4⟩
                case measure => simp [intOf]; omega
              · have he2 : (e == 0) = false := by simpa using he
                have he3 : (e != 0) = true := by simpa using he
                rw [if_neg he] at hrw3
                have hrw4 := Lib.hid hrw3
                clear hrw3
                go_wp2
                go_ret
                exact ⟨by rw [← hrw4.out]; rfl, by rw [← hrw4.out]; exact H4.take (l1 := [_])⟩
            · obtain rfl : i = N := by omega
              rw [Nat.sub_self] at hrw
              have e : res = (0, m') := by rw [← hrw]; rfl
              have e2 := Lib.hid e
              clear e hrw
              go_wp2
              go_ret
              exact ⟨by rw [e2.out]; rfl, by rw [e2.out]; exact HL.take (l1 := [_])⟩
        · have z3 : ((R : Int) != 0) = true := by simpa using hR0
          refine wp_calm (fun w' => St S w w' [Blk b #[.slice al m.last.length cl, vw, .int .i64 m.calls, vc] 41, Row 9 1 (.slice al m.last.length cl) m.last.length (texts m.last), Row 46 2 vw m.waits.length (refWaits m.waits), Row 3 1 vc m.reads.length (intCells m.reads), Blk w.heap.size #[.int .i64 f, .int .i64 l] 23]) (by kernel_rfl) (by kernel_rfl) (H0.drew) ?_
          iterate 26 first
            | (apply calm_pass
               · rfl
               intro K hK
               go_simp
               refine hK _ ?_
               clear hK K)
            | (apply calm_step
               · rfl
               · intro w1 h1
                 have c0 := h1.cell 4 0 rfl rfl
                 have c1 := h1.cell 4 1 rfl rfl
                 have c2 := h1.cell 0 0 rfl rfl
                 go_simp
                 first
                   | rfl
                   | exact ⟨rfl, h1⟩
                   | (go_at_call 64; with_reducible exact St.callPast (kr w1) h1)
                   | (go_at_call 65; with_reducible exact St.callPast (kq w1) h1)
               intro K hK
               go_simp
               refine hK _ ?_
               clear hK K)
          refine calm_nil ?_
          intro w2 H2
          go_wp2
          go_ret
          have e : res = (2, m) := by rw [← hres3.out, hre]; simp [hR0]
          rw [e]
          exact ⟨rfl, RefAt.mk (l := []) (H2.take (l1 := [_, _, _, _]))⟩
    · have z1 : (q != v) = true := by simpa using hqv
      refine wp_calm (fun w' => St S w w' [Blk b #[.slice al m.last.length cl, vw, .int .i64 m.calls, vc] 41, Row 9 1 (.slice al m.last.length cl) m.last.length (texts m.last), Row 46 2 vw m.waits.length (refWaits m.waits), Row 3 1 vc m.reads.length (intCells m.reads), Blk w.heap.size #[.int .i64 f, .int .i64 l] 23]) (by kernel_rfl) (by kernel_rfl) (H0.drew) ?_
      iterate 26 first
        | (apply calm_pass
           · rfl
           intro K hK
           go_simp
           refine hK _ ?_
           clear hK K)
        | (apply calm_step
           · rfl
           · intro w1 h1
             have c0 := h1.cell 4 0 rfl rfl
             have c1 := h1.cell 4 1 rfl rfl
             have c2 := h1.cell 0 0 rfl rfl
             go_simp
             first
               | rfl
               | exact ⟨rfl, h1⟩
               | (go_at_call 64; with_reducible exact St.callPast (kr w1) h1)
               | (go_at_call 65; with_reducible exact St.callPast (kq w1) h1)
           intro K hK
           go_simp
           refine hK _ ?_
           clear hK K)
      refine calm_nil ?_
      intro w2 H2
      go_wp2
      go_ret
      have e : res = (2, m) := by rw [← hres3.out]; simp [hb.out, z1]
      rw [e]
      exact ⟨rfl, RefAt.mk (l := []) (H2.take (l1 := [_, _, _, _]))⟩

end Go.Proofs.Ytbikjhmdpgoofab
