/- The walks of the ring over a store: Read. Condition: the store's blocks lie as its maker lays them. -/
import Derived.Test.YtbikjhmdpgoofabRingC
namespace Go.Proofs.Ytbikjhmdpgoofab
open Go.RowKit

def rrGo (f l v : Int) : Nat → Nat → StM → List UInt8 → List UInt8 × Int × StM
  | 0, _, m, out => (out, 0, m)
  | k + 1, i, m, out => if (m.read (blockI f l (v + i))).2.1 = 0 then rrGo f l v k (i + 1) (m.read (blockI f l (v + i))).2.2 (out ++ (m.read (blockI f l (v + i))).1) else ([], (m.read (blockI f l (v + i))).2.1, (m.read (blockI f l (v + i))).2.2)
def StM.rread (m : StM) (f l v : Int) (n : Nat) : List UInt8 × Int × StM :=
  if runE f l v n m.last.length ≠ 0 then ([], runE f l v n m.last.length, m) else rrGo f l v n 0 m []

theorem read_len {m : StM} (hg : m.Good) {a : Int} (h : (m.read a).2.1 = 0) : (m.read a).1.length = 128 := by
  unfold StM.read at *
  split at h
  · simp at h
  · rename_i hin
    split at h
    · simp at h
    · rename_i hc
      rw [if_neg hin, if_neg hc]
      have hin2 : 0 ≤ a ∧ a < m.last.length := by simpa [StM.inn] using hin
      refine over_len ?_ (fun y hy => (hg.waits y hy).2.2)
      rw [List.getD, List.getElem?_eq_getElem (by omega)]
      exact hg.full _ (List.getElem_mem _)

set_option maxHeartbeats 2000000 in
set_option maxRecDepth 100000 in
theorem ring_read {b : Nat} {m : StM} (f l v : Int) (N : Nat) {w : World} {S : Nat → Prop} (hg : m.Good) (hN : N ≤ 9223372036854775807) (H : Sep w [StoreAt b m] S) :
    Calls Try.prog 18 #[.pointer (some ⟨b, 0, none⟩), ringV f l, .int .i64 v, .int .i64 N] w fun e w' => ∃ v', e = .returned (.tuple #[v', .int .i64 (m.rread f l v N).2.1]) ∧
      St S w w' [Row 5 1 v' (m.rread f l v N).1.length (bvs (m.rread f l v N).1), StoreAt b (m.rread f l v N).2.2] := by
  have H0 : St S w _ [_, StoreAt b m] := (St.refl H).allocAt rfl #[.int .i64 f, .int .i64 l] 23
  obtain ⟨res, hres⟩ : ∃ res, m.rread f l v N = res := ⟨_, rfl⟩
  rw [hres]
  have hres2 : (if runE f l v N m.last.length ≠ 0 then ([], runE f l v N m.last.length, m) else rrGo f l v N 0 m []) = res := by rw [← hres]; rfl
  have hres3 := Lib.hid hres2
  clear hres hres2
  unfold ringV
  go_enter Try.func18, Try.ntmps18
  go_wp2_with fail
  refine (St.callOn (fun S' h => ring_run f l v N h) (H0.pick [1, 0])).mono ?_
  rintro e w1 ⟨rfl, H1⟩
  have H1 : St S w w1 [StoreAt b m, Blk w.heap.size #[.int .i64 f, .int .i64 l] 23] := H1
  rcases run_two f l v N m.last.length with hr | hr
  · have hr3 := Lib.hid hr
    rw [hr]
    clear hr
    have hok := runE_ok hr3.out
    have hres4 : rrGo f l v N 0 m [] = res := by rw [← hres3.out, hr3.out]; simp
    go_wp2_with fail
    have H2 := (H1.pick [0, 1]).row_nil 5 1
    go_loopw [11, 24] (fun va j wr => ∃ (i : Nat) (m' : StM) (out : List UInt8), i ≤ N ∧ j = .int .i64 i ∧ m'.Good ∧ out.length = i * 128 ∧ rrGo f l v (N - i) i m' out = res ∧
        St S w wr [Row 5 1 va out.length (bvs out), StoreAt b m', Blk w.heap.size #[.int .i64 f, .int .i64 l] 23])
      (fun _ j _ => N - (intOf j).toNat)
    case atStart => exact ⟨0, m, [], by omega, rfl, hg, rfl, hres4, H2⟩
    case round =>
      clear H1 H2 hres4 H0
      obtain ⟨i, m', out, hi, rfl, hg', hol, hrw, HL⟩ := hrel
      by_cases hlt : i < N
      · obtain ⟨k, hk⟩ : ∃ k, N - i = k + 1 := ⟨N - i - 1, by omega⟩
        rw [hk] at hrw
        have hrw2 := Lib.hid hrw
        clear hrw
        have x1 : IntKind.i64.wrap (v + (i : Int)) = v + i := by rw [IntKind.wrap_i64]; omega
        have c0 := HL.cell 2 0 rfl rfl
        have c1 := HL.cell 2 1 rfl rfl
        go_wp2_with fail
        refine (St.callPast (ring_block f l (v + i) _) HL).mono ?_
        rintro e w2 ⟨rfl, H2⟩
        go_wp2_with fail
        obtain ⟨S1, K1, G1⟩ := St.call (l1 := [_]) (H2.pick [1, 0, 2])
        refine (store_read hg' K1).mono ?_
        rintro e w3 ⟨vr, rfl, H3⟩
        have hgn := read_good hg' (blockI f l (v + i))
        have hln := read_len hg' (a := blockI f l (v + i))
        have H4 : St S w w3 [BytesAt vr _, StoreAt b _, _, _] := G1 _ _ H3
        have hrw3 := hrw2.out
        rw [rrGo] at hrw3
        obtain ⟨r, hr⟩ : ∃ r, m'.read (blockI f l (v + i)) = r := ⟨_, rfl⟩
        rw [hr] at hrw3 hgn hln H4 ⊢
        clear hr hrw2 K1 G1 H3 H2 HL
        obtain ⟨x, e, m2⟩ := r
        by_cases he : e = 0
        · subst he
          rw [if_pos rfl] at hrw3
          have hrw4 := Lib.hid hrw3
          clear hrw3
          have hxl : x.length = 128 := hln rfl
          obtain ⟨gx, tx, rfl, H5⟩ := BytesAt.out H4 hxl (by omega)
          have H6 : St S w w3 [Row 5 1 u11 out.length (bvs out), Blk gx (bvs x).toArray tx, StoreAt b m2, _] := H5.pick [2, 0, 1, 3]
          have hcs : ∀ j u, (bvs x)[j]? = some u → w3.cell? ((⟨gx, 0, none⟩ : Addr).add j) = some u := by
            intro j u hj
            rw [Addr.add_mid, cell_blk (H6.blk 1 rfl), Nat.zero_add, List.getElem?_toArray]
            exact hj
          have hlen : (bvs x).length = 128 * 1 := by rw [length_bvs, hxl]
          have hbytes : (out.length + 128) * 1 ≤ 140737488355328 := by omega
          go_wp2_with (at_builtin; go_must (refine St.list_app H6 0 rfl rfl (.tmp 40) (.tmp 41) 29 rfl Try.underlying29 Try.info5 (by decide) rfl (ad := ⟨gx, 0, none⟩) (m := 128) (bvs x) rfl hlen hcs one_bvs (by omega) hbytes ?_; intro g2 cap2 w4 H7 hz3))
          go_roundw
          case rel => exact ⟨i + 1, m2, out ++ x, by omega, by go_num, hgn, by simp [hol, hxl]; omega, by rw [← hrw4.out]; congr 1; omega, by rw [List.length_append, bvs_append, hxl, hol]; rw [hol] at H7; exact H7.pick [0, 2, 3]⟩
          case measure => simp [intOf]; omega
        · have he2 : (e == 0) = false := by simpa using he
          rw [if_neg he] at hrw3
          have hrw4 := Lib.hid hrw3
          clear hrw3
          go_wp2
          go_ret2
          exact ⟨_, by rw [← hrw4.out]; rfl, by rw [← hrw4.out]; exact ((H4.pick [1]).row_nil 5 1)⟩
      · obtain rfl : i = N := by omega
        rw [Nat.sub_self] at hrw
        have e : res = (out, 0, m') := by rw [← hrw]; rfl
        have e2 := Lib.hid e
        clear e hrw
        go_wp2
        go_ret2
        exact ⟨u11, by rw [e2.out]; rfl, by rw [e2.out]; exact HL.take (l1 := [_, _])⟩
  · have hr3 := Lib.hid hr
    rw [hr]
    clear hr
    go_wp2
    go_ret2
    have e : res = ([], 2, m) := by rw [← hres3.out, hr3.out]; simp
    rw [e]
    exact ⟨_, rfl, (H1.take (l1 := [_])).row_nil 5 1⟩

end Go.Proofs.Ytbikjhmdpgoofab
