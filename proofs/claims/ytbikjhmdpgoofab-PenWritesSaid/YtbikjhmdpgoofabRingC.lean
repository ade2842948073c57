/- The walks of the ring over a store: Write. Conditions: the store's blocks lie as its maker lays them, the bytes can be read. -/
import Derived.Test.YtbikjhmdpgoofabRingB
import Derived.Test.YtbikjhmdpgoofabStoreH
import Derived.Laws.BitsLemmas
namespace Go.Proofs.Ytbikjhmdpgoofab
open Go.RowKit

/-- A call on one part, in the midst of a call. -/
theorem St.callOn {S : Nat → Prop} {w w' : World} {A A' : SP} {L : List SP} {P : Program} {fid : Nat} {args : Array Value} {p : Ending → Prop} (hc : ∀ S', Sep w' [A] S' → Calls P fid args w' fun e w2 => p e ∧ St S' w' w2 [A']) (H : St S w w' (A :: L)) :
    Calls P fid args w' fun e w2 => p e ∧ St S w w2 (A' :: L) := by
  obtain ⟨S1, K1, G1⟩ := St.call (l1 := [_]) H
  exact (hc S1 K1).mono fun _ _ h => ⟨h.1, G1 _ _ h.2⟩

/-- What lies outside S may be lent at any time. -/
theorem St.lendS {S : Nat → Prop} {w0 w : World} {l1 rest : List SP} {v : Value} {bs : List UInt8} (H : St S w0 w (l1 ++ rest)) (hv : BytesRO S w0 v bs) :
    ∃ S1, Sep w l1 S1 ∧ BytesRO S1 w v bs ∧ ∀ w' l1', St S1 w w' l1' → St S w0 w' (l1' ++ rest) := by
  obtain ⟨S1, h1, h2, _, h4⟩ := St.call2 H
  obtain ⟨ad, cap, e1, e2, e3⟩ := hv
  refine ⟨S1, h1, ⟨ad, cap, e1, e2, fun hl => ?_⟩, h4⟩
  obtain ⟨b, o, g1, g2, g3, g4⟩ := e3 hl
  exact ⟨b, o, g1, Nat.lt_of_lt_of_le g2 H.size, fun hs => (h2 b hs).elim g3 (fun h => by omega), fun i hi => (World.cell?_of_block (w := w0) (H.kept.block b g2 g3)).trans (g4 i hi)⟩

def rwGo (f l v : Int) (b : List UInt8) : Nat → Nat → StM → Int × StM
  | 0, _, m => (0, m)
  | k + 1, i, m => if (m.write (blockI f l (v + i)) ((b.drop (128 * i)).take 128)).1 = 0 then rwGo f l v b k (i + 1) (m.write (blockI f l (v + i)) ((b.drop (128 * i)).take 128)).2 else m.write (blockI f l (v + i)) ((b.drop (128 * i)).take 128)
def StM.rwrite (m : StM) (f l v : Int) (b : List UInt8) : Int × StM :=
  if runE f l v (b.length / 128 : Nat) m.last.length ≠ 0 then (runE f l v (b.length / 128 : Nat) m.last.length, m) else if b.length % 128 ≠ 0 then (2, m) else rwGo f l v b (b.length / 128) 0 m

theorem runE_ok {f l v n cnt : Int} (h : runE f l v n cnt = 0) : 0 ≤ v ∧ v ≤ 1125899906842624 ∧ 1 ≤ l ∧ l ≤ 4096 ∧ 1 ≤ n ∧ n ≤ l ∧ soundI f l = true ∧ f + l ≤ cnt := by
  unfold runE at h
  split at h
  · rename_i hc
    simp only [Bool.and_eq_true, beq_iff_eq] at hc
    obtain ⟨⟨h1, h2⟩, h3⟩ := hc
    have hp := place_true h2
    have hs := start_range (f := f) (l := l) (v := v) (n := n) (by rw [h3]; omega)
    simp only [rightI, Bool.and_eq_true, decide_eq_true_eq] at h1
    exact ⟨hp.1, hp.2, hs.2.2.1, hs.2.2.2.1, hs.2.2.2.2.1, hs.2.2.2.2.2.1, h1.1, h1.2⟩
  · omega
theorem run_two (f l v n cnt : Int) : runE f l v n cnt = 0 ∨ runE f l v n cnt = 2 := by unfold runE; split <;> simp

theorem BytesRO.part {S : Nat → Prop} {w : World} {b o n cap : Nat} {l : List UInt8} (h : BytesRO S w (.slice (some ⟨b, o, none⟩) n cap) l) (hn : l.length = n) {i k : Nat} (hk : i + k ≤ n) (cap' : Nat) (hc : k ≤ cap') :
    BytesRO S w (.slice (some ⟨b, o + i, none⟩) k cap') ((l.drop i).take k) := by
  obtain ⟨ad, cp, e1, e2, e3⟩ := h
  have hl : ((l.drop i).take k).length = k := by simp; omega
  refine ⟨_, cap', by rw [hl], by rw [hl]; exact hc, fun hne => ?_⟩
  have hk0 : 0 < k := by
    rcases Nat.eq_zero_or_pos k with h | h
    · subst h; simp at hne
    · exact h
  obtain ⟨b', o', g1, g2, g3, g4⟩ := e3 (by intro h; subst h; simp at hn; omega)
  simp only [Value.slice.injEq] at e1
  obtain ⟨e1, _⟩ := e1
  rw [g1] at e1
  simp only [Option.some.injEq, Addr.mk.injEq] at e1
  obtain ⟨rfl, rfl, _⟩ := e1
  refine ⟨_, _, rfl, g2, g3, fun j hj => ?_⟩
  rw [hl] at hj
  have := g4 (i + j) (by omega)
  rw [Nat.add_assoc, this]
  congr 2
  simp

set_option maxHeartbeats 400000 in
theorem ring_write {b : Nat} {m : StM} (f l v : Int) {bs : List UInt8} {bv' : Value} {w : World} {S : Nat → Prop} (hg : m.Good) (hw : m.waits.length ≤ 900000) (hv : BytesRO S w bv' bs) (hbl : bs.length ≤ 9223372036854775807) (H : Sep w [StoreAt b m] S) :
    Calls Try.prog 15 #[.pointer (some ⟨b, 0, none⟩), ringV f l, .int .i64 v, bv'] w fun e w' => e = .returned (.int .i64 (m.rwrite f l v bs).1) ∧ St S w w' [StoreAt b (m.rwrite f l v bs).2] := by
  obtain ⟨ad, cap, rfl, hcap, hcell⟩ := id hv
  have H0 : St S w _ [_, StoreAt b m] := (St.refl H).allocAt rfl #[.int .i64 f, .int .i64 l] 23
  obtain ⟨N, hN⟩ : ∃ N, bs.length / 128 = N := ⟨_, rfl⟩
  have hdiv : ((bs.length : Int).tdiv 128) = (N : Int) := by rw [Int.tdiv_eq_ediv_of_nonneg (by omega)]; omega
  have hmod : ((bs.length : Int).tmod 128) = ((bs.length % 128 : Nat) : Int) := by rw [Int.tmod_eq_emod_of_nonneg (by omega)]; omega
  obtain ⟨res, hres⟩ : ∃ res, m.rwrite f l v bs = res := ⟨_, rfl⟩
  rw [hres]
  have hres2 : (if runE f l v N m.last.length ≠ 0 then (runE f l v N m.last.length, m) else if bs.length % 128 ≠ 0 then (2, m) else rwGo f l v bs N 0 m) = res := by rw [← hres, ← hN]; rfl
  have hres3 := Lib.hid hres2
  clear hres hres2
  unfold ringV
  go_enter Try.func15, Try.ntmps15
  go_wp2_with fail
  refine (St.callOn (fun S' h => ring_run f l v N h) (H0.pick [1, 0])).mono ?_
  rintro e w1 ⟨rfl, H1⟩
  have H1 : St S w w1 [StoreAt b m, Blk w.heap.size #[.int .i64 f, .int .i64 l] 23] := H1
  rcases run_two f l v N m.last.length with hr | hr
  · have hr3 := Lib.hid hr
    rw [hr]
    clear hr
    by_cases hm0 : bs.length % 128 = 0
    · have hm2 : ((bs.length % 128 : Nat) : Int) = 0 := by omega
      have hok := runE_ok hr3.out
      obtain ⟨bb, oo, rfl, hbb, hbS, hcc⟩ := hcell (by rintro rfl; simp at hN; omega)
      have hres4 : rwGo f l v bs N 0 m = res := by rw [← hres3.out, hr3.out]; simp [hm0]
      go_wp2_with fail
      go_loopw [29] (fun j wr => ∃ (i : Nat) (m' : StM), i ≤ N ∧ j = .int .i64 i ∧ m'.Good ∧ m'.waits.length ≤ m.waits.length + i ∧ rwGo f l v bs (N - i) i m' = res ∧
          St S w wr [StoreAt b m', Blk w.heap.size #[.int .i64 f, .int .i64 l] 23])
        (fun j _ => N - (intOf j).toNat)
      case atStart => exact ⟨0, m, by omega, rfl, hg, by omega, hres4, H1⟩
      case round =>
        clear H1 hres4 hm2 hdiv hmod H0
        obtain ⟨i, m', hi, rfl, hg', hw', hrw, HL⟩ := hrel
        by_cases hlt : i < N
        · have c0 := HL.cell 1 0 rfl rfl
          have c1 := HL.cell 1 1 rfl rfl
          obtain ⟨k, hk⟩ : ∃ k, N - i = k + 1 := ⟨N - i - 1, by omega⟩
          rw [hk] at hrw
          have hrw2 := Lib.hid hrw
          clear hrw
          have hNl : (N : Int) ≤ 4096 := by omega
          have x1 : IntKind.i64.wrap (v + (i : Int)) = v + i := by rw [IntKind.wrap_i64]; omega
          have x2 : IntKind.i64.wrap (128 * (i : Int)) = 128 * (i : Int) := by rw [IntKind.wrap_i64]; omega
          have x3 : IntKind.i64.wrap ((i : Int) + 1) = (i : Int) + 1 := by rw [IntKind.wrap_i64]; omega
          have x4 : IntKind.i64.wrap (128 * ((i : Int) + 1)) = 128 * (i : Int) + 128 := by rw [IntKind.wrap_i64]; omega
          have x5 : (0 : Int) ≤ 128 * (i : Int) + 128 := by omega
          have x6 : 128 * (i : Int) + 128 ≤ (cap : Int) := by omega
          have x7 : (0 : Int) ≤ 128 * (i : Int) := by omega
          have x12 : 128 * (i : Int) ≤ 128 * (i : Int) + 128 := by omega
          have x8 : 128 * (i : Int) ≤ max (128 * (i : Int) + 128) 0 := by omega
          have x9 : (128 * (i : Int)).toNat = 128 * i := by omega
          have x10 : (128 * (i : Int) + 128).toNat = 128 * i + 128 := by omega
          have x11 : ¬ cap = 128 * i := by omega
          go_wp2_with fail
          refine wp_calm_tail 13 (fun w' => St S w w' [StoreAt b m', Blk w.heap.size #[.int .i64 f, .int .i64 l] 23]) (by kernel_rfl) (by kernel_rfl) HL.drew ?_
          simp only [List.take_succ_cons, List.take_zero, List.drop_succ_cons, List.drop_zero]
          iterate 13
            apply calm_step
            · rfl
            · intro w1 h1
              have d0 := h1.cell 1 0 rfl rfl
              have d1 := h1.cell 1 1 rfl rfl
              go_simp
              first
                | rfl
                | exact ⟨rfl, h1⟩
                | (go_at_call 11; exact St.callPast (ring_block f l (v + i) w1) h1)
                | (trace_state; fail)
            intro K hK
            go_simp
            refine hK _ ?_
            clear hK K
          refine calm_nil ?_
          intro w2 H2
          go_wp2_with fail
          obtain ⟨S1, K1, R1, G1⟩ := St.lendS (l1 := [_]) H2 (BytesRO.part hv rfl (i := 128 * i) (k := 128) (by omega) (cap - 128 * i) (by omega))
          have hbn : ((bs.drop (128 * i)).take 128).length = 128 := by simp; omega
          refine (store_write hg' (by omega) R1 K1).mono ?_
          rintro e w3 ⟨rfl, H3⟩
          have H4 : St S w w3 [StoreAt b _, _] := G1 _ _ H3
          have hgn := write_good hg' (by omega) (blockI f l (v + i)) ((bs.drop (128 * i)).take 128)
          have hwn := write_waits (m := m') (blockI f l (v + i)) ((bs.drop (128 * i)).take 128)
          have hrw3 := hrw2.out
          rw [rwGo] at hrw3
          obtain ⟨r, hr⟩ : ∃ r, m'.write (blockI f l (v + i)) ((bs.drop (128 * i)).take 128) = r := ⟨_, rfl⟩
          rw [hr] at hrw3 hgn hwn H4 ⊢
          clear hr hrw2 R1 K1 G1 H3 H2 HL
          obtain ⟨e, m2⟩ := r
          by_cases he : e = 0
          · subst he
            rw [if_pos rfl] at hrw3
            have hrw4 := Lib.hid hrw3
            clear hrw3
            go_wp2
            go_roundw
            case rel => exact ⟨i + 1, m2, by omega, by go_num, hgn, by omega, by rw [← hrw4.out]; congr 1; omega, H4⟩
            case measure => simp [intOf]; omega
          · have he2 : (e == 0) = false := by simpa using he
            rw [if_neg he] at hrw3
            have hrw4 := Lib.hid hrw3
            clear hrw3
            go_wp2
            go_ret
            exact ⟨by rw [← hrw4.out]; rfl, by rw [← hrw4.out]; exact H4.take (l1 := [_])⟩
        · obtain rfl : i = N := by omega
          rw [Nat.sub_self] at hrw
          have e : res = (0, m') := by rw [← hrw]; rfl
          have e2 := Lib.hid e
          clear e hrw
          go_wp2
          go_ret
          exact ⟨by rw [e2.out]; rfl, by rw [e2.out]; exact HL.take (l1 := [_])⟩
    · have hm2 : (((bs.length % 128 : Nat) : Int) == 0) = false := by simp; omega
      go_wp2
      go_ret
      have e : res = (2, m) := by rw [← hres3.out, hr3.out]; simp [hm0]
      rw [e]
      exact ⟨rfl, H1.take (l1 := [_])⟩
  · have hr3 := Lib.hid hr
    rw [hr]
    clear hr
    go_wp2
    go_ret
    have e : res = (2, m) := by rw [← hres3.out, hr3.out]; simp
    rw [e]
    exact ⟨rfl, H1.take (l1 := [_])⟩

end Go.Proofs.Ytbikjhmdpgoofab
