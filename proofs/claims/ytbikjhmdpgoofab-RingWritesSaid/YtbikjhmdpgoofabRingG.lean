/- More walks of the ring and the store: a limit, reading of any length, from no store; bytes that came in as a text. Conditions: the store's blocks lie as its maker lays them. -/
import Derived.Test.YtbikjhmdpgoofabRefRingC
namespace Go.Proofs.Ytbikjhmdpgoofab
open Go.RowKit

theorem conv_zero {w : World} (a : Addr) (cap : Nat) : (convert 29 9 (.slice (some a) 0 cap)).run Try.prog w = .ok (.string ⟨#[]⟩) w := by
  have hl : (loadCells a 0).run Try.prog w = .ok (([] : List Int).map (Value.int .u8)).toArray w := by
    simpa using run_loadCells_list (P := Try.prog) w a [] (fun j v hj => by simp at hj)
  rw [run_convert_bytes_string w 29 9 5 _ 0 cap Try.underlying29 Try.underlying5 Try.underlying9, run_bytesToString w _ 0 cap [] hl]
  rfl
/-- Bytes that came in, as a text. -/
theorem conv_ro {S : Nat → Prop} {w w' : World} {v : Value} {bs : List UInt8} (hv : BytesRO S w v bs) (hk : ∀ b, b < w.heap.size → ¬ S b → w'.heap[b]? = w.heap[b]?) :
    (convert 29 9 v).run Try.prog w' = .ok (.string ⟨bs.toArray⟩) w' := by
  obtain ⟨ad, cap, rfl, _, h⟩ := hv
  by_cases h0 : bs = []
  · subst h0
    cases ad with
    | none => exact conv_nil
    | some a => exact conv_zero a cap
  · obtain ⟨b, o, rfl, h1, h2, h3⟩ := h h0
    refine conv_text (fun j u hj => ?_) rfl
    have hjl : j < bs.length := by have := (List.getElem?_eq_some_iff.1 hj).1; rwa [length_bvs] at this
    rw [World.cell?_of_block (w := w) (hk b h1 h2), h3 j hjl, ← hj]
    simp [bvs, hjl]
theorem own_text {w : World} {v : Value} {n : Nat} {bs : List UInt8} (h : w.ownsRow 0 5 1 v n (bvs bs)) : (convert 29 9 v).run Try.prog w = .ok (.string ⟨bs.toArray⟩) w := by
  have hn : bs.length = n := by have := h.1; rw [length_bvs] at this; omega
  rcases own_shape h with ⟨rfl, h0⟩ | ⟨g, cap, rfl, _⟩
  · have : bs = [] := List.eq_nil_of_length_eq_zero (by omega)
    subst this
    exact conv_nil
  · exact conv_text (fun j u hj => by rw [Nat.zero_add]; exact own_cell h hj) hn

theorem storeAt_limit {b : Nat} {m : StM} {n : Int} {w : World} {S : Nat → Prop} (hn : -9223372036854775808 ≤ n ∧ n ≤ 9223372036854775807) (H : Sep w [StoreAt b m] S) :
    Calls Try.prog 14 #[.pointer (some ⟨b, 0, none⟩), .int .i64 n] w fun e w' => e = .returned (.tuple #[]) ∧ St S w w' [StoreAt b { m with calls := max n (-1) }] := by
  obtain ⟨bl, br, vw, H⟩ := StoreAt.out H
  obtain ⟨S1, K1, G1⟩ := St.call (l1 := [_]) (St.refl H)
  refine (store_limit hn K1).mono ?_
  rintro e w1 ⟨rfl, H2⟩
  exact ⟨rfl, StoreAt.mk (l := []) (bl := bl) (br := br) (vw := vw) (G1 _ _ H2)⟩

set_option maxHeartbeats 1000000 in
theorem ring_read_bad {b : Nat} {m : StM} (f l v n : Int) {w : World} {S : Nat → Prop} (hr : runE f l v n m.last.length = 2) (H : Sep w [StoreAt b m] S) :
    Calls Try.prog 18 #[.pointer (some ⟨b, 0, none⟩), ringV f l, .int .i64 v, .int .i64 n] w fun e w' => e = .returned (.tuple #[.slice none 0 0, .int .i64 2]) ∧ St S w w' [StoreAt b m] := by
  have H0 : St S w _ [_, StoreAt b m] := (St.refl H).allocAt rfl #[.int .i64 f, .int .i64 l] 23
  unfold ringV
  go_enter Try.func18, Try.ntmps18
  go_wp2_with fail
  refine (St.callOn (fun S' h => ring_run f l v n h) (H0.pick [1, 0])).mono ?_
  rintro e w1 ⟨rfl, H1⟩
  rw [hr]
  clear hr
  go_wp2
  go_ret2
  exact ⟨rfl, H1.take (l1 := [_])⟩
theorem ring_readI {b : Nat} {m : StM} (f l v n : Int) {w : World} {S : Nat → Prop} (hg : m.Good) (hn : n ≤ 9223372036854775807) (H : Sep w [StoreAt b m] S) :
    Calls Try.prog 18 #[.pointer (some ⟨b, 0, none⟩), ringV f l, .int .i64 v, .int .i64 n] w fun e w' => ∃ v', e = .returned (.tuple #[v', .int .i64 (m.rreadI f l v n).2.1]) ∧
      St S w w' [Row 5 1 v' (m.rreadI f l v n).1.length (bvs (m.rreadI f l v n).1), StoreAt b (m.rreadI f l v n).2.2] := by
  by_cases h0 : 0 ≤ n
  · obtain ⟨N, rfl⟩ := Int.eq_ofNat_of_zero_le h0
    exact ring_read f l v N hg (by omega) H
  · have hr : runE f l v n m.last.length = 2 := by
      rcases run_two f l v n m.last.length with h | h
      · exact absurd (runE_ok h).2.2.2.2.1 (by omega)
      · exact h
    have e : m.rreadI f l v n = ([], 2, m) := by unfold StM.rreadI; rw [hr]; rfl
    rw [e]
    refine (ring_read_bad f l v n hr H).mono ?_
    rintro e w1 ⟨rfl, H1⟩
    exact ⟨_, rfl, H1.row_nil 5 1⟩
theorem ring_read_nil (f l v n : Int) (w : World) : Calls Try.prog 18 #[.pointer none, ringV f l, .int .i64 v, .int .i64 n] w fun e w' => e = .returned (.tuple #[.slice none 0 0, .int .i64 1]) ∧ Below w.heap.size w w' := by
  have H := (St.nil (fun _ => False) w).allocAt rfl #[.int .i64 f, .int .i64 l] 23
  unfold ringV
  go_enter Try.func18, Try.ntmps18
  go_wp2_with fail
  refine (St.callPast (ring_run_nil f l v n _) H).mono ?_
  rintro e w1 ⟨rfl, H1⟩
  go_wp2
  go_ret2
  exact ⟨rfl, H1.below (Nat.le_refl _) (fun _ h => h.elim)⟩
theorem rreadI_good {m : StM} (hg : m.Good) (f l v n : Int) : (m.rreadI f l v n).2.2.Good := by
  unfold StM.rreadI
  split
  · exact hg
  · exact rrGo_good _ _ _ _ _ _ _ hg

end Go.Proofs.Ytbikjhmdpgoofab
