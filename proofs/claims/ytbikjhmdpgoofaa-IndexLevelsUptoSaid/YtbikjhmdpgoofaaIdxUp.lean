/- Records that came in, within a bound of their bulk. -/
import Derived.Test.YtbikjhmdpgoofaaUpR
import Derived.Test.YtbikjhmdpgoofaaIdxO
import Derived.Test.YtbikjhmdpgoofaaIdxIn
namespace Go.Proofs.Ytbikjhmdpgoofaa
open Go.RowKit

theorem itm_read {w : World} {cs : List Value} {N : Nat} (hN : N ≤ 9223372036854775807) (h : RB Try.prog w 108 cs N) : ∃ x : Itm, cs = (itmC x).toList ∧ x.fits ∧ x.key.length ≤ N := by
  have hl : cs.length = 4 := (RB.struct Try.underlying108 h).1.trans (by kernel_rfl)
  obtain ⟨c0, c1, c2, c3, rfl⟩ : ∃ a b c d, cs = [a, b, c, d] := by
    match cs, hl with
    | [a, b, c, d], _ => exact ⟨a, b, c, d, rfl⟩
  have r0 : RB Try.prog w 3 [c0] N := RB.field Try.underlying108 h 0 rfl (o := 0) (n := 1) rfl rfl (by kernel_rfl)
  have r1 : RB Try.prog w 9 [c1] N := RB.field Try.underlying108 h 1 rfl (o := 1) (n := 1) rfl rfl (by kernel_rfl)
  have r2 : RB Try.prog w 3 [c2] N := RB.field Try.underlying108 h 2 rfl (o := 2) (n := 1) rfl rfl (by kernel_rfl)
  have r3 : RB Try.prog w 3 [c3] N := RB.field Try.underlying108 h 3 rfl (o := 3) (n := 1) rfl rfl (by kernel_rfl)
  obtain ⟨n0, e0, g0⟩ := r0.int Try.underlying3
  obtain ⟨s, e1, g1⟩ := r1.text Try.underlying9
  obtain ⟨n2, e2, g2⟩ := r2.int Try.underlying3
  obtain ⟨n3, e3, g3⟩ := r3.int Try.underlying3
  simp only [List.cons.injEq, and_true] at e0 e1 e2 e3
  subst e0 e1 e2 e3
  have hs : s.data.toList.length = s.size := Array.length_toList
  refine ⟨⟨n0, s.data.toList, n2, n3⟩, ?_, ⟨int_bounds g0, by simp only; omega, int_bounds g2, int_bounds g3⟩, by simp only; omega⟩
  cases s
  simp [textV]
theorem itms_read {w : World} {cs : List Value} {N : Nat} (hN : N ≤ 9223372036854775807) (h : RB Try.prog w 72 cs N) : ∃ v l, cs = [v] ∧ ItmsRO w v l ∧ l.length ≤ N ∧ ∀ x ∈ l, x.key.length ≤ N := by
  obtain ⟨ao, cap, l, rfl, h1, h2, h3⟩ := RB.list (p := fun cs (x : Itm) => cs = (itmC x).toList ∧ x.fits ∧ x.key.length ≤ N) Try.underlying72 (size := 4) (by kernel_rfl) (by omega) (fun cs' h => itm_read hN h) h
  have hx : ∀ x ∈ l, x.fits ∧ x.key.length ≤ N := fun x hx => by
    obtain ⟨b, o, _, _, hc⟩ := h3 (fun h => by subst h; cases hx)
    obtain ⟨i, hi⟩ := List.getElem?_of_mem hx
    obtain ⟨cs', _, _, _, g⟩ := hc i x hi
    exact g
  refine ⟨_, l, rfl, ⟨ao, cap, rfl, h1, fun x h => (hx x h).1, fun hl => ?_⟩, h2, fun x h => (hx x h).2⟩
  obtain ⟨b, o, rfl, hb, hc⟩ := h3 hl
  refine ⟨b, o, rfl, hb, fun i x hi => ?_⟩
  obtain ⟨cs', _, g2, rfl, _⟩ := hc i x hi
  exact g2
theorem wt5_le {N : Nat} : ∀ l : List Itm, (∀ x ∈ l, x.key.length ≤ N) → wt5 l ≤ l.length * (10 + N)
  | [], _ => by simp [wt5]
  | x :: l, h => by
    have h1 := wt5_le l (fun y hy => h y (List.mem_cons_of_mem _ hy))
    have h2 := h x List.mem_cons_self
    simp only [wt5, List.map_cons, List.sum_cons, List.length_cons, Nat.succ_mul] at h1 ⊢
    omega
theorem wts_le {M : Nat} : ∀ l : List Rcd, (∀ x ∈ l, wt5 x.items ≤ M) → wts l ≤ l.length * (50 + M)
  | [], _ => by simp [wts]
  | x :: l, h => by
    have h1 := wts_le l (fun y hy => h y (List.mem_cons_of_mem _ hy))
    have h2 := h x List.mem_cons_self
    simp only [wts, wt14, List.map_cons, List.sum_cons, List.length_cons, Nat.succ_mul] at h1 ⊢
    omega
theorem rcd_read {w : World} {cs : List Value} {N : Nat} (hN : N ≤ 1048576) (h : RB Try.prog w 82 cs N) : ∃ r : Rcd, cs = r.cells ∧ r.good w ∧ wt5 r.items ≤ 1048576 * (10 + 1048576) := by
  have hl : cs.length = 36 := (RB.struct Try.underlying82 h).1.trans (by kernel_rfl)
  obtain ⟨c0, c1, c2, c3, tl, rfl, htl⟩ : ∃ a b c d tl, cs = a :: b :: c :: d :: tl ∧ tl.length = 32 := by
    match cs, hl with
    | a :: b :: c :: d :: tl, h => exact ⟨a, b, c, d, tl, rfl, by simpa using h⟩
  have r0 : RB Try.prog w 3 [c0] N := RB.field Try.underlying82 h 0 rfl (o := 0) (n := 1) rfl rfl (by kernel_rfl)
  have r1 : RB Try.prog w 3 [c1] N := RB.field Try.underlying82 h 1 rfl (o := 1) (n := 1) rfl rfl (by kernel_rfl)
  have r2 : RB Try.prog w 72 [c2] N := RB.field Try.underlying82 h 2 rfl (o := 2) (n := 1) rfl rfl (by kernel_rfl)
  have r3 : RB Try.prog w 3 [c3] N := RB.field Try.underlying82 h 3 rfl (o := 3) (n := 1) rfl rfl (by kernel_rfl)
  have r4 : RB Try.prog w 80 (tl.take 32) N := RB.field Try.underlying82 h 4 rfl (o := 4) (n := 32) rfl rfl (by kernel_rfl)
  rw [List.take_of_length_le (by omega)] at r4
  obtain ⟨n0, e0, g0⟩ := r0.int Try.underlying3
  obtain ⟨n1, e1, g1⟩ := r1.int Try.underlying3
  obtain ⟨v, l, e2, k1, k2, k3⟩ := itms_read (by omega) r2
  obtain ⟨n3, e3, g3⟩ := r3.int Try.underlying3
  simp only [List.cons.injEq, and_true] at e0 e1 e2 e3
  subst e0 e1 e2 e3
  have hon := R.ones Try.underlying80 (by kernel_rfl) Try.underlying5 (by kernel_rfl) r4.all
  have hk := wt5_le (N := 1048576) l (fun x hx => by have := k3 x hx; omega)
  refine ⟨⟨n1, _, l, _⟩, rfl, ⟨by simp [htl], rfl, rfl, k1, by simp only; omega, int_bounds g1, ?_⟩, ?_⟩
  · obtain ⟨ad, cap, rfl, _⟩ := k1
    simp only [allOne, Array.all_eq_true_iff_forall_mem]
    intro u hu
    simp only [List.mem_toArray, List.mem_cons] at hu
    rcases hu with rfl | rfl | rfl | rfl | hu
    · rfl
    · rfl
    · rfl
    · rfl
    · obtain ⟨m, rfl⟩ := hon u hu
      rfl
  · simp only
    refine Nat.le_trans hk (Nat.mul_le_mul_right _ (by omega))
theorem rcds_read {w : World} {cs : List Value} {N : Nat} (hN : N ≤ 1048576) (h : RB Try.prog w 60 cs N) : ∃ v l, cs = [v] ∧ RcsRO w v l ∧ l.length ≤ N ∧ wts l ≤ 4611686018427387000 := by
  obtain ⟨ao, cap, l, rfl, h1, h2, h3⟩ := RB.list (p := fun cs (r : Rcd) => cs = r.cells ∧ r.good w ∧ wt5 r.items ≤ 1048576 * (10 + 1048576)) Try.underlying60 (size := 36) (by kernel_rfl) (by omega) (fun cs' h => rcd_read hN h) h
  have hx : ∀ x ∈ l, x.good w ∧ wt5 x.items ≤ 1048576 * (10 + 1048576) := fun x hx => by
    obtain ⟨b, o, _, _, hc⟩ := h3 (fun h => by subst h; cases hx)
    obtain ⟨i, hi⟩ := List.getElem?_of_mem hx
    obtain ⟨cs', _, _, _, g⟩ := hc i x hi
    exact g
  refine ⟨_, l, rfl, ⟨ao, cap, rfl, h1, fun x h => (hx x h).1, fun hl => ?_⟩, h2, ?_⟩
  · obtain ⟨b, o, rfl, hb, hc⟩ := h3 hl
    refine ⟨b, o, rfl, hb, fun i x hi => ?_⟩
    obtain ⟨cs', _, g2, rfl, _⟩ := hc i x hi
    exact g2
  · refine Nat.le_trans (wts_le l fun x h => (hx x h).2) ?_
    refine Nat.le_trans (Nat.mul_le_mul_right _ (show l.length ≤ 1048576 by omega)) ?_
    omega

end Go.Proofs.Ytbikjhmdpgoofaa
