/- What undoes moves: a swap and a turned bit done again; an image brought back. Plain laws, no program in sight. -/
import Derived.Test.YtaafedpjifaghaaDoorGp7
set_option linter.unusedVariables false
set_option linter.unusedSimpArgs false
namespace Go.Proofs.YtaafedpjifaghaaDoor

theorem lay_last {m : StM} {p : Nat} {x : List UInt8} (h1 : p < m.last.length) (hx : x.length = 128) : (m.lay (p : Int) x).2.last = m.last.set p x := by
  have h : m.inn (p : Int) = true ∧ x.length = 128 := ⟨by simp [StM.inn]; omega, hx⟩
  unfold StM.lay
  rw [if_pos h]
  simp
theorem lays_one {m : StM} {p : Nat} {x : List UInt8} (h1 : p < m.last.length) (hx : x.length = 128) : (m.lays (p : Int) [x]).last = m.last.set p x := lay_last h1 hx
theorem among_nat {m : StM} {i : Int} (h : m.among i 1) : ∃ p : Nat, i = p ∧ p < m.last.length := by
  unfold StM.among at h
  exact ⟨i.toNat, by omega, by omega⟩
theorem among_len {m m' : StM} (h : m'.last.length = m.last.length) (i n : Int) : m'.among i n ↔ m.among i n := by unfold StM.among; rw [h]
theorem blk_nat (m : StM) (p : Nat) : m.blk (p : Int) = m.last.getD p [] := by simp [StM.blk]
theorem getD_set_self {l : List (List UInt8)} {p : Nat} (h : p < l.length) (x : List UInt8) : (l.set p x).getD p [] = x := by
  rw [List.getD_eq_getElem?_getD, List.getElem?_set_self h]; rfl
theorem getD_set_other {l : List (List UInt8)} {p q : Nat} (h : p ≠ q) (x : List UInt8) : (l.set p x).getD q [] = l.getD q [] := by
  rw [List.getD_eq_getElem?_getD, List.getElem?_set_ne h, ← List.getD_eq_getElem?_getD]
theorem set_getD {l : List (List UInt8)} {p : Nat} : l.set p (l.getD p []) = l := by
  refine List.ext_getElem? fun j => ?_
  rw [List.getElem?_set]
  split
  · rename_i h
    subst h
    split
    · rename_i h
      rw [List.getD_eq_getElem?_getD, List.getElem?_eq_getElem h]; rfl
    · rename_i h
      rw [List.getElem?_eq_none (by omega)]
  · rfl
theorem turn_turn {b : List UInt8} {n : Nat} (h : b.length = 128) (hn : n < 1024) : turnBit (turnBit b n) n = b := by
  unfold turnBit
  have hlt : n / 8 < b.length := by omega
  rw [List.getD_eq_getElem?_getD (l := b.set _ _), List.getElem?_set_self hlt]
  simp only [Option.getD_some, List.set_set]
  rw [UInt8.xor_assoc, UInt8.xor_self, UInt8.xor_zero]
  refine List.ext_getElem? fun j => ?_
  rw [List.getElem?_set]
  split
  · rename_i h
    subst h
    rw [List.getD_eq_getElem?_getD, List.getElem?_eq_getElem hlt]; rfl
  · rfl
/-- What a swap leaves. -/
theorem swap_last {m : StM} (hg : m.Good) {p q : Nat} (hp : p < m.last.length) (hq : q < m.last.length) :
    ((m.lays (p : Int) [m.blk (q : Int)]).lays (q : Int) [m.blk (p : Int)]).last = (m.last.set p (m.last.getD q [])).set q (m.last.getD p []) := by
  have l1 : (m.blk (q : Int)).length = 128 := blk_len hg (n := 1) (by unfold StM.among; omega)
  have l2 : (m.blk (p : Int)).length = 128 := blk_len hg (n := 1) (by unfold StM.among; omega)
  rw [lays_one (by rw [lays_len]; exact hq) l2, lays_one hp l1, blk_nat, blk_nat]
theorem swap_swap {l : List (List UInt8)} {p q : Nat} (hp : p < l.length) (hq : q < l.length) :
    ((((l.set p (l.getD q [])).set q (l.getD p [])).set p (((l.set p (l.getD q [])).set q (l.getD p [])).getD q [])).set q (((l.set p (l.getD q [])).set q (l.getD p [])).getD p [])) = l := by
  by_cases h : p = q
  · subst h
    simp only [set_getD]
  · rw [getD_set_self (by simpa using hq), getD_set_other (fun e => h e.symm), getD_set_self hp]
    rw [List.set_comm _ _ (fun e => h e.symm), List.set_set, List.set_set]
    rw [show (l.set p (l.getD p [])) = l from set_getD, set_getD]

/-- A swap, or a turned bit, done again undoes it. -/
theorem undone {r : RogM} (hg : r.Good) {v : Mv} (hk : v.kind = 1 ∨ v.kind = 5) : ((r.do v).2.do v).1 = (r.do v).1 ∧ ((r.do v).2.do v).2.s.last = r.s.last := by
  rcases hk with hk | hk
  · have e : ∀ r : RogM, r.do v = if r.s.among v.at' 1 ∧ r.s.among v.to 1 then (true, r.put ((r.s.lays v.at' [r.s.blk v.to]).lays v.to [r.s.blk v.at'])) else (false, r) := by
      intro r
      unfold RogM.do
      rw [if_neg (by omega), if_pos hk]
    rw [e r]
    by_cases h : r.s.among v.at' 1 ∧ r.s.among v.to 1
    · rw [if_pos h]
      simp only
      have hlen : (r.put ((r.s.lays v.at' [r.s.blk v.to]).lays v.to [r.s.blk v.at'])).s.last.length = r.s.last.length := by
        show ((r.s.lays v.at' [r.s.blk v.to]).lays v.to [r.s.blk v.at']).last.length = _
        rw [lays_len, lays_len]
      have hgood : (r.put ((r.s.lays v.at' [r.s.blk v.to]).lays v.to [r.s.blk v.at'])).Good := by
        have := hg.do v
        rw [e r, if_pos h] at this
        exact this
      rw [e, if_pos ⟨(among_len hlen _ _).2 h.1, (among_len hlen _ _).2 h.2⟩]
      refine ⟨rfl, ?_⟩
      obtain ⟨p, hp, hp'⟩ := among_nat h.1
      obtain ⟨q, hq, hq'⟩ := among_nat h.2
      rw [hp, hq] at hgood hlen ⊢
      show ((StM.lays (StM.lays (r.put _).s _ _) _ _)).last = _
      rw [swap_last hgood.s (by rw [hlen]; exact hp') (by rw [hlen]; exact hq')]
      have e5 : (r.put ((r.s.lays (p : Int) [r.s.blk (q : Int)]).lays (q : Int) [r.s.blk (p : Int)])).s.last = (r.s.last.set p (r.s.last.getD q [])).set q (r.s.last.getD p []) := swap_last hg.s hp' hq'
      rw [e5]
      exact swap_swap hp' hq'
    · rw [if_neg h]
      simp only
      rw [e, if_neg h]
      exact ⟨rfl, rfl⟩
  · have e : ∀ r : RogM, r.do v = if r.s.among v.at' 1 ∧ 0 ≤ v.n ∧ v.n ≤ 1023 then (true, r.put (r.s.lays v.at' [turnBit (r.s.blk v.at') v.n.toNat])) else (false, r) := by
      intro r
      unfold RogM.do
      rw [if_neg (by omega), if_neg (by omega), if_neg (by omega), if_neg (by omega), if_neg (by omega), if_pos hk]
    rw [e r]
    by_cases h : r.s.among v.at' 1 ∧ 0 ≤ v.n ∧ v.n ≤ 1023
    · rw [if_pos h]
      simp only
      have hlen : (r.put (r.s.lays v.at' [turnBit (r.s.blk v.at') v.n.toNat])).s.last.length = r.s.last.length := by
        show (r.s.lays v.at' [turnBit (r.s.blk v.at') v.n.toNat]).last.length = _
        rw [lays_len]
      rw [e, if_pos ⟨(among_len hlen _ _).2 h.1, h.2⟩]
      refine ⟨rfl, ?_⟩
      have hb := blk_len hg.s h.1
      obtain ⟨p, hp, hp'⟩ := among_nat h.1
      have hn : v.n.toNat < 1024 := by omega
      rw [hp] at hb hlen ⊢
      have h1 : (r.put (r.s.lays (p : Int) [turnBit (r.s.blk p) v.n.toNat])).s.last = r.s.last.set p (turnBit (r.s.blk p) v.n.toNat) := lays_one hp' (by rw [turn_len]; exact hb)
      have h2 : (r.put (r.s.lays (p : Int) [turnBit (r.s.blk p) v.n.toNat])).s.blk p = turnBit (r.s.blk p) v.n.toNat := by
        rw [blk_nat, h1, getD_set_self hp']
      rw [h2, turn_turn hb hn]
      show (StM.lays _ _ _).last = _
      rw [lays_one (by rw [hlen]; exact hp') hb, h1, List.set_set, blk_nat, set_getD]
    · rw [if_neg h]
      simp only
      rw [e, if_neg h]
      exact ⟨rfl, rfl⟩

theorem chunks_flat {l : List (List UInt8)} (h : ∀ x ∈ l, x.length = 128) : chunks l.length l.flatten = l := by
  refine List.ext_getElem? fun i => ?_
  by_cases hi : i < l.length
  · rw [chunks_get _ hi, Nat.mul_comm, flat_at h (List.getElem?_eq_getElem hi), List.getElem?_eq_getElem hi]
  · rw [List.getElem?_eq_none (by rw [chunks_len]; omega), List.getElem?_eq_none (by omega)]
theorem do_len (r : RogM) (v : Mv) : (r.do v).2.s.last.length = r.s.last.length := by
  unfold RogM.do
  repeat' split
  all_goals first
    | rfl
    | exact lays_len _ _ _
    | exact (lays_len _ _ _).trans (lays_len _ _ _)
    | (show (r.s.load _).2.last.length = _; unfold StM.load; split <;> simp [chunks_len])
theorem runM_imgs (r : RogM) (l : List Mv) : (runM l r).2.imgs = r.imgs ∧ (r.Good → (runM l r).2.s.last.length = r.s.last.length) := by
  have key : ∀ k, k ≤ l.length → (runM (l.take k) r).2.imgs = r.imgs ∧ (runM (l.take k) r).2.s.last.length = r.s.last.length := by
    intro k
    induction k with
    | zero => intro _; exact ⟨rfl, rfl⟩
    | succ k ih =>
      intro hk
      obtain ⟨h1, h2⟩ := ih (by omega)
      rw [runM_take (List.getElem?_eq_getElem (by omega : k < l.length))]
      simp only
      rw [do_imgs, h1, do_len, h2]
      exact ⟨rfl, rfl⟩
  have := key l.length (Nat.le_refl _)
  rw [List.take_length] at this
  exact ⟨this.1, fun _ => this.2⟩
/-- An image brought back. -/
theorem back_last {r : RogM} {k : Nat} {y : List (List UInt8)} (hk : r.imgs[k]? = some y) (hy : y.length = r.s.last.length ∧ ∀ x ∈ y, x.length = 128) (a b : Int) (c : List UInt8) :
    (r.do ⟨4, a, b, k, c⟩).1 = true ∧ (r.do ⟨4, a, b, k, c⟩).2.s.last = y := by
  have hlt := (List.getElem?_eq_some_iff.1 hk).1
  have hne : r.imgs ≠ [] := by rintro h; rw [h] at hlt; simp at hlt
  have hix : r.ix k = k := by unfold RogM.ix; rw [Int.emod_eq_of_lt (by omega) (by omega)]; simp
  have him : r.img k = y := by unfold RogM.img; rw [hix, List.getD_eq_getElem?_getD, hk]; rfl
  have e : r.do ⟨4, a, b, k, c⟩ = (true, r.put (r.s.load (r.img k).flatten).2) := by
    unfold RogM.do
    rw [if_neg (by simp), if_neg (by simp), if_neg (by simp), if_neg (by simp), if_pos rfl, if_pos hne]
  rw [e, him]
  refine ⟨rfl, ?_⟩
  show (r.s.load y.flatten).2.last = y
  unfold StM.load
  rw [if_pos (by rw [flat_len hy.2, hy.1, Nat.mul_comm])]
  show chunks r.s.last.length y.flatten = y
  rw [← hy.1]
  exact chunks_flat hy.2

end Go.Proofs.YtaafedpjifaghaaDoor
