/- A store as plain data: what the reference's Sync and Crash do, Lay, Load, Image, Reads. Plain laws, no program in sight. -/
import Derived.Test.YtbikjhmdpgoofabStoreM
namespace Go.Proofs.Ytbikjhmdpgoofab

def StM.lay (m : StM) (at' : Int) (b : List UInt8) : Bool × StM :=
  if m.inn at' = true ∧ b.length = 128 then (true, { m with last := m.last.set at'.toNat b, waits := m.waits.filter fun x => !decide (x.1 = at') }) else (false, m)
def chunks (n : Nat) (b : List UInt8) : List (List UInt8) := (List.range n).map fun i => (b.drop (128 * i)).take 128
def StM.load (m : StM) (b : List UInt8) : Bool × StM :=
  if b.length = 128 * m.last.length then (true, { m with last := chunks m.last.length b, waits := [] }) else (false, m)
def StM.image (m : StM) : List UInt8 := m.last.flatten
def StM.readsOut (m : StM) : List Int × StM := (m.reads, { m with reads := List.replicate m.last.length 0 })
/-- One wait laid. -/
def settleOne (lasts : Nat → Nat) (i : Nat) (w : Int × List UInt8) (l : List (List UInt8)) : List (List UInt8) := l.set w.1.toNat (w.2.take (lasts i) ++ (l.getD w.1.toNat []).drop (lasts i))
theorem settle_snoc (lasts : Nat → Nat) (w : Int × List UInt8) : ∀ (A : List (Int × List UInt8)) (i : Nat) (l : List (List UInt8)), settleFrom lasts i (A ++ [w]) l = settleOne lasts (i + A.length) w (settleFrom lasts i A l)
  | [], i, l => rfl
  | x :: A, i, l => by
    simp only [List.cons_append, settleFrom, List.length_cons]
    rw [settle_snoc lasts w A (i + 1)]
    congr 1
    omega
theorem settle_len (lasts : Nat → Nat) : ∀ (A : List (Int × List UInt8)) (i : Nat) (l : List (List UInt8)), (settleFrom lasts i A l).length = l.length
  | [], _, _ => rfl
  | x :: A, i, l => by simp [settleFrom, settle_len lasts A]
theorem settle_full {n : Nat} (lasts : Nat → Nat) : ∀ (A : List (Int × List UInt8)) (i : Nat) (l : List (List UInt8)), l.length = n → (∀ x ∈ l, x.length = 128) → (∀ x ∈ A, 0 ≤ x.1 ∧ x.1 < n ∧ x.2.length = 128) → ∀ x ∈ settleFrom lasts i A l, x.length = 128
  | [], _, _, _, h, _ => h
  | w :: A, i, l, hn, h, hA => by
    obtain ⟨h0, h1, h2⟩ := hA w (by simp)
    refine settle_full lasts A (i + 1) _ (by simp [hn]) (fun x hx => ?_) (fun x hx => hA x (by simp [hx]))
    rcases List.mem_or_eq_of_mem_set hx with hx | rfl
    · exact h x hx
    · have hg : (l.getD w.1.toNat []).length = 128 := by
        rw [List.getD_eq_getElem?_getD, List.getElem?_eq_getElem (by omega)]
        exact h _ (List.getElem_mem _)
      rw [List.length_append, List.length_take, List.length_drop, hg, h2]
      omega
theorem settle_whole {lasts : Nat → Nat} {i : Nat} {w : Int × List UInt8} {l : List (List UInt8)} (h : 128 ≤ lasts i) (hw : w.2.length = 128) (hl : ∀ x ∈ l, x.length = 128) : settleOne lasts i w l = l.set w.1.toNat w.2 := by
  unfold settleOne
  have hg : (l.getD w.1.toNat []).length ≤ 128 := by
    rw [List.getD_eq_getElem?_getD]
    cases hc : l[w.1.toNat]? with
    | none => simp
    | some x => simp [hl x (List.mem_of_getElem? hc)]
  rw [List.take_of_length_le (by omega), List.drop_of_length_le (by omega), List.append_nil]
theorem settle_none {lasts : Nat → Nat} {i : Nat} {w : Int × List UInt8} {l : List (List UInt8)} (h : lasts i = 0) : settleOne lasts i w l = l := by
  unfold settleOne
  rw [h, List.take_zero, List.drop_zero, List.nil_append, List.getD_eq_getElem?_getD]
  refine List.ext_getElem? fun j => ?_
  rw [List.getElem?_set]
  split
  · rename_i hj
    subst hj
    split
    · rename_i hlt
      rw [List.getElem?_eq_getElem hlt]
      simp
    · rename_i hlt
      rw [List.getElem?_eq_none (by omega)]
  · rfl
theorem chunks_len (n : Nat) (b : List UInt8) : (chunks n b).length = n := by simp [chunks]
theorem chunks_full {n : Nat} {b : List UInt8} (h : b.length = 128 * n) : ∀ x ∈ chunks n b, x.length = 128 := by
  intro x hx
  obtain ⟨i, hi, rfl⟩ := List.mem_map.1 hx
  have := List.mem_range.1 hi
  rw [List.length_take, List.length_drop]
  omega
theorem chunks_get {n i : Nat} (b : List UInt8) (h : i < n) : (chunks n b)[i]? = some ((b.drop (128 * i)).take 128) := by simp [chunks, h]

theorem StM.Good.lay {m : StM} (h : m.Good) (at' : Int) (b : List UInt8) : (m.lay at' b).2.Good := by
  unfold StM.lay
  split
  · rename_i hc
    refine ⟨by simpa using h.count, fun x hx => ?_, by simpa using h.reads, fun x hx => ?_, Nat.le_trans (List.length_filter_le _ _) h.room, h.calls⟩
    · rcases List.mem_or_eq_of_mem_set hx with hx | rfl
      · exact h.full x hx
      · exact hc.2
    · have := h.waits x (List.mem_filter.1 hx).1
      simpa using this
  · exact h
theorem StM.Good.load {m : StM} (h : m.Good) (b : List UInt8) : (m.load b).2.Good := by
  unfold StM.load
  split
  · rename_i hc
    exact ⟨by simpa [chunks_len] using h.count, chunks_full hc, by simpa [chunks_len] using h.reads, by simp, by simp, h.calls⟩
  · exact h
theorem StM.Good.readsOut {m : StM} (h : m.Good) : m.readsOut.2.Good := ⟨h.count, h.full, by simp [StM.readsOut], h.waits, h.room, h.calls⟩
theorem StM.image_len {m : StM} (h : m.Good) : m.image.length = m.last.length * 128 := flat_len h.full

end Go.Proofs.Ytbikjhmdpgoofab
