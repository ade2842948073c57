/- StoreLasts as plain data: what was synced lasts, and a read tells what was written last. Plain laws, no program in sight. -/
import Derived.Test.YtbikjhmdpgoofaaStoreH
import Derived.ChangeKeysEq
namespace Go.Proofs.Ytbikjhmdpgoofaa
open Go.RowKit

def textV (l : List UInt8) : Value := .string ⟨l.toArray⟩
def texts (l : List (List UInt8)) : List Value := l.map textV

/-- An element of one cell of an array by value. -/
theorem run_index_one {P : Program} {w : World} {t e : TypeId} {n : Nat} {cs : Array Value} {q : Nat} {v : Value} (ht : P.underlying t = some (.array n e)) (he : P.plainKey e = true) (hs : (P.info? e).map (·.size) = some 1) (hq : q < n) (hv : cs[q]? = some v) :
    (Instr.index t (.agg cs) (.int .i64 q)).run P w = .ok v w := by
  have hin : 0 ≤ (q : Int) ∧ (q : Int) < (n : Int) := by omega
  obtain ⟨i, hi, h1⟩ := Option.map_eq_some_iff.1 hs
  have hc : P.cellsOf e = 1 := by unfold Program.cellsOf; rw [hs]; rfl
  unfold Instr.index
  simp only [asIntOf, run_underlying ht, hin, Sem.run_bind, Sem.run_pure, Result.andThen_ok, and_self, if_true, run_sizeOf w hi, hc, Nat.mul_one, Int.toNat_natCast]
  exact run_part_plain w he hv
theorem texts_at {l : List (List UInt8)} {n k : Nat} (hl : l.length = n) (hk : k < n) : (texts l).toArray[k]? = some (.string ⟨(l.getD k []).toArray⟩) := by
  simp [texts, textV, List.getD, List.getElem?_eq_getElem (show k < l.length by omega)]
theorem texts_set {l : List (List UInt8)} (k : Nat) (x : List UInt8) : (texts l).toArray.setIfInBounds k (.string ⟨x.toArray⟩) = (texts (l.set k x)).toArray := by
  simp [texts, textV, List.map_set]
theorem size_texts {l : List (List UInt8)} {n : Nat} (h : l.length = n) : (texts l).toArray.size = n := by simp [texts, h]
theorem len_texts {l : List (List UInt8)} {n : Nat} (h : l.length = n) : (texts l).length = n := by simp [texts, h]
theorem all_texts (l : List (List UInt8)) : allOne (texts l).toArray = true := Array.all_eq_true_iff_forall_mem.2 (fun v hv => by
  have hv : v ∈ texts l := by simpa using hv
  obtain ⟨x, _, rfl⟩ := List.mem_map.1 hv
  rfl)
theorem settle_far (lasts : Nat → Nat) (k : Nat) : ∀ (l : List (Int × List UInt8)) (i : Nat) (b : List (List UInt8)), (∀ x ∈ l, 0 ≤ x.1 ∧ x.1 ≠ (k : Int)) → (settleFrom lasts i l b)[k]? = b[k]?
  | [], _, _, _ => rfl
  | x :: l, i, b, h => by
    have hx := h x (by simp)
    rw [settleFrom, settle_far lasts k l (i + 1) _ (fun y hy => h y (by simp [hy])), List.getElem?_set_ne (by omega)]
theorem settle_near (k : Nat) : ∀ (l : List (Int × List UInt8)) (i : Nat) (b : List (List UInt8)), (∀ x ∈ l, 0 ≤ x.1 ∧ x.2.length = 128) → (∀ x ∈ b, x.length = 128) → k < b.length →
    (settleFrom (fun _ => 128) i l b).getD k [] = over k (b.getD k []) l
  | [], _, _, _, _, _ => rfl
  | x :: l, i, b, h, hb, hk => by
    obtain ⟨hx1, hx2⟩ := h x (by simp)
    have hd : (b.getD x.1.toNat []).length ≤ 128 := by
      rw [List.getD]
      cases hq : b[x.1.toNat]? with
      | none => simp
      | some y => simp [hb y (List.mem_of_getElem? hq)]
    have e : x.2.take 128 ++ (b.getD x.1.toNat []).drop 128 = x.2 := by
      rw [List.drop_of_length_le hd, List.append_nil, List.take_of_length_le (by omega)]
    rw [settleFrom, e, settle_near k l (i + 1) _ (fun y hy => h y (by simp [hy])) (fun y hy => ?_) (by simpa using hk)]
    · show _ = over k (if x.1 = (k : Int) then x.2 else b.getD k []) l
      congr 1
      by_cases hq : x.1 = (k : Int)
      · rw [if_pos hq]
        have : x.1.toNat = k := by omega
        simp [this, hk]
      · rw [if_neg hq]
        simp only [List.getD]
        rw [List.getElem?_set_ne (by omega)]
    · rcases List.mem_or_eq_of_mem_set hy with h1 | h1
      · exact hb y h1
      · rw [h1, hx2]

/-- What holds after some ops. -/
structure Lasts (m : StM) (want synced : List (List UInt8)) (i : Nat) : Prop where
  good : m.Good
  eight : m.last.length = 8
  calls : m.calls = -1
  few : m.waits.length ≤ i
  want8 : want.length = 8
  sync8 : synced.length = 8
  wants : ∀ k : Nat, k < 8 → want.getD k [] ≠ [] → m.look k = want.getD k []
  syncs : ∀ k : Nat, k < 8 → synced.getD k [] ≠ [] → (∀ x ∈ m.waits, x.1 ≠ (k : Int)) → m.last.getD k [] = synced.getD k []

def none8 : List (List UInt8) := List.replicate 8 []
theorem none8_at (k : Nat) : none8.getD k [] = [] := by
  unfold none8
  rw [List.getD, List.getElem?_replicate]
  split <;> rfl
theorem lasts_start : Lasts (newStore 8) none8 none8 0 :=
  ⟨newStore_good (by omega) (by omega), rfl, rfl, by simp [newStore], rfl, rfl, fun k _ h => absurd (none8_at k) h, fun k _ h => absurd (none8_at k) h⟩

theorem Lasts.write {m : StM} {want synced : List (List UInt8)} {i a : Nat} (h : Lasts m want synced i) (hi : i < 1000) (ha : a < 8) (b : List UInt8) :
    (b.length = 128 → (m.write a b).1 = 0 ∧ Lasts (m.write a b).2 (want.set a b) synced (i + 1)) ∧ (b.length ≠ 128 → m.write a b = (2, m)) := by
  have hlim : m.waits.length < 1000000 := by have := h.few; omega
  have hin : m.inn a = true := by simp [StM.inn, h.eight]; omega
  constructor
  · intro hb
    have e : m.write a b = (0, { m with calls := spendC m.calls, waits := m.waits ++ [((a : Int), b)] }) := by
      simp [StM.write, hin, hb, h.calls]
    have hg := write_good h.good hlim a b
    rw [e] at hg ⊢
    refine ⟨rfl, hg, h.eight, by simp [spendC, h.calls], by simp; have := h.few; omega, by simp [h.want8], h.sync8, fun k hk hw => ?_, fun k hk hs hn => ?_⟩
    · show over k _ (m.waits ++ [((a : Int), b)]) = _
      rw [over_snoc]
      by_cases hq : a = k
      · subst hq
        simp [h.want8, hk]
      · have e2 : (want.set a b).getD k [] = want.getD k [] := by simp only [List.getD]; rw [List.getElem?_set_ne hq]
        rw [e2] at hw ⊢
        rw [if_neg (by simp; omega)]
        exact h.wants k hk hw
    · exact h.syncs k hk hs (fun x hx => hn x (by simp [hx]))
  · intro hb
    simp [StM.write, hin, hb]
theorem Lasts.sync {m : StM} {want synced : List (List UInt8)} {i : Nat} (h : Lasts m want synced i) :
    m.sync.1 = 0 ∧ Lasts m.sync.2 want want (i + 1) := by
  have hg := sync_good h.good
  have e : m.sync = (0, (m.spend).settle fun _ => 128) := by simp [StM.sync, h.calls]
  rw [e] at hg ⊢
  have key : ∀ k : Nat, k < 8 → ((m.spend).settle fun _ => 128).last.getD k [] = m.look k := fun k hk =>
    settle_near k m.waits 0 m.last (fun x hx => ⟨(h.good.waits x hx).1, (h.good.waits x hx).2.2⟩) h.good.full (by rw [h.eight]; exact hk)
  refine ⟨rfl, hg, ?_, by simp [StM.settle, StM.spend, spendC, h.calls], by simp [StM.settle], h.want8, h.want8, fun k hk hw => ?_, fun k hk hs _ => ?_⟩
  · have := (settleFrom_good (fun _ => 128) 8 m.waits 0 m.last (fun x hx => by have := h.good.waits x hx; rw [h.eight] at this; exact this) h.eight h.good.full (fun _ => by omega)).1
    exact this
  · show over k _ [] = _
    rw [← h.wants k hk hw, ← key k hk]
    rfl
  · rw [key k hk]
    exact h.wants k hk hs
theorem Lasts.read {m : StM} {want synced : List (List UInt8)} {i : Nat} (h : Lasts m want synced i) {k : Nat} (hk : k < 8) :
    (m.read k).2.1 = 0 ∧ (m.read k).1 = m.look k ∧ Lasts (m.read k).2.2 want synced i ∧ (m.read k).2.2.waits = m.waits ∧ (m.read k).2.2.last = m.last := by
  have hin : m.inn k = true := by simp [StM.inn, h.eight]; omega
  have hg := read_good h.good k
  have e : m.read k = (m.look k, 0, { m with reads := m.reads.set ((k : Int)).toNat (wrap64 (m.reads.getD ((k : Int)).toNat 0 + 1)) }) := by simp [StM.read, hin, h.calls]
  rw [e] at hg ⊢
  exact ⟨rfl, rfl, ⟨hg, h.eight, h.calls, h.few, h.want8, h.sync8, h.wants, h.syncs⟩, rfl, rfl⟩
theorem Lasts.more {m : StM} {want synced : List (List UInt8)} {i j : Nat} (h : Lasts m want synced i) (hj : i ≤ j) : Lasts m want synced j :=
  ⟨h.good, h.eight, h.calls, Nat.le_trans h.few hj, h.want8, h.sync8, h.wants, h.syncs⟩

/-- Behind the crash. -/
structure Lasted (m : StM) (synced : List (List UInt8)) (away : List Bool) : Prop where
  good : m.Good
  eight : m.last.length = 8
  calls : m.calls = -1
  none : m.waits = []
  sync8 : synced.length = 8
  syncs : ∀ k : Nat, k < 8 → synced.getD k [] ≠ [] → away.getD k false = false → m.look k = synced.getD k []

theorem Lasts.crash {m : StM} {want synced : List (List UInt8)} {i : Nat} (h : Lasts m want synced i) {away : List Bool} (ha : ∀ x ∈ m.waits, away.getD x.1.toNat false = true) (keep : List Bool) (torn cut : Int) :
    Lasted (m.crash keep torn cut) synced away := by
  refine ⟨crash_good h.good _ _ _, ?_, rfl, rfl, h.sync8, fun k hk hs hw => ?_⟩
  · exact (settleFrom_good (crashLasts keep torn cut) 8 m.waits 0 m.last (fun x hx => by have := h.good.waits x hx; rw [h.eight] at this; exact this) h.eight h.good.full
      (lastOne_le keep torn (by unfold cutOf; split <;> omega))).1
  · have hfar : ∀ x ∈ m.waits, 0 ≤ x.1 ∧ x.1 ≠ (k : Int) := fun x hx => ⟨(h.good.waits x hx).1, fun hq => by
      have := ha x hx
      rw [hq] at this
      simp only [Int.toNat_natCast] at this
      rw [this] at hw
      cases hw⟩
    rw [← h.syncs k hk hs (fun x hx => (hfar x hx).2)]
    show over k ((settleFrom (crashLasts keep torn cut) 0 m.waits m.last).getD k []) [] = _
    simp only [List.getD]
    rw [settle_far _ k _ _ _ hfar]
    rfl
theorem Lasted.read {m : StM} {synced : List (List UInt8)} {away : List Bool} (h : Lasted m synced away) {k : Nat} (hk : k < 8) :
    (m.read k).2.1 = 0 ∧ (m.read k).1 = m.look k ∧ Lasted (m.read k).2.2 synced away := by
  have hin : m.inn k = true := by simp [StM.inn, h.eight]; omega
  have hg := read_good h.good k
  have e : m.read k = (m.look k, 0, { m with reads := m.reads.set ((k : Int)).toNat (wrap64 (m.reads.getD ((k : Int)).toNat 0 + 1)) }) := by simp [StM.read, hin, h.calls]
  rw [e] at hg ⊢
  exact ⟨rfl, rfl, hg, h.eight, h.calls, h.none, h.sync8, h.syncs⟩

def bools (l : List Bool) : List Value := l.map Value.bool
theorem bools_at {l : List Bool} {n k : Nat} (hl : l.length = n) (hk : k < n) : (bools l).toArray[k]? = some (.bool (l.getD k false)) := by
  simp [bools, List.getD, List.getElem?_eq_getElem (show k < l.length by omega)]
theorem bools_set {l : List Bool} (k : Nat) (x : Bool) : (bools l).toArray.setIfInBounds k (.bool x) = (bools (l.set k x)).toArray := by
  simp [bools, List.map_set]
/-- Bools that came in may be lent at any time. -/
theorem St.lendBools {w0 w : World} {l1 rest : List SP} {v : Value} {bs : List Bool} (H : St (fun _ => False) w0 w (l1 ++ rest)) (hv : BoolsRO (fun _ => False) w0 v bs) :
    ∃ S1, Sep w l1 S1 ∧ BoolsRO S1 w v bs ∧ ∀ w' l1', St S1 w w' l1' → St (fun _ => False) w0 w' (l1' ++ rest) := by
  obtain ⟨S1, h1, h2, _, h4⟩ := St.call2 H
  obtain ⟨ad, cap, e1, e2, e3⟩ := hv
  refine ⟨S1, h1, ⟨ad, cap, e1, e2, fun hl => ?_⟩, h4⟩
  obtain ⟨b, o, g1, g2, _, g4⟩ := e3 hl
  exact ⟨b, o, g1, Nat.lt_of_lt_of_le g2 H.size, fun hs => (h2 b hs).elim id (fun h => by omega), fun i hi => (World.cell?_of_block (w := w0) (H.kept.block b g2 id)).trans (g4 i hi)⟩
/-- Which blocks something waits for. -/
def awayOf (l : List Int) : List Bool := l.foldl (fun a x => a.set x.toNat true) (List.replicate 8 false)
theorem away_len (l : List Int) : (awayOf l).length = 8 := by
  have : ∀ (l : List Int) (a : List Bool), (l.foldl (fun a x => a.set x.toNat true) a).length = a.length := fun l => by
    induction l with
    | nil => intro a; rfl
    | cons x l ih => intro a; rw [List.foldl_cons, ih]; simp
  exact this l _
theorem away_snoc (l : List Int) (x : Int) : awayOf (l ++ [x]) = (awayOf l).set x.toNat true := by simp [awayOf]
theorem away_has {l : List Int} {x : Int} (hx : x ∈ l) (hr : ∀ y ∈ l, 0 ≤ y ∧ y < 8) : (awayOf l).getD x.toNat false = true := by
  have key : ∀ (l : List Int) (a : List Bool), a.length = 8 → (∀ y ∈ l, 0 ≤ y ∧ y < 8) → ∀ k : Nat, k < 8 → (a.getD k false = true ∨ (k : Int) ∈ l) → (l.foldl (fun a x => a.set x.toNat true) a).getD k false = true := fun l => by
    induction l with
    | nil => intro a _ _ k _ h; simpa using h
    | cons y l ih =>
      intro a ha hr k hk h
      rw [List.foldl_cons]
      refine ih _ (by simpa using ha) (fun z hz => hr z (by simp [hz])) k hk ?_
      by_cases hq : y.toNat = k
      · left; subst hq; simp [List.getD, ha, hk]
      · rcases h with h | h
        · left; simp only [List.getD]; rw [List.getElem?_set_ne hq]; exact h
        · right
          rcases List.mem_cons.1 h with h | h
          · exact absurd (by rw [← h]; rfl) hq
          · exact h
  have := hr x hx
  exact key l _ (by simp) hr x.toNat (by omega) (.inr (by rw [Int.toNat_of_nonneg this.1]; exact hx))
theorem length_whole (B : List UInt8) (h : B.length ≠ 1) : (wholeOf B).length = 128 := by unfold wholeOf; rw [if_neg h]; simp

end Go.Proofs.Ytbikjhmdpgoofaa
