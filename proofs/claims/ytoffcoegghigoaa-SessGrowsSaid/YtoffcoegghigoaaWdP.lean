/- Windows: laws of their places, of settled lists, of taking one in. Plain laws. -/
import Derived.Test.YtoffcoegghigoaaWdC
namespace Go.Proofs.Ytoffcoegghigoaa
open Go.RowKit

theorem cb_zero : ∀ (a b : List UInt8), Lib.compareBytes a b = 0 ↔ a = b
  | [], [] => by simp [Lib.compareBytes]
  | [], _ :: _ => by simp [Lib.compareBytes]
  | _ :: _, [] => by simp [Lib.compareBytes]
  | x :: a, y :: b => by
    unfold Lib.compareBytes
    by_cases h1 : x < y
    · have : x ≠ y := fun e => by subst e; exact absurd h1 (UInt8.lt_irrefl x)
      simp [h1, this]
    · by_cases h2 : y < x
      · have : x ≠ y := fun e => by subst e; exact absurd h2 (UInt8.lt_irrefl x)
        simp [h1, h2, this]
      · have e : x = y := UInt8.le_antisymm (UInt8.not_lt.1 h2) (UInt8.not_lt.1 h1)
        simp [e, cb_zero a b]
theorem cb_swap : ∀ (a b : List UInt8), Lib.compareBytes b a = - Lib.compareBytes a b
  | [], [] => by simp [Lib.compareBytes]
  | [], _ :: _ => by simp [Lib.compareBytes]
  | _ :: _, [] => by simp [Lib.compareBytes]
  | x :: a, y :: b => by
    unfold Lib.compareBytes
    by_cases h1 : x < y
    · have h2 : ¬ y < x := UInt8.lt_asymm h1
      simp [h1, h2]
    · by_cases h2 : y < x
      · simp [h1, h2]
      · simp [h1, h2, cb_swap a b]
theorem cb_trans : ∀ (a b c : List UInt8), Lib.compareBytes a b ≤ 0 → Lib.compareBytes b c ≤ 0 → Lib.compareBytes a c ≤ 0
  | [], _, [] => by simp [Lib.compareBytes]
  | [], _, _ :: _ => by simp [Lib.compareBytes]
  | _ :: _, [], _ => by simp [Lib.compareBytes]
  | x :: a, y :: b, [] => by simp [Lib.compareBytes]
  | x :: a, y :: b, z :: c => by
    have ih := cb_trans a b c
    unfold Lib.compareBytes
    intro h1 h2
    by_cases hxy : x < y
    · by_cases hyz : y < z
      · simp [UInt8.lt_trans hxy hyz]
      · by_cases hzy : z < y
        · simp [hyz, hzy] at h2
        · have e : y = z := UInt8.le_antisymm (UInt8.not_lt.1 hzy) (UInt8.not_lt.1 hyz)
          subst e
          simp [hxy]
    · by_cases hyx : y < x
      · simp [hxy, hyx] at h1
      · have e : x = y := UInt8.le_antisymm (UInt8.not_lt.1 hyx) (UInt8.not_lt.1 hxy)
        subst e
        by_cases hyz : x < z
        · simp [hyz]
        · by_cases hzy : z < x
          · simp [hyz, hzy] at h2
          · simp only [hxy, if_false] at h1
            simp only [hyz, hzy, if_false] at h2 ⊢
            exact ih h1 h2
theorem less_cmp : ∀ (a b : List UInt8), Op.bytesLess a b = decide (Lib.compareBytes a b < 0)
  | [], [] => by simp [Op.bytesLess, Lib.compareBytes]
  | [], _ :: _ => by simp [Op.bytesLess, Lib.compareBytes]
  | _ :: _, [] => by simp [Op.bytesLess, Lib.compareBytes]
  | x :: a, y :: b => by
    have ih := less_cmp a b
    unfold Op.bytesLess Lib.compareBytes
    by_cases h1 : x < y
    · simp [h1]
    · by_cases h2 : y < x
      · have : x ≠ y := fun e => by subst e; exact absurd h2 (UInt8.lt_irrefl x)
        simp [h1, h2, this]
      · have e : x = y := UInt8.le_antisymm (UInt8.not_lt.1 h2) (UInt8.not_lt.1 h1)
        subst e
        simp [h1, ih]
theorem ci_zero {a b : Int} : Lib.compareInt a b = 0 ↔ a = b := by
  unfold Lib.compareInt
  split
  · simp; omega
  · split <;> simp <;> omega
theorem ci_neg {a b : Int} : Lib.compareInt a b < 0 ↔ a < b := by
  unfold Lib.compareInt
  split
  · simp; omega
  · split <;> simp <;> omega
theorem ci_swap {a b : Int} : Lib.compareInt b a = - Lib.compareInt a b := by
  unfold Lib.compareInt
  by_cases h1 : a < b
  · have h2 : ¬ b < a := by omega
    simp [h1, h2]
  · by_cases h2 : b < a
    · simp [h1, h2]
    · simp [h1, h2]

theorem place_neg {a b : Wd} : a.place b < 0 ↔ Lib.compareBytes a.key b.key < 0 ∨ (a.key = b.key ∧ (a.frm < b.frm ∨ (a.frm = b.frm ∧ a.to < b.to))) := by
  unfold Wd.place
  by_cases h1 : Lib.compareBytes a.key b.key = 0
  · have e := (cb_zero _ _).1 h1
    rw [if_neg (by simpa using h1)]
    by_cases h2 : Lib.compareInt a.frm b.frm = 0
    · have e2 := ci_zero.1 h2
      rw [if_neg (by simpa using h2), ci_neg]
      constructor
      · exact fun h => .inr ⟨e, .inr ⟨e2, h⟩⟩
      · rintro (h | ⟨_, h | h⟩)
        · omega
        · omega
        · exact h.2
    · have e2 := fun h => h2 (ci_zero.2 h)
      rw [if_pos h2, ci_neg]
      constructor
      · exact fun h => .inr ⟨e, .inl h⟩
      · rintro (h | ⟨_, h | h⟩)
        · omega
        · exact h
        · exact absurd h.1 e2
  · have e := fun h => h1 ((cb_zero _ _).2 h)
    rw [if_pos h1]
    constructor
    · exact fun h => .inl h
    · rintro (h | h)
      · exact h
      · exact absurd h.1 e
theorem place_zero {a b : Wd} : a.place b = 0 ↔ a = b := by
  constructor
  · intro h
    unfold Wd.place at h
    by_cases h1 : Lib.compareBytes a.key b.key = 0
    · rw [if_neg (by simpa using h1)] at h
      by_cases h2 : Lib.compareInt a.frm b.frm = 0
      · rw [if_neg (by simpa using h2)] at h
        cases a
        cases b
        simp only [Wd.mk.injEq]
        exact ⟨(cb_zero _ _).1 h1, ci_zero.1 h2, ci_zero.1 h⟩
      · rw [if_pos h2] at h
        exact absurd h h2
    · rw [if_pos h1] at h
      exact absurd h h1
  · rintro rfl
    unfold Wd.place
    rw [if_neg (by simp [(cb_zero a.key a.key).2 rfl]), if_neg (by simp [(ci_zero (a := a.frm)).2 rfl]), ci_zero]
theorem place_swap (a b : Wd) : b.place a = - a.place b := by
  unfold Wd.place
  rw [cb_swap a.key b.key, ci_swap (a := a.frm), ci_swap (a := a.to)]
  by_cases h1 : Lib.compareBytes a.key b.key = 0
  · by_cases h2 : Lib.compareInt a.frm b.frm = 0
    · simp [h1, h2]
    · simp [h1, h2]
  · simp [h1]
theorem place_trans {a b c : Wd} (h1 : a.place b < 0) (h2 : b.place c < 0) : a.place c < 0 := by
  rw [place_neg] at h1 h2 ⊢
  have s1 := cb_swap a.key c.key
  have t1 := cb_trans c.key a.key b.key
  have t2 := cb_trans b.key c.key a.key
  have t3 := cb_trans a.key b.key c.key
  have w1 := cb_swap a.key b.key
  have w2 := cb_swap b.key c.key
  rcases h1 with h1 | ⟨e1, h1⟩
  · rcases h2 with h2 | ⟨e2, h2⟩
    · refine .inl ?_
      by_cases hz : Lib.compareBytes a.key c.key = 0
      · have := t1 (by omega) (by omega)
        omega
      · have := t3 (by omega) (by omega)
        omega
    · rw [← e2]; exact .inl h1
  · rw [e1]
    rcases h2 with h2 | ⟨e2, h2⟩
    · exact .inl h2
    · exact .inr ⟨e2, by omega⟩

theorem right_iff {x : Wd} : x.right = true ↔ nameB x.key = true ∧ 0 ≤ x.frm ∧ x.frm ≤ 1099511627776 ∧ x.frm < x.to ∧ x.to ≤ 4398046511104 := by
  simp [Wd.right, and_assoc]
theorem joins_iff {a b : Wd} : a.joins b = true ↔ a.right = true ∧ b.right = true ∧ a.key = b.key ∧ a.frm ≤ b.to ∧ b.frm ≤ a.to := by
  simp [Wd.joins, and_assoc]
theorem joins_swap (a b : Wd) : a.joins b = b.joins a := by
  rw [Bool.eq_iff_iff, joins_iff, joins_iff]
  exact ⟨fun ⟨h1, h2, h3, h4, h5⟩ => ⟨h2, h1, h3.symm, h5, h4⟩, fun ⟨h1, h2, h3, h4, h5⟩ => ⟨h2, h1, h3.symm, h5, h4⟩⟩
/-- Of two neighbours that do not join and a third behind them: neither do the outer ones. -/
theorem apart_trans {a b c : Wd} (hb : b.right = true) (h1 : a.place b < 0 ∧ a.joins b = false) (h2 : b.place c < 0 ∧ b.joins c = false) : a.joins c = false := by
  rw [Bool.eq_false_iff]
  intro hj
  obtain ⟨ra, rc, ek, j1, j2⟩ := joins_iff.1 hj
  have p1 := place_neg.1 h1.1
  have p2 := place_neg.1 h2.1
  have s1 := cb_swap a.key b.key
  have s2 := cb_swap b.key c.key
  have ekb : a.key = b.key := by
    rcases p1 with p1 | p1
    · exfalso
      rw [ek] at p1
      rcases p2 with p2 | p2
      · have := cb_swap b.key c.key
        omega
      · rw [p2.1, (cb_zero c.key c.key).2 rfl] at p1
        omega
    · exact p1.1
  have e2 : b.key = c.key := ekb.symm.trans ek
  have z1 := (cb_zero a.key b.key).2 ekb
  have z2 := (cb_zero b.key c.key).2 e2
  have nj : ¬ (a.frm ≤ b.to ∧ b.frm ≤ a.to) := fun h => by
    have := joins_iff.2 ⟨ra, hb, ekb, h.1, h.2⟩
    rw [h1.2] at this
    cases this
  have rb := right_iff.1 hb
  have rc2 := right_iff.1 rc
  have q1 : a.frm ≤ b.frm := by
    rcases p1 with p | ⟨_, p⟩ <;> omega
  have q2 : b.frm ≤ c.frm := by
    rcases p2 with p | ⟨_, p⟩ <;> omega
  omega
def aheadW (a b : Wd) : Prop := a.place b < 0 ∧ a.joins b = false
theorem stl_iff {l : List Wd} : Stl l ↔ (∀ x ∈ l, x.right = true) ∧ ∀ (i k : Nat) a b, i < k → l[i]? = some a → l[k]? = some b → aheadW a b := by
  constructor
  · intro h
    have hr : ∀ x ∈ l, x.right = true := fun x hx => by
      obtain ⟨i, hi⟩ := List.getElem?_of_mem hx
      exact (h i x hi).1
    refine ⟨hr, fun i k => ?_⟩
    induction k with
    | zero => intro a b h; omega
    | succ k ih =>
      intro a b hik ha hb
      obtain ⟨c, hc⟩ : ∃ c, l[k]? = some c := ⟨_, List.getElem?_eq_getElem (by have := (List.getElem?_eq_some_iff.1 hb).1; omega)⟩
      have hcb := (h (k + 1) b hb).2 k c rfl hc
      by_cases e : i = k
      · subst e
        rw [ha] at hc
        obtain rfl := Option.some.inj hc
        exact hcb
      · have hac := ih a c (by omega) ha hc
        exact ⟨place_trans hac.1 hcb.1, apart_trans (hr c (List.mem_of_getElem? hc)) hac hcb⟩
  · rintro ⟨h1, h2⟩ k x hx
    exact ⟨h1 x (List.mem_of_getElem? hx), fun j y hj hy => h2 j k y x (by omega) hy hx⟩
theorem stl_pair {l : List Wd} : Stl l ↔ (∀ x ∈ l, x.right = true) ∧ l.Pairwise aheadW := by
  rw [stl_iff]
  constructor
  · rintro ⟨h1, h2⟩
    exact ⟨h1, List.pairwise_iff_getElem.2 fun i j hi hj hij => h2 i j _ _ hij (List.getElem?_eq_getElem hi) (List.getElem?_eq_getElem hj)⟩
  · rintro ⟨h1, h2⟩
    refine ⟨h1, fun i k a b hik ha hb => ?_⟩
    obtain ⟨hi, rfl⟩ := List.getElem?_eq_some_iff.1 ha
    obtain ⟨hk, rfl⟩ := List.getElem?_eq_some_iff.1 hb
    exact List.pairwise_iff_getElem.1 h2 i k hi hk hik

/-! Taking one in. -/
def grow (b o : Wd) : Wd := ⟨b.key, min b.frm o.frm, max b.to o.to⟩
structure TakeS where
  out : List Wd
  gave : List Int
  became : Wd
  n : Int
def takeStep (x : Wd) (s : TakeS) (o : Wd) : TakeS := if o.joins x = true then ⟨s.out, s.gave ++ [s.n], grow s.became o, s.n + 1⟩ else ⟨s.out ++ [o], s.gave, s.became, s.n + 1⟩
def takeF (l : List Wd) (x : Wd) : TakeS := l.foldl (takeStep x) ⟨[], [], x, 0⟩
theorem takeF_snoc (l : List Wd) (o x : Wd) : takeF (l ++ [o]) x = takeStep x (takeF l x) o := by simp [takeF]
def outOf (l : List Wd) (x : Wd) : List Wd := l.filter (fun o => !o.joins x)
def becOf (l : List Wd) (x : Wd) : Wd := (l.filter (fun o => o.joins x)).foldl grow x
theorem snoc_ind {α : Type} {p : List α → Prop} (h0 : p []) (hs : ∀ l x, p l → p (l ++ [x])) : ∀ l, p l := by
  intro l
  rw [← List.reverse_reverse l]
  induction l.reverse with
  | nil => exact h0
  | cons x r ih => rw [List.reverse_cons]; exact hs _ _ ih
theorem takeF_n (l : List Wd) (x : Wd) : (takeF l x).n = l.length := by
  refine snoc_ind (p := fun l => (takeF l x).n = l.length) rfl (fun l o ih => ?_) l
  rw [takeF_snoc, takeStep]
  split <;> simp [ih]
theorem takeF_out (l : List Wd) (x : Wd) : (takeF l x).out = outOf l x := by
  refine snoc_ind (p := fun l => (takeF l x).out = outOf l x) rfl (fun l o ih => ?_) l
  rw [takeF_snoc, takeStep, outOf, List.filter_append]
  split
  · rename_i h; simp [ih, h, outOf]
  · rename_i h; simp [ih, h, outOf]
theorem takeF_bec (l : List Wd) (x : Wd) : (takeF l x).became = becOf l x := by
  refine snoc_ind (p := fun l => (takeF l x).became = becOf l x) rfl (fun l o ih => ?_) l
  rw [takeF_snoc, takeStep, becOf, List.filter_append, List.foldl_append]
  split
  · rename_i h; simp [ih, h, becOf]
  · rename_i h; simp [ih, h, becOf]
theorem takeF_len (l : List Wd) (x : Wd) : (takeF l x).out.length + (takeF l x).gave.length = l.length := by
  refine snoc_ind (p := fun l => (takeF l x).out.length + (takeF l x).gave.length = l.length) rfl (fun l o ih => ?_) l
  rw [takeF_snoc, takeStep]
  split <;> simp <;> omega
theorem takeF_gave (l : List Wd) (x : Wd) : ∀ y ∈ (takeF l x).gave, 0 ≤ y ∧ y < l.length := by
  refine snoc_ind (p := fun l => ∀ y ∈ (takeF l x).gave, 0 ≤ y ∧ y < l.length) (by simp [takeF]) (fun l o ih => ?_) l
  rw [takeF_snoc, takeStep]
  intro y hy
  have hn := takeF_n l x
  rw [List.length_append, List.length_singleton]
  split at hy
  · simp only [List.mem_append, List.mem_singleton] at hy
    rcases hy with hy | hy
    · have := ih y hy; omega
    · omega
  · have := ih y hy; omega
/-- What it became: the same key, right, and it holds the window taken in. -/
theorem bec_law {x : Wd} (hx : x.right = true) : ∀ (l : List Wd), (becOf l x).right = true ∧ (becOf l x).key = x.key ∧ (becOf l x).frm ≤ x.frm ∧ x.to ≤ (becOf l x).to := by
  intro l
  have key : ∀ (m : List Wd), (∀ o ∈ m, o.joins x = true) → ∀ b : Wd, (b.right = true ∧ b.key = x.key ∧ b.frm ≤ x.frm ∧ x.to ≤ b.to) → ((m.foldl grow b).right = true ∧ (m.foldl grow b).key = x.key ∧ (m.foldl grow b).frm ≤ x.frm ∧ x.to ≤ (m.foldl grow b).to) := by
    intro m
    induction m with
    | nil => exact fun _ b h => h
    | cons o m ih =>
      intro hm b hb
      refine ih (fun o ho => hm o (by simp [ho])) (grow b o) ?_
      obtain ⟨ro, _, _, _, _⟩ := joins_iff.1 (hm o (by simp))
      have ro := right_iff.1 ro
      obtain ⟨rb, kb, fb, tb⟩ := hb
      have rb := right_iff.1 rb
      refine ⟨right_iff.2 ⟨rb.1, ?_⟩, kb, ?_, ?_⟩
      · simp only [grow]; omega
      · simp only [grow]; omega
      · simp only [grow]; omega
  exact key _ (fun o ho => by simpa using (List.mem_filter.1 ho).2) x ⟨hx, rfl, Int.le_refl _, Int.le_refl _⟩
def posW (l : List Wd) (b : Wd) : Nat := (l.takeWhile fun y => decide (y.place b < 0)).length
theorem posW_le (l : List Wd) (b : Wd) : posW l b ≤ l.length := (List.takeWhile_sublist _).length_le
theorem posW_lo {l : List Wd} {b : Wd} {j : Nat} {y : Wd} (hj : j < posW l b) (hy : l[j]? = some y) : y.place b < 0 := by
  have h1 : (l.takeWhile fun y => decide (y.place b < 0))[j]? = some y := by
    have e := List.takeWhile_append_dropWhile (p := fun y => decide (y.place b < 0)) (l := l)
    rw [← e, List.getElem?_append_left hj] at hy
    exact hy
  have := List.all_eq_true.1 (List.all_takeWhile (p := fun y => decide (y.place b < 0)) (l := l)) y (List.mem_of_getElem? h1)
  simpa using this
theorem posW_hi {l : List Wd} {b : Wd} (hl : l.Pairwise aheadW) {j : Nat} {y : Wd} (hj : posW l b ≤ j) (hy : l[j]? = some y) : 0 ≤ y.place b := by
  have e := List.takeWhile_append_dropWhile (p := fun y => decide (y.place b < 0)) (l := l)
  rw [← e, List.getElem?_append_right hj] at hy
  obtain ⟨z, d, hd⟩ : ∃ z d, l.dropWhile (fun y => decide (y.place b < 0)) = z :: d := by
    cases h : l.dropWhile (fun y => decide (y.place b < 0)) with
    | nil => rw [h] at hy; simp at hy
    | cons z d => exact ⟨z, d, rfl⟩
  have hz : ¬ z.place b < 0 := by
    have := List.head?_dropWhile_not (p := fun y => decide (y.place b < 0)) l
    rw [hd] at this
    simpa using this
  rw [hd] at hy
  have hp : (z :: d).Pairwise aheadW := by rw [← hd]; exact hl.sublist (List.dropWhile_sublist _)
  obtain ⟨i, hi⟩ : ∃ i, j - (l.takeWhile fun y => decide (y.place b < 0)).length = i := ⟨_, rfl⟩
  rw [hi] at hy
  cases i with
  | zero =>
    obtain rfl : z = y := by simpa using hy
    omega
  | succ i =>
    have hm : y ∈ d := List.mem_of_getElem? (by simpa using hy)
    have hzy := (List.pairwise_cons.1 hp).1 y hm
    refine Classical.byContradiction fun hc => hz (place_trans hzy.1 (by omega))
def insW (l : List Wd) (b : Wd) : List Wd := l.take (posW l b) ++ b :: l.drop (posW l b)
/-- What a settled list and a right window come to. -/
def tookW (l : List Wd) (x : Wd) : List Wd := insW (outOf l x) (becOf l x)
theorem out_pair {l : List Wd} (h : l.Pairwise aheadW) (x : Wd) : (outOf l x).Pairwise aheadW := h.sublist List.filter_sublist
theorem bec_apart {l : List Wd} {x : Wd} (hx : x.right = true) : ∀ o ∈ outOf l x, becOf l x ≠ o := by
  intro o ho e
  obtain ⟨h1, h2⟩ := List.mem_filter.1 ho
  obtain ⟨g1, g2, g3, g4⟩ := bec_law hx l
  have : o.joins x = true := by
    rw [← e]
    have rx := right_iff.1 hx
    have rb := right_iff.1 g1
    exact joins_iff.2 ⟨g1, hx, g2, by omega, by omega⟩
  rw [this] at h2
  cases h2
end Go.Proofs.Ytoffcoegghigoaa
