/- Words of a text, one space between two; the digits of a number; the letters of bytes. Plain laws, no program in sight. -/
import Derived.Lib.ItoaNum
import Derived.Lib.AtoiAll
import Derived.Lib.Split
import Derived.Lib.SplitLaws
import Derived.Lib.IndexLaws
import Derived.Lib.CountLaws
set_option linter.unusedVariables false
set_option linter.unusedSimpArgs false
namespace Go.Proofs.YtaafedpjifaghaaDoor
open Go

/-! Words. -/
def spl : List UInt8 → List (List UInt8)
  | [] => [[]]
  | c :: r => if c = 32 then [] :: spl r else match spl r with
    | [] => [[c]]
    | h :: t => (c :: h) :: t
def joinSp : List (List UInt8) → List UInt8
  | [] => []
  | [w] => w
  | w :: r => w ++ 32 :: joinSp r
theorem spl_ne (l : List UInt8) : spl l ≠ [] := by
  cases l with
  | nil => simp [spl]
  | cons c r =>
    unfold spl
    split
    · simp
    · split <;> simp
theorem spl_clean : ∀ (l : List UInt8), ∀ w ∈ spl l, (32 : UInt8) ∉ w
  | [], w, h => by
    obtain rfl : w = [] := by simpa [spl] using h
    simp
  | c :: r, w, h => by
    have ih := spl_clean r
    have hne := spl_ne r
    unfold spl at h
    split at h
    · rcases List.mem_cons.1 h with rfl | h
      · simp
      · exact ih w h
    · rename_i hc
      cases hs : spl r with
      | nil => exact absurd hs hne
      | cons a t =>
        rw [hs] at h ih
        simp only at h
        rcases List.mem_cons.1 h with rfl | h
        · have := ih a (by simp)
          simp only [List.mem_cons, not_or]
          exact ⟨fun e => hc e.symm, this⟩
        · exact ih w (by simp [h])
theorem spl_word : ∀ {w : List UInt8}, (32 : UInt8) ∉ w → spl w = [w]
  | [], _ => rfl
  | c :: r, h => by
    simp only [List.mem_cons, not_or] at h
    unfold spl
    rw [if_neg (fun e => h.1 e.symm), spl_word h.2]
theorem spl_cat : ∀ {w : List UInt8} (_ : (32 : UInt8) ∉ w) (r : List UInt8), spl (w ++ 32 :: r) = w :: spl r
  | [], _, r => by simp [spl]
  | c :: w, h, r => by
    simp only [List.mem_cons, not_or] at h
    rw [List.cons_append, spl, if_neg (fun e => h.1 e.symm), spl_cat h.2 r]
theorem spl_join : ∀ {l : List (List UInt8)} (_ : l ≠ []) (_ : ∀ w ∈ l, (32 : UInt8) ∉ w), spl (joinSp l) = l
  | [], h, _ => absurd rfl h
  | [w], _, h => spl_word (h w (by simp))
  | w :: x :: r, _, h => by
    show spl (w ++ 32 :: joinSp (x :: r)) = _
    rw [spl_cat (h w (by simp)), spl_join (by simp) (fun y hy => h y (by simp [hy]))]
theorem join_spl : ∀ (l : List UInt8), joinSp (spl l) = l
  | [] => rfl
  | c :: r => by
    have ih := join_spl r
    have hne := spl_ne r
    unfold spl
    split
    · rename_i hc
      subst hc
      cases hs : spl r with
      | nil => exact absurd hs hne
      | cons a t =>
        rw [hs] at ih
        show [] ++ 32 :: joinSp (a :: t) = _
        rw [ih]; rfl
    · cases hs : spl r with
      | nil => exact absurd hs hne
      | cons a t =>
        rw [hs] at ih
        simp only
        cases t with
        | nil => rw [← ih]; rfl
        | cons b t => rw [← ih]; rfl
theorem spl_len (l : List UInt8) : (spl l).length = l.count 32 + 1 := by
  induction l with
  | nil => rfl
  | cons c r ih =>
    have hne := spl_ne r
    unfold spl
    split
    · rename_i hc
      subst hc
      simp [ih]
    · rename_i hc
      cases hs : spl r with
      | nil => exact absurd hs hne
      | cons a t =>
        rw [hs] at ih
        simp only [List.length_cons] at ih ⊢
        rw [List.count_cons_of_ne hc]
        exact ih
theorem occ_one (l : List UInt8) (i : Nat) : Lib.occAt l [32] i = (l[i]? == some 32) := by
  unfold Lib.occAt
  cases hd : l.drop i with
  | nil =>
    have : l.length ≤ i := List.drop_eq_nil_iff.1 hd
    rw [List.getElem?_eq_none this]; rfl
  | cons a t =>
    have h : l[i]? = some a := by
      have := congrArg (·[0]?) hd
      simpa using this
    rw [h]
    simp [List.isPrefixOf]
    rw [Bool.eq_iff_iff]
    simp
    exact eq_comm
theorem index_none {l : List UInt8} (h : (32 : UInt8) ∉ l) : Lib.index l [32] = -1 :=
  Lib.index_past (i := l.length) (by simp) (fun j hj => by
    rw [occ_one]
    have hm : l[j]? ≠ some 32 := fun e => h (List.mem_of_getElem? e)
    simpa using hm) (by simp)
theorem index_cat {w : List UInt8} (h : (32 : UInt8) ∉ w) (r : List UInt8) : Lib.index (w ++ 32 :: r) [32] = w.length :=
  Lib.index_hit (fun j hj => by
    rw [occ_one, List.getElem?_append_left hj]
    have hm : w[j]? ≠ some 32 := fun e => h (List.mem_of_getElem? e)
    simpa using hm) (by simp) (by rw [occ_one, List.getElem?_append_right (Nat.le_refl _)]; simp)
theorem cut_or (l : List UInt8) : (32 : UInt8) ∉ l ∨ ∃ w r, (32 : UInt8) ∉ w ∧ l = w ++ 32 :: r := by
  induction l with
  | nil => exact .inl (by simp)
  | cons c l ih =>
    by_cases hc : c = 32
    · subst hc
      exact .inr ⟨[], l, by simp, rfl⟩
    · rcases ih with h | ⟨w, r, h, rfl⟩
      · exact .inl (by simp only [List.mem_cons, not_or]; exact ⟨fun e => hc e.symm, h⟩)
      · exact .inr ⟨c :: w, r, by simp only [List.mem_cons, not_or]; exact ⟨fun e => hc e.symm, h⟩, rfl⟩
theorem split_spl' : ∀ (k : Nat) (l : List UInt8), l.count 32 = k → Lib.splitK [32] 0 k l = spl l
  | 0, l, h => by
    have : (32 : UInt8) ∉ l := fun hm => by have := List.count_pos_iff.2 hm; omega
    rw [spl_word this]; rfl
  | k + 1, l, h => by
    rcases cut_or l with hn | ⟨w, r, hw, rfl⟩
    · have := List.count_eq_zero.2 hn
      omega
    · rw [List.count_append, List.count_cons_self, List.count_eq_zero.2 hw] at h
      unfold Lib.splitK
      rw [index_cat hw, if_neg (by simp), spl_cat hw, ← split_spl' k r (by omega)]
      simp
theorem split_spl (l : List UInt8) : Lib.split l [32] = spl l := split_spl' _ _ (Lib.count_one 32 l).symm

/-! Digits. -/
def mostI : Int := 9223372036854775807
theorem tdiv_most {d : Int} (h : d ≤ 9) : (mostI - d).tdiv 10 = (mostI - d) / 10 := Int.tdiv_eq_ediv_of_nonneg (by unfold mostI; omega)
def dig : List UInt8 → Int → Option Int
  | [], n => some n
  | c :: r, n => if (c.toNat : Int) - 48 < 0 ∨ 9 < (c.toNat : Int) - 48 ∨ (mostI - ((c.toNat : Int) - 48)).tdiv 10 < n then none else dig r (10 * n + ((c.toNat : Int) - 48))
theorem dig_append : ∀ (a b : List UInt8) (n : Int), dig (a ++ b) n = (dig a n).bind (dig b)
  | [], b, n => rfl
  | c :: a, b, n => by
    rw [List.cons_append]
    unfold dig
    split
    · rfl
    · exact dig_append a b _
theorem dig_ge : ∀ {l : List UInt8} {n m : Int}, 0 ≤ n → n ≤ mostI → dig l n = some m → n ≤ m ∧ m ≤ mostI
  | [], n, m, h0, h1, h => by
    obtain rfl : n = m := by simpa [dig] using h
    exact ⟨Int.le_refl _, h1⟩
  | c :: r, n, m, h0, h1, h => by
    unfold dig at h
    split at h
    · cases h
    · rename_i hc
      simp only [not_or, Int.not_lt] at hc
      rw [tdiv_most hc.2.1] at hc
      unfold mostI at *
      have := dig_ge (n := 10 * n + ((c.toNat : Int) - 48)) (by omega) (by unfold mostI; omega) h
      unfold mostI at this
      omega
theorem dig_one {c : UInt8} {n m : Int} (h0 : 0 ≤ n) (h1 : n ≤ mostI) (h : dig [c] n = some m) : ∃ d : Nat, d < 10 ∧ c = UInt8.ofNat (48 + d) ∧ m = 10 * n + d ∧ m ≤ mostI := by
  have hm := (dig_ge h0 h1 h).2
  unfold dig at h
  split at h
  · cases h
  · rename_i hc
    simp only [not_or, Int.not_lt] at hc
    simp only [dig, Option.some.injEq] at h
    refine ⟨c.toNat - 48, by omega, ?_, by omega, hm⟩
    rw [show 48 + (c.toNat - 48) = c.toNat by omega, UInt8.ofNat_toNat]
theorem dig_step {d : Nat} {n : Int} (hd : d < 10) (_h0 : 0 ≤ n) (hm : 10 * n + d ≤ mostI) : dig [UInt8.ofNat (48 + d)] n = some (10 * n + d) := by
  have e : (UInt8.ofNat (48 + d)).toNat = 48 + d := by simp; omega
  unfold dig
  rw [e, tdiv_most (by omega)]
  unfold mostI at *
  rw [if_neg (by simp only [not_or, Int.not_lt]; omega)]
  simp only [dig, Option.some.injEq]
  omega
theorem dec_ne (u : Nat) : Lib.decDigits u ≠ [] := by
  rw [Lib.decDigits]
  split <;> simp
theorem dig_dec : ∀ (u : Nat), (u : Int) ≤ mostI → dig (Lib.decDigits u) 0 = some (u : Int) := by
  intro u
  induction u using Nat.strongRecOn with
  | _ u ih =>
    intro hu
    rw [Lib.decDigits]
    split
    · rename_i h
      have := dig_step (n := 0) h (Int.le_refl _) (by simpa using hu)
      simpa using this
    · rename_i h
      unfold mostI at *
      rw [dig_append, ih (u / 10) (by omega) (by omega)]
      simp only [Option.bind_some]
      rw [dig_step (Nat.mod_lt _ (by omega)) (by omega) (by unfold mostI; omega)]
      congr 1
      omega
/-- The digits read as they were told. -/
theorem dig_back : ∀ (k : Nat) (l : List UInt8), l.length = k → l ≠ [] → (l = [48] ∨ l[0]? ≠ some 48) → ∀ {m : Int}, dig l 0 = some m → 0 ≤ m ∧ m ≤ mostI ∧ l = Lib.decDigits m.toNat := by
  intro k
  induction k with
  | zero => intro l h0 hne; exact absurd (List.length_eq_zero_iff.1 h0) hne
  | succ k ih =>
    intro l hl hne h48 m h
    obtain ⟨r, c, rfl⟩ : ∃ r c, l = r ++ [c] := ⟨l.dropLast, l.getLast hne, (List.dropLast_concat_getLast hne).symm⟩
    rw [dig_append] at h
    by_cases hr : r = []
    · subst hr
      simp only [dig, Option.bind_some] at h
      obtain ⟨d, hd, rfl, rfl, hm⟩ := dig_one (n := 0) (by omega) (by unfold mostI; omega) h
      refine ⟨by omega, hm, ?_⟩
      rw [show ((10 * 0 + (d : Int)).toNat) = d by omega, Lib.decDigits_one hd]; rfl
    · have hr0 : (r ++ [c])[0]? = r[0]? := by rw [List.getElem?_append_left (List.length_pos_iff.2 hr)]
      have hr48 : r[0]? ≠ some 48 := by
        rcases h48 with h48 | h48
        · have := congrArg List.length h48
          simp at this
          exact absurd this hr
        · rwa [hr0] at h48
      cases hd : dig r 0 with
      | none => rw [hd] at h; cases h
      | some p =>
        rw [hd] at h
        simp only [Option.bind_some] at h
        obtain ⟨p0, p1, hp⟩ := ih r (by simpa using hl) hr (.inr hr48) hd
        obtain ⟨d, hd10, rfl, rfl, hm⟩ := dig_one p0 p1 h
        refine ⟨by omega, hm, ?_⟩
        have hp1 : 1 ≤ p := by
          rcases Int.lt_or_le p 1 with hlt | hge
          · exfalso
            obtain rfl : p = 0 := by omega
            rw [hp] at hr48
            exact hr48 (by rw [show (0 : Int).toNat = 0 from rfl, Lib.decDigits_one (by omega)]; rfl)
          · exact hge
        rw [Lib.decDigits, dif_neg (by omega), show (10 * p + (d : Int)).toNat / 10 = p.toNat by omega, show (10 * p + (d : Int)).toNat % 10 = d by omega, ← hp]
/-- A number's text, as it is told; else some number, and false. -/
def minText : List UInt8 := [45, 57, 50, 50, 51, 51, 55, 50, 48, 51, 54, 56, 53, 52, 55, 55, 53, 56, 48, 56]
def unsM (sign : Int) (t : List UInt8) : Int × Bool := match dig t 0 with
  | none => (0, false)
  | some n => (sign * n, decide (t ≠ []) && (t == [48] || !(t[0]? == some 48)))
def num11 (s : List UInt8) : Int × Bool :=
  if s = minText then (-9223372036854775808, true)
  else if 1 < s.length ∧ s[0]? = some 45 then (if s.drop 1 = [48] then (0, false) else unsM (-1) (s.drop 1)) else unsM 1 s
theorem uns_true {sign : Int} {t : List UInt8} (h : (unsM sign t).2 = true) : ∃ n, 0 ≤ n ∧ n ≤ mostI ∧ t = Lib.decDigits n.toNat ∧ (unsM sign t).1 = sign * n := by
  unfold unsM at h ⊢
  cases hd : dig t 0 with
  | none => rw [hd] at h; simp at h
  | some n =>
    rw [hd] at h
    simp only [Bool.and_eq_true, decide_eq_true_eq, Bool.or_eq_true, beq_iff_eq, Bool.not_eq_true', beq_eq_false_iff_ne] at h
    obtain ⟨h1, h2, h3⟩ := dig_back _ t rfl h.1 h.2 hd
    exact ⟨n, h1, h2, h3, rfl⟩
theorem dec_head : ∀ (u : Nat), 1 ≤ u → (Lib.decDigits u)[0]? ≠ some 48 ∧ (Lib.decDigits u)[0]? ≠ some 45 := by
  intro u
  induction u using Nat.strongRecOn with
  | _ u ih =>
    intro hu
    by_cases h : u < 10
    · rw [Lib.decDigits_one h]
      have e : (UInt8.ofNat (48 + u)).toNat = 48 + u := by simp; omega
      simp only [List.getElem?_cons_zero, ne_eq, Option.some.injEq]
      exact ⟨fun c => by rw [c] at e; simp at e; omega, fun c => by rw [c] at e; simp at e; omega⟩
    · rw [Lib.decDigits, dif_neg h, List.getElem?_append_left (List.length_pos_iff.2 (dec_ne _))]
      exact ih _ (by omega) (by omega)
theorem dec_minus (u : Nat) : (Lib.decDigits u)[0]? ≠ some 45 := by
  by_cases h : u = 0
  · subst h
    rw [Lib.decDigits_one (by omega)]
    simp
  · exact (dec_head u (by omega)).2
theorem num_dec {n : Int} (h0 : 0 ≤ n) (h1 : n ≤ mostI) : num11 (Lib.decDigits n.toNat) = (n, true) := by
  have hm := dec_minus n.toNat
  have hd := dig_dec n.toNat (by omega)
  unfold num11
  rw [if_neg (fun e => hm (by rw [e]; rfl)), if_neg (fun e => hm e.2)]
  unfold unsM
  rw [hd]
  simp only [Int.one_mul, Prod.mk.injEq, Bool.and_eq_true, decide_eq_true_eq, Bool.or_eq_true, beq_iff_eq, Bool.not_eq_true', beq_eq_false_iff_ne]
  refine ⟨by omega, dec_ne _, ?_⟩
  by_cases h : n.toNat = 0
  · rw [h, Lib.decDigits_one (by omega)]; exact .inl rfl
  · exact .inr (dec_head _ (by omega)).1
/-- No number but the text that tells it. -/
theorem num_iff {s : List UInt8} {n : Int} (h0 : 0 ≤ n) : num11 s = (n, true) ↔ s = Lib.itoa n ∧ n ≤ mostI := by
  have hi : Lib.itoa n = Lib.decDigits n.toNat := by unfold Lib.itoa; rw [if_neg (by omega)]
  rw [hi]
  constructor
  · intro h
    unfold num11 at h
    split at h
    · simp at h; omega
    · split at h
      · rename_i hs
        split at h
        · simp at h
        · rename_i hz
          obtain ⟨m, m0, m1, m2, m3⟩ := uns_true (sign := -1) (t := s.drop 1) (by rw [h])
          rw [h] at m3
          simp only at m3
          obtain rfl : m = 0 := by omega
          exact absurd (by rw [m2, show (0 : Int).toNat = 0 from rfl, Lib.decDigits_one (by omega)]; rfl) hz
      · obtain ⟨m, m0, m1, m2, m3⟩ := uns_true (sign := 1) (t := s) (by rw [h])
        rw [h] at m3
        simp only at m3
        obtain rfl : n = m := by omega
        exact ⟨m2, m1⟩
  · rintro ⟨rfl, h1⟩
    exact num_dec h0 h1
theorem num_bounds (s : List UInt8) : -9223372036854775808 ≤ (num11 s).1 ∧ (num11 s).1 ≤ 9223372036854775807 := by
  have key : ∀ (sign : Int) (t : List UInt8), sign = 1 ∨ sign = -1 → -9223372036854775808 ≤ (unsM sign t).1 ∧ (unsM sign t).1 ≤ 9223372036854775807 := by
    intro sign t hs
    unfold unsM
    cases hd : dig t 0 with
    | none => simp
    | some n =>
      have := dig_ge (n := 0) (by omega) (by unfold mostI; omega) hd
      unfold mostI at this
      simp only
      rcases hs with rfl | rfl <;> omega
  unfold num11
  split
  · simp
  · split
    · split
      · simp
      · exact key _ _ (.inr rfl)
    · exact key _ _ (.inl rfl)
theorem atoi_dec {n : Int} (h0 : 0 ≤ n) (h1 : n ≤ mostI) : Lib.atoiAll (Lib.decDigits n.toNat) = .ok n := by
  have key : ∀ (u : Nat), (u : Int) ≤ mostI → ∀ r, Lib.parseUint10 0 (Lib.decDigits u ++ r) = Lib.parseUint10 u r := by
    intro u
    induction u using Nat.strongRecOn with
    | _ u ih =>
      intro hu r
      have one : ∀ (d a : Nat) (r : List UInt8), d < 10 → a * 10 + d < 9223372036854775808 → Lib.parseUint10 a (UInt8.ofNat (48 + d) :: r) = Lib.parseUint10 (a * 10 + d) r := by
        intro d a r hd ha
        have e : (UInt8.ofNat (48 + d)).toNat = 48 + d := by simp; omega
        rw [Lib.parseUint10, e, if_pos (by omega), if_neg (by omega), if_neg (by omega)]
        congr 1
        omega
      unfold mostI at hu
      by_cases h : u < 10
      · rw [Lib.decDigits_one h, List.singleton_append, one u 0 r h (by omega)]
        simp
      · rw [Lib.decDigits, dif_neg h, List.append_assoc, List.singleton_append, ih (u / 10) (by omega) (by unfold mostI; omega), one _ _ r (Nat.mod_lt _ (by omega)) (by omega)]
        congr 1
        omega
  have hp : Lib.parseMag (Lib.decDigits n.toNat) = .ok n.toNat := by
    unfold Lib.parseMag
    rw [if_neg (dec_ne _)]
    have := key n.toNat (by omega) []
    rw [List.append_nil] at this
    rw [this]; rfl
  cases hl : Lib.decDigits n.toNat with
  | nil => exact absurd hl (dec_ne _)
  | cons c r =>
    have hc : ∀ x : UInt8, (Lib.decDigits n.toNat)[0]? = some x → 48 ≤ x.toNat := by
      intro x hx
      have : ∀ (u : Nat), ∀ y ∈ Lib.decDigits u, 48 ≤ y.toNat := by
        intro u
        induction u using Nat.strongRecOn with
        | _ u ih =>
          intro y hy
          rw [Lib.decDigits] at hy
          split at hy
          · obtain rfl : y = UInt8.ofNat (48 + u) := by simpa using hy
            simp; omega
          · rcases List.mem_append.1 hy with hy | hy
            · exact ih _ (by omega) y hy
            · obtain rfl : y = UInt8.ofNat (48 + u % 10) := by simpa using hy
              simp; omega
      exact this _ x (List.mem_of_getElem? hx)
    have hc' := hc c (by rw [hl]; rfl)
    have e : Lib.parseMag (c :: r) = .ok n.toNat → Lib.atoiAll (c :: r) = if ¬ (c.toNat = 45) ∧ 9223372036854775808 ≤ n.toNat then .range else if c.toNat = 45 ∧ 9223372036854775808 < n.toNat then .range else .ok (if c.toNat = 45 then -(n.toNat : Int) else n.toNat) := by
      intro h
      unfold Lib.atoiAll
      simp only [show ¬ (c.toNat = 43 ∨ c.toNat = 45) by omega, if_false, h]
    rw [e (by rw [← hl]; exact hp)]
    unfold mostI at h1
    rw [if_neg (by omega), if_neg (by omega), if_neg (by omega)]
    congr 1
    omega

end Go.Proofs.YtaafedpjifaghaaDoor
