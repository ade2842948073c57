/- What is written is read again, and what is read whole is written so: bytes of numbers and texts. Plain laws, no program in sight. -/
import Derived.Test.YtbikjhmdpgoofabPenRd
import Derived.Test.YtbikjhmdpgoofabPenIn
import Derived.Test.YtbikjhmdpgoofabBits
namespace Go.Proofs.Ytbikjhmdpgoofab

theorem wordF_vint : ∀ (f i acc n : Nat) (r : List UInt8), f + i = 10 → (0 < i → 0 < n) → n * 128 ^ i < 18446744073709551616 → wordF f i acc (vintF f n ++ r) = (acc + n * 128 ^ i, r, 0)
  | 0, i, acc, n, r, h, h0, hn => by
    obtain rfl : i = 10 := by omega
    have := h0 (by omega)
    have e : (128 : Nat) ^ 10 = 1180591620717411303424 := by decide
    rw [e] at hn
    omega
  | f + 1, i, acc, n, r, h, h0, hn => by
    have h9 : i = 9 → n ≤ 1 := by
      rintro rfl
      have e : (128 : Nat) ^ 9 = 9223372036854775808 := by decide
      rw [e] at hn
      omega
    rw [vintF]
    by_cases hs : n < 128
    · rw [if_pos hs]
      have e1 : (UInt8.ofNat n).toNat = n := by rw [UInt8.toNat_ofNat', Nat.mod_eq_of_lt (by omega)]
      simp only [List.singleton_append]
      rw [wordF, e1, if_neg, if_pos hs, Nat.mod_eq_of_lt hs]
      rintro (⟨h1, h2⟩ | ⟨h1, h2⟩)
      · have := h0 h2; omega
      · have := h9 h1; omega
    · rw [if_neg hs]
      have e1 : (UInt8.ofNat (n % 128 + 128)).toNat = n % 128 + 128 := by rw [UInt8.toNat_ofNat', Nat.mod_eq_of_lt (by omega)]
      rw [List.cons_append, wordF, e1, if_neg, if_neg (by omega)]
      · have ep : 128 ^ (i + 1) = 128 ^ i * 128 := Nat.pow_succ ..
        have e2 : (n % 128 + 128) % 128 * 128 ^ i + n / 128 * 128 ^ (i + 1) = n * 128 ^ i := by
          rw [ep, show (n % 128 + 128) % 128 = n % 128 by omega, Nat.mul_comm (128 ^ i) 128, ← Nat.mul_assoc, ← Nat.add_mul]
          congr 1
          omega
        rw [wordF_vint f (i + 1) _ (n / 128) r (by omega) (fun _ => by omega) (by omega), Nat.add_assoc, e2]
      · rintro (⟨h1, h2⟩ | ⟨h1, h2⟩)
        · omega
        · have := h9 h1; omega
theorem rword_vint {n : Nat} (r : List UInt8) (hn : n < 18446744073709551616) : rword (vint n ++ r) = (n, r, 0) := by
  have := wordF_vint 10 0 0 n r rfl (fun h => absurd h (Nat.lt_irrefl _)) (by omega)
  simpa [rword, vint] using this
theorem zag_zig (n : Int) : zag (zig n) = n := by
  unfold zag zig
  split <;> split at * <;> omega
theorem zig_zag (v : Nat) : zig (zag v) = v := by
  unfold zag zig
  split <;> split <;> omega
theorem zig_lt {n : Int} (h : -9223372036854775808 ≤ n ∧ n ≤ 9223372036854775807) : zig n < 18446744073709551616 := by
  unfold zig
  split <;> omega
theorem rnum_vint {n : Nat} {most : Int} (r : List UInt8) (hn : n < 9223372036854775808) (hm : (n : Int) ≤ most) : rnum (vint n ++ r) 0 most = ((n : Int), r, 0) := by
  rw [rnum, if_neg (by omega), rword_vint r (by omega)]
  simp only
  rw [if_neg (by omega), if_neg (by omega)]
theorem rsig_vint {n : Int} (r : List UInt8) (h : -9223372036854775808 ≤ n ∧ n ≤ 9223372036854775807) : rsig (vint (zig n) ++ r) 0 = (n, r, 0) := by
  rw [rsig, if_neg (by omega), rword_vint r (zig_lt h)]
  simp only [zag_zig]
theorem rfix_app (B r : List UInt8) : rfix (B ++ r) 0 B.length = (B, r, 0) := by
  rw [rfix, if_neg (by omega), if_neg (by omega), if_neg (by simp only [List.length_append]; omega)]
  simp
theorem rtext_app {B : List UInt8} {most : Int} (r : List UInt8) (hB : B.length < 9223372036854775808) (hm : (B.length : Int) ≤ most) : rtext (vint B.length ++ (B ++ r)) 0 most = (B, r, 0) := by
  rw [rtext, if_neg (by omega), rnum_vint _ hB (by omega)]
  simp only
  rw [if_neg (by omega), rfix_app]

theorem wordF_back : ∀ (f i acc : Nat) (l : List UInt8) (v : Nat) (r : List UInt8), f + i = 10 → wordF f i acc l = (v, r, 0) → ∃ n, v = acc + n * 128 ^ i ∧ l = vintF f n ++ r ∧ (0 < i → 0 < n)
  | 0, i, acc, l, v, r, h, hw => by simp [wordF] at hw
  | f + 1, i, acc, [], v, r, h, hw => by simp [wordF] at hw
  | f + 1, i, acc, c :: t, v, r, h, hw => by
    rw [wordF] at hw
    have hc : c.toNat < 256 := c.toNat_lt
    have hoc : UInt8.ofNat c.toNat = c := UInt8.ofNat_toNat
    split at hw
    · simp at hw
    · rename_i h1
      split at hw
      · rename_i h2
        simp only [Prod.mk.injEq, and_true] at hw
        obtain ⟨rfl, rfl⟩ := hw
        refine ⟨c.toNat, by rw [Nat.mod_eq_of_lt h2], by rw [vintF_small h2, hoc]; rfl, fun hi => ?_⟩
        rcases Nat.eq_zero_or_pos c.toNat with h3 | h3
        · exact absurd (.inl ⟨h3, hi⟩) h1
        · exact h3
      · rename_i h2
        obtain ⟨n, e1, e2, e3⟩ := wordF_back f (i + 1) _ t v r (by omega) hw
        have hn := e3 (by omega)
        have ep : 128 ^ (i + 1) = 128 ^ i * 128 := Nat.pow_succ ..
        refine ⟨c.toNat % 128 + n * 128, ?_, ?_, fun _ => by omega⟩
        · rw [e1, ep, Nat.add_mul, Nat.add_assoc, Nat.mul_comm (128 ^ i) 128, Nat.mul_assoc]
        · rw [vintF, if_neg (by omega), e2, show (c.toNat % 128 + n * 128) % 128 + 128 = c.toNat by omega, show (c.toNat % 128 + n * 128) / 128 = n by omega, hoc]
          rfl
theorem rword_back {l r : List UInt8} {v : Nat} (h : rword l = (v, r, 0)) : l = vint v ++ r := by
  obtain ⟨n, e1, e2, _⟩ := wordF_back 10 0 0 l v r rfl h
  obtain rfl : v = n := by simpa using e1
  exact e2
theorem wordF_less : ∀ (f i acc : Nat) (c : UInt8) (l : List UInt8), (wordF f i acc (c :: l)).2.1.length ≤ l.length
  | 0, i, acc, c, l => by simp [wordF]
  | f + 1, i, acc, c, l => by
    rw [wordF]
    split
    · simp
    · split
      · simp
      · cases l with
        | nil => cases f <;> simp [wordF]
        | cons d l => have := wordF_less f (i + 1) (acc + c.toNat % 128 * 128 ^ i) d l; simp only [List.length_cons]; omega

/-- The bytes of an op, written as a number, signed, as a text and fixed. -/
def encOp (x : POp) : List UInt8 := vint (x.n % 9223372036854775808).toNat ++ (vint (zig x.n) ++ (vint x.B.length ++ (x.B ++ x.B)))
def encs : List POp → List UInt8
  | [] => []
  | x :: l => encOp x ++ encs l
theorem encs_app : ∀ l m : List POp, encs (l ++ m) = encs l ++ encs m
  | [], m => rfl
  | x :: l, m => by simp only [List.cons_append, encs, encs_app l m, List.append_assoc]
theorem encs_take {l : List POp} {i : Nat} {x : POp} (h : l[i]? = some x) : encs (l.take (i + 1)) = encs (l.take i) ++ encOp x := by
  rw [List.take_add_one, h, encs_app]
  simp [encs]
theorem encs_drop {l : List POp} {i : Nat} {x : POp} (h : l[i]? = some x) : encs (l.drop i) = encOp x ++ encs (l.drop (i + 1)) := by
  obtain ⟨hi, rfl⟩ := List.getElem?_eq_some_iff.1 h
  rw [List.drop_eq_getElem_cons hi, encs]
theorem encs_drop_len (l : List POp) (i : Nat) : (encs (l.drop i)).length ≤ (encs l).length := by
  have := encs_app (l.take i) (l.drop i)
  rw [List.take_append_drop] at this
  rw [this, List.length_append]
  omega
theorem encOp_len {x : POp} (h : x.B.length ≤ 300) : (encOp x).length ≤ 700 := by
  have h1 := (vint_len (x.n % 9223372036854775808).toNat).1
  have h2 := (vint_len (zig x.n)).1
  have h3 := (vint_len x.B.length).1
  simp only [encOp, List.length_append]
  omega
theorem and_max (n : Int) (h : -9223372036854775808 ≤ n ∧ n ≤ 9223372036854775807) : bits BinOp.and IntKind.i64 n 9223372036854775807 = n % 9223372036854775808 := by
  exact and_low n 63 (by omega)

theorem small_take {l : List POp} {i : Nat} {x : POp} (h : l[i]? = some x) (hs : ∀ y ∈ l.take i, y.B.length ≤ 300) (hx : x.B.length ≤ 300) : ∀ y ∈ l.take (i + 1), y.B.length ≤ 300 := by
  intro y hy
  rw [List.take_add_one, h] at hy
  rcases List.mem_append.1 hy with hy | hy
  · exact hs y hy
  · obtain rfl : y = x := by simpa using hy
    exact hx
theorem encs_take_len {l : List POp} {i : Nat} {x : POp} (h : l[i]? = some x) (hs : (encs (l.take i)).length ≤ i * 700) (hx : x.B.length ≤ 300) : (encs (l.take (i + 1))).length ≤ (i + 1) * 700 := by
  have := encOp_len hx
  rw [encs_take h, List.length_append]
  omega
/-- How much a reader has left, as its block tells. -/
def leftOf (s : Nat) (w : World) : Nat :=
  match w.cell? ⟨s, 0, none⟩ with
  | some (.slice _ n _) => n
  | _ => 0
theorem leftOf_at {S : Nat → Prop} {w0 w : World} {s : Nat} {r : List UInt8} {e : Int} {L : List SP} (H : St S w0 w (ReaderAt s r e :: L)) : leftOf s w = r.length := by
  obtain ⟨ao, cap, _, h⟩ := ReaderAt.open H
  have c : w.cell? ⟨s, 0, none⟩ = some (.slice ao r.length cap) := h.cell 0 0 rfl rfl
  unfold leftOf
  rw [c]

end Go.Proofs.Ytbikjhmdpgoofab
