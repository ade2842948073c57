/- Moves' texts: the words that tell a move, and that both readings of a text are one. Plain laws, no program in sight. -/
import Derived.Test.YtaafedpjifaghaaDoorGp8
import Derived.Test.YtaafedpjifaghaaDoorRtA
import Derived.Lib.AtoiAllCases
set_option linter.unusedVariables false
set_option linter.unusedSimpArgs false
namespace Go.Proofs.YtaafedpjifaghaaDoor
open Go

def partsM (k : Int) : List UInt8 := (wordsM.getD k.toNat ([], [])).2
def nameM (k : Int) : List UInt8 := (wordsM.getD k.toNat ([], [])).1
def Mv.okM (v : Mv) : Prop := 0 ≤ v.kind ∧ v.kind ≤ 7 ∧ v.b.length ≤ 128 ∧ ∀ c ∈ partsM v.kind, 0 ≤ v.part c
def Mv.wordsOf (v : Mv) : List (List UInt8) := nameM v.kind :: ((partsM v.kind).map (fun c => Lib.itoa (v.part c)) ++ if v.kind = 0 then [hexM v.b] else [])
def Mv.most (v : Mv) : Prop := v.at' ≤ mostI ∧ v.to ≤ mostI ∧ v.n ≤ mostI

theorem join_flat : ∀ (w : List UInt8) (l : List (List UInt8)), joinSp (w :: l) = w ++ l.flatMap (fun x => 32 :: x)
  | w, [] => by simp [joinSp]
  | w, x :: l => by
    show w ++ 32 :: joinSp (x :: l) = _
    rw [join_flat x l]
    simp
theorem nums_flat (v : Mv) : ∀ (ps s : List UInt8), numsM v ps s = if ∀ c ∈ ps, 0 ≤ v.part c then some (s ++ (ps.map fun c => Lib.itoa (v.part c)).flatMap (fun x => 32 :: x)) else none
  | [], s => by simp [numsM]
  | c :: ps, s => by
    unfold numsM
    by_cases h : v.part c < 0
    · rw [if_pos h, if_neg (fun hc => by have := hc c (by simp); omega)]
    · rw [if_neg h, nums_flat v ps]
      by_cases h2 : ∀ c ∈ ps, 0 ≤ v.part c
      · rw [if_pos h2, if_pos (by intro x hx; rcases List.mem_cons.1 hx with rfl | hx; omega; exact h2 x hx)]
        simp
      · rw [if_neg h2, if_neg (fun hc => h2 (fun x hx => hc x (by simp [hx])))]
theorem text_ok {v : Mv} (h : v.okM) : textM v = joinSp v.wordsOf := by
  unfold textM
  rw [if_neg (by have := h.1; have := h.2.1; have := h.2.2.1; omega), nums_flat, if_pos (show ∀ c ∈ (wordsM.getD v.kind.toNat ([], [])).2, 0 ≤ v.part c from h.2.2.2)]
  unfold Mv.wordsOf
  rw [join_flat]
  simp only [partsM, nameM]
  split
  · simp
  · simp
theorem text_no {v : Mv} (h : ¬ v.okM) : textM v = [] := by
  unfold textM
  by_cases h1 : v.kind < 0 ∨ 7 < v.kind ∨ 128 < v.b.length
  · rw [if_pos h1]
  · rw [if_neg h1, nums_flat, if_neg (show ¬ ∀ c ∈ (wordsM.getD v.kind.toNat ([], [])).2, 0 ≤ v.part c from fun hc => h ⟨by omega, by omega, by omega, hc⟩)]
theorem name_ne {k : Int} (h0 : 0 ≤ k) (h1 : k ≤ 7) : nameM k ≠ [] ∧ (32 : UInt8) ∉ nameM k := by
  rcases (show k = 0 ∨ k = 1 ∨ k = 2 ∨ k = 3 ∨ k = 4 ∨ k = 5 ∨ k = 6 ∨ k = 7 by omega) with rfl | rfl | rfl | rfl | rfl | rfl | rfl | rfl <;> exact ⟨by decide, by decide⟩
theorem text_ne {v : Mv} (h : v.okM) : textM v ≠ [] := by
  rw [text_ok h]
  unfold Mv.wordsOf
  rw [join_flat]
  intro hc
  exact (name_ne h.1 h.2.1).1 (List.append_eq_nil_iff.1 hc).1
theorem dec_clean (u : Nat) : (32 : UInt8) ∉ Lib.decDigits u := by
  induction u using Nat.strongRecOn with
  | _ u ih =>
    have key : ∀ d, d < 10 → (32 : UInt8) ≠ UInt8.ofNat (48 + d) := by
      intro d hd e
      have := congrArg UInt8.toNat e
      have e2 : (UInt8.ofNat (48 + d)).toNat = 48 + d := by simp; omega
      rw [e2] at this
      simp at this
      omega
    rw [Lib.decDigits]
    split
    · rename_i h
      simpa using key u h
    · rw [List.mem_append, not_or]
      exact ⟨ih _ (by omega), by simpa using key _ (Nat.mod_lt _ (by omega))⟩
theorem itoa_clean (n : Int) : (32 : UInt8) ∉ Lib.itoa n := by
  unfold Lib.itoa
  split
  · simp only [List.mem_cons, not_or]
    exact ⟨by decide, dec_clean _⟩
  · exact dec_clean _
theorem digit_fin : ∀ d : Fin 16, (32 : UInt8) ≠ digit16 d.val ∧ digit16 d.val ≠ 45 ∧ hexVal (digit16 d.val) = d.val := by decide +kernel
theorem hex_clean (b : List UInt8) : (32 : UInt8) ∉ hexM b := by
  unfold hexM
  split
  · decide
  · unfold hexOf
    rw [List.mem_flatMap]
    rintro ⟨c, _, h⟩
    have hc := c.toNat_lt
    simp only [List.mem_cons, List.not_mem_nil, or_false] at h
    rcases h with h | h
    · exact (digit_fin ⟨c.toNat / 16, by omega⟩).1 h
    · exact (digit_fin ⟨c.toNat % 16, by omega⟩).1 h
theorem words_clean {v : Mv} (h : v.okM) : ∀ w ∈ v.wordsOf, (32 : UInt8) ∉ w := by
  intro w hw
  unfold Mv.wordsOf at hw
  rcases List.mem_cons.1 hw with rfl | hw
  · exact (name_ne h.1 h.2.1).2
  · rcases List.mem_append.1 hw with hw | hw
    · obtain ⟨c, _, rfl⟩ := List.mem_map.1 hw
      exact itoa_clean _
    · split at hw
      · obtain rfl : w = hexM v.b := by simpa using hw
        exact hex_clean _
      · simp at hw
theorem words_spl {v : Mv} (h : v.okM) : spl (joinSp v.wordsOf) = v.wordsOf := spl_join (by unfold Mv.wordsOf; simp) (words_clean h)

/-- What is told of a move. -/
def Mv.norm (v : Mv) : Mv := ⟨v.kind, if (97 : UInt8) ∈ partsM v.kind then v.at' else 0, if (116 : UInt8) ∈ partsM v.kind then v.to else 0, if (110 : UInt8) ∈ partsM v.kind then v.n else 0, if v.kind = 0 then v.b else []⟩
theorem unhex_hex : ∀ (b : List UInt8) (k : Nat), b.length ≤ k → unhexM k (hexOf b) = b
  | [], 0, _ => rfl
  | [], k + 1, _ => rfl
  | c :: b, 0, h => by simp at h
  | c :: b, k + 1, h => by
    have hc := c.toNat_lt
    show unhexM (k + 1) (digit16 (c.toNat / 16) :: digit16 (c.toNat % 16) :: hexOf b) = _
    unfold unhexM
    rw [(digit_fin ⟨c.toNat / 16, by omega⟩).2.2, (digit_fin ⟨c.toNat % 16, by omega⟩).2.2, unhex_hex b k (by simpa using h)]
    simp only
    rw [show 16 * (c.toNat / 16) + c.toNat % 16 = c.toNat by omega, UInt8.ofNat_toNat]
theorem unhex_hexM {b : List UInt8} (h : b.length ≤ 128) : unhexM 128 (hexM b) = b := by
  unfold hexM
  split
  · rename_i h; subst h; rfl
  · exact unhex_hex b 128 h
theorem atoi_itoa {n : Int} (h0 : 0 ≤ n) (h1 : n ≤ mostI) : atoiM (Lib.itoa n) = n := by
  unfold atoiM
  have e : Lib.itoa n = Lib.decDigits n.toNat := by unfold Lib.itoa; rw [if_neg (by omega)]
  rw [e, atoi_dec h0 h1]
theorem eight {k : Int} (h0 : 0 ≤ k) (h1 : k ≤ 7) : k = 0 ∨ k = 1 ∨ k = 2 ∨ k = 3 ∨ k = 4 ∨ k = 5 ∨ k = 6 ∨ k = 7 := by omega
theorem pre_words {v : Mv} (h : v.okM) (hm : v.most) : kindM v.wordsOf = v.kind ∧ preM v.wordsOf = v.norm := by
  obtain ⟨k, a, t, n, b⟩ := v
  obtain ⟨m1, m2, m3⟩ := hm
  obtain ⟨h0, h1, hb, hp⟩ := h
  simp only at h0 h1 hb hp m1 m2 m3
  have ua := unhex_hexM hb
  rcases eight h0 h1 with rfl | rfl | rfl | rfl | rfl | rfl | rfl | rfl
  · have pa : 0 ≤ a := hp 97 (by decide)
    have ea := atoi_itoa pa m1
    have e : Mv.wordsOf ⟨0, a, t, n, b⟩ = [[108, 97, 121], Lib.itoa a, hexM b] := rfl
    have hk : kindM [[108, 97, 121], Lib.itoa a, hexM b] = 0 := rfl
    rw [e]
    refine ⟨hk, ?_⟩
    unfold preM
    simp only [hk]
    simp [wordsM, fillM, Mv.setPart, Mv.norm, partsM, ea, ua]
  · have pa : 0 ≤ a := hp 97 (by decide)
    have pt : 0 ≤ t := hp 116 (by decide)
    have ea := atoi_itoa pa m1
    have et := atoi_itoa pt m2
    have e : Mv.wordsOf ⟨1, a, t, n, b⟩ = [[115, 119, 97, 112], Lib.itoa a, Lib.itoa t] := rfl
    have hk : kindM [[115, 119, 97, 112], Lib.itoa a, Lib.itoa t] = 1 := rfl
    rw [e]
    refine ⟨hk, ?_⟩
    unfold preM
    simp only [hk]
    simp [wordsM, fillM, Mv.setPart, Mv.norm, partsM, ea, et]
  · have pa : 0 ≤ a := hp 97 (by decide)
    have pn : 0 ≤ n := hp 110 (by decide)
    have ea := atoi_itoa pa m1
    have en := atoi_itoa pn m3
    have e : Mv.wordsOf ⟨2, a, t, n, b⟩ = [[100, 114, 111, 112], Lib.itoa a, Lib.itoa n] := rfl
    have hk : kindM [[100, 114, 111, 112], Lib.itoa a, Lib.itoa n] = 2 := rfl
    rw [e]
    refine ⟨hk, ?_⟩
    unfold preM
    simp only [hk]
    simp [wordsM, fillM, Mv.setPart, Mv.norm, partsM, ea, en]
  · have pa : 0 ≤ a := hp 97 (by decide)
    have pn : 0 ≤ n := hp 110 (by decide)
    have ea := atoi_itoa pa m1
    have en := atoi_itoa pn m3
    have e : Mv.wordsOf ⟨3, a, t, n, b⟩ = [[111, 108, 100], Lib.itoa a, Lib.itoa n] := rfl
    have hk : kindM [[111, 108, 100], Lib.itoa a, Lib.itoa n] = 3 := rfl
    rw [e]
    refine ⟨hk, ?_⟩
    unfold preM
    simp only [hk]
    simp [wordsM, fillM, Mv.setPart, Mv.norm, partsM, ea, en]
  · have pn : 0 ≤ n := hp 110 (by decide)
    have en := atoi_itoa pn m3
    have e : Mv.wordsOf ⟨4, a, t, n, b⟩ = [[98, 97, 99, 107], Lib.itoa n] := rfl
    have hk : kindM [[98, 97, 99, 107], Lib.itoa n] = 4 := rfl
    rw [e]
    refine ⟨hk, ?_⟩
    unfold preM
    simp only [hk]
    simp [wordsM, fillM, Mv.setPart, Mv.norm, partsM, en]
  · have pa : 0 ≤ a := hp 97 (by decide)
    have pn : 0 ≤ n := hp 110 (by decide)
    have ea := atoi_itoa pa m1
    have en := atoi_itoa pn m3
    have e : Mv.wordsOf ⟨5, a, t, n, b⟩ = [[116, 117, 114, 110], Lib.itoa a, Lib.itoa n] := rfl
    have hk : kindM [[116, 117, 114, 110], Lib.itoa a, Lib.itoa n] = 5 := rfl
    rw [e]
    refine ⟨hk, ?_⟩
    unfold preM
    simp only [hk]
    simp [wordsM, fillM, Mv.setPart, Mv.norm, partsM, ea, en]
  · have pa : 0 ≤ a := hp 97 (by decide)
    have pt : 0 ≤ t := hp 116 (by decide)
    have ea := atoi_itoa pa m1
    have et := atoi_itoa pt m2
    have e : Mv.wordsOf ⟨6, a, t, n, b⟩ = [[99, 111, 112, 121], Lib.itoa a, Lib.itoa t] := rfl
    have hk : kindM [[99, 111, 112, 121], Lib.itoa a, Lib.itoa t] = 6 := rfl
    rw [e]
    refine ⟨hk, ?_⟩
    unfold preM
    simp only [hk]
    simp [wordsM, fillM, Mv.setPart, Mv.norm, partsM, ea, et]
  · have pa : 0 ≤ a := hp 97 (by decide)
    have pt : 0 ≤ t := hp 116 (by decide)
    have pn : 0 ≤ n := hp 110 (by decide)
    have ea := atoi_itoa pa m1
    have et := atoi_itoa pt m2
    have en := atoi_itoa pn m3
    have e : Mv.wordsOf ⟨7, a, t, n, b⟩ = [[115, 104, 105, 102, 116], Lib.itoa a, Lib.itoa t, Lib.itoa n] := rfl
    have hk : kindM [[115, 104, 105, 102, 116], Lib.itoa a, Lib.itoa t, Lib.itoa n] = 7 := rfl
    rw [e]
    refine ⟨hk, ?_⟩
    unfold preM
    simp only [hk]
    simp [wordsM, fillM, Mv.setPart, Mv.norm, partsM, ea, et, en]
theorem parts_are {k : Int} (h0 : 0 ≤ k) (h1 : k ≤ 7) : ∀ c ∈ partsM k, c = 97 ∨ c = 116 ∨ c = 110 := by
  rcases eight h0 h1 with rfl | rfl | rfl | rfl | rfl | rfl | rfl | rfl <;> decide
theorem norm_part {v : Mv} (h0 : 0 ≤ v.kind) (h1 : v.kind ≤ 7) {c : UInt8} (hc : c ∈ partsM v.kind) : v.norm.part c = v.part c := by
  unfold Mv.norm Mv.part
  rcases parts_are h0 h1 c hc with rfl | rfl | rfl
  · simp [hc]
  · simp [hc]
  · simp [hc]
theorem norm_words {v : Mv} (h : v.okM) : v.norm.wordsOf = v.wordsOf ∧ v.norm.okM := by
  obtain ⟨h0, h1, hb, hp⟩ := h
  have hbl : v.norm.b.length ≤ 128 := by
    show (if v.kind = 0 then v.b else []).length ≤ 128
    split
    · exact hb
    · simp
  refine ⟨?_, h0, h1, hbl, fun c hc => by rw [norm_part h0 h1 hc]; exact hp c hc⟩
  unfold Mv.wordsOf
  have e : (partsM v.norm.kind).map (fun c => Lib.itoa (v.norm.part c)) = (partsM v.kind).map (fun c => Lib.itoa (v.part c)) :=
    List.map_congr_left fun c hc => by rw [norm_part h0 h1 hc]
  rw [e]
  show nameM v.kind :: (_ ++ if v.kind = 0 then [hexM (if v.kind = 0 then v.b else [])] else []) = _
  split <;> rfl
theorem parse_words {v : Mv} (h : v.okM) (hm : v.most) : parseM (joinSp v.wordsOf) = some v.norm := by
  have e : Lib.split (joinSp v.wordsOf) [32] = v.wordsOf := by rw [split_spl, words_spl h]
  obtain ⟨h1, h2⟩ := pre_words h hm
  obtain ⟨h3, h4⟩ := norm_words h
  unfold parseM
  rw [e, h1, h2, if_neg (by have := h.1; omega), text_ok h4, h3, if_pos rfl]

/-! The reference's reading. -/
def num24 (s : List UInt8) : Option Int := if (num11 s).2 = true ∧ 0 ≤ (num11 s).1 then some (num11 s).1 else none
def hexD : Nat → UInt8 → Int
  | 0, _ => -1
  | k + 1, c => if digit16 k = c then k else hexD k c
def hexGo : List UInt8 → Bool → List UInt8 → Option (List UInt8)
  | [], _, out => some out
  | c :: r, true, out => if hexD 16 c < 0 then none else hexGo r false (out ++ [UInt8.ofNat (16 * (hexD 16 c).toNat)])
  | c :: r, false, out => if hexD 16 c < 0 then none else hexGo r true (out.dropLast ++ [out.getLast?.getD 0 + UInt8.ofNat (hexD 16 c).toNat])
def hexedM (s : List UInt8) : Option (List UInt8) := if s = [45] then some [] else if s.length = 0 ∨ s.length % 2 ≠ 0 ∨ 256 < s.length then none else hexGo s true []
def fill24 (w : List (List UInt8)) : List UInt8 → Nat → Mv → Option Mv
  | [], _, v => some v
  | c :: r, i, v => match num24 (w.getD (i + 1) []) with
    | none => none
    | some n => fill24 w r (i + 1) (v.setPart c n)
def end24 (w : List (List UInt8)) (k : Int) (v : Mv) : Option Mv := if k = 0 then (match hexedM (w.getD 2 []) with
    | none => none
    | some b => some { v with b := b }) else some v
def more24 (k : Int) : Nat := if k = 0 then 1 else 0
def body24 (w : List (List UInt8)) (k : Int) : Option Mv :=
  if w.length ≠ 1 + (partsM k).length + more24 k then none else match fill24 w (partsM k) 0 ⟨k, 0, 0, 0, []⟩ with
    | none => none
    | some v => end24 w k v
def parse24 (s : List UInt8) : Option Mv := if kindM (spl s) < 0 then none else body24 (spl s) (kindM (spl s))

theorem num24_some {s : List UInt8} {n : Int} : num24 s = some n ↔ s = Lib.itoa n ∧ 0 ≤ n ∧ n ≤ mostI := by
  unfold num24
  constructor
  · intro h
    split at h
    · rename_i hc
      obtain rfl : (num11 s).1 = n := by simpa using h
      have := (num_iff hc.2).1 (Prod.ext rfl hc.1 : num11 s = ((num11 s).1, true))
      exact ⟨this.1, hc.2, this.2⟩
    · cases h
  · rintro ⟨h1, h2, h3⟩
    have := (num_iff h2).2 ⟨h1, h3⟩
    rw [this, if_pos ⟨rfl, h2⟩]
theorem hexD_fin : ∀ c : Fin 256, hexD 16 (UInt8.ofNat c.val) < 0 ∨ (0 ≤ hexD 16 (UInt8.ofNat c.val) ∧ hexD 16 (UInt8.ofNat c.val) < 16 ∧ digit16 (hexD 16 (UInt8.ofNat c.val)).toNat = UInt8.ofNat c.val) := by decide +kernel
theorem hexD_is (c : UInt8) : hexD 16 c < 0 ∨ ∃ d : Nat, d < 16 ∧ hexD 16 c = d ∧ c = digit16 d := by
  have := hexD_fin ⟨c.toNat, c.toNat_lt⟩
  simp only [UInt8.ofNat_toNat] at this
  rcases this with h | ⟨h1, h2, h3⟩
  · exact .inl h
  · exact .inr ⟨(hexD 16 c).toNat, by omega, by omega, h3.symm⟩
theorem hexD_digit : ∀ d : Fin 16, hexD 16 (digit16 d.val) = (d.val : Int) := by decide +kernel
theorem hexD_lt (k : Nat) (c : UInt8) : -1 ≤ hexD k c ∧ hexD k c < (k : Int) := by
  induction k with
  | zero => simp [hexD]
  | succ k ih =>
    unfold hexD
    split <;> omega
theorem byte_two (d e : Nat) (hd : d < 16) (he : e < 16) : (UInt8.ofNat (16 * d) + UInt8.ofNat e) = UInt8.ofNat (16 * d + e) := by
  apply UInt8.toNat_inj.1
  rw [UInt8.toNat_add]
  have e1 : (UInt8.ofNat (16 * d)).toNat = 16 * d := by simp; omega
  have e2 : (UInt8.ofNat e).toNat = e := by simp; omega
  have e3 : (UInt8.ofNat (16 * d + e)).toNat = 16 * d + e := by simp; omega
  rw [e1, e2, e3]
  omega
theorem hexGo_of : ∀ (b out : List UInt8), hexGo (hexOf b) true out = some (out ++ b)
  | [], out => by simp [hexOf, hexGo]
  | c :: b, out => by
    have hc := c.toNat_lt
    show hexGo (digit16 (c.toNat / 16) :: digit16 (c.toNat % 16) :: hexOf b) true out = _
    have h1 := hexD_digit ⟨c.toNat / 16, by omega⟩
    have h2 := hexD_digit ⟨c.toNat % 16, by omega⟩
    simp only at h1 h2
    unfold hexGo
    rw [h1, if_neg (by omega)]
    unfold hexGo
    rw [h2, if_neg (by omega), List.dropLast_concat, List.getLast?_concat]
    simp only [Option.getD_some, Int.toNat_natCast]
    rw [byte_two _ _ (by omega) (by omega), show 16 * (c.toNat / 16) + c.toNat % 16 = c.toNat by omega, UInt8.ofNat_toNat, hexGo_of b]
    simp
theorem hexGo_back : ∀ (k : Nat) (s out r : List UInt8), s.length = 2 * k → hexGo s true out = some r → ∃ b, s = hexOf b ∧ r = out ++ b ∧ b.length = k
  | 0, s, out, r, hs, h => by
    obtain rfl := List.length_eq_zero_iff.1 hs
    exact ⟨[], rfl, by simpa [hexGo] using h.symm, rfl⟩
  | k + 1, s, out, r, hs, h => by
    match s, hs with
    | x :: y :: t, hs =>
      unfold hexGo at h
      rcases hexD_is x with hx | ⟨d, hd, hx, rfl⟩
      · rw [if_pos hx] at h; cases h
      rw [hx, if_neg (by omega)] at h
      unfold hexGo at h
      rcases hexD_is y with hy | ⟨e, he, hy, rfl⟩
      · rw [if_pos hy] at h; cases h
      rw [hy, if_neg (by omega), List.dropLast_concat, List.getLast?_concat] at h
      simp only [Option.getD_some, Int.toNat_natCast] at h
      rw [byte_two _ _ hd he] at h
      obtain ⟨b, rfl, rfl, hb⟩ := hexGo_back k t _ r (by simp at hs; omega) h
      have e1 : (UInt8.ofNat (16 * d + e)).toNat = 16 * d + e := by simp; omega
      refine ⟨UInt8.ofNat (16 * d + e) :: b, ?_, by simp, by simp [hb]⟩
      show _ = digit16 ((UInt8.ofNat (16 * d + e)).toNat / 16) :: digit16 ((UInt8.ofNat (16 * d + e)).toNat % 16) :: hexOf b
      rw [e1, show (16 * d + e) / 16 = d by omega, show (16 * d + e) % 16 = e by omega]
theorem hexOf_length (b : List UInt8) : (hexOf b).length = 2 * b.length := by
  induction b with
  | nil => rfl
  | cons c b ih =>
    show (digit16 (c.toNat / 16) :: digit16 (c.toNat % 16) :: hexOf b).length = _
    simp only [List.length_cons, ih]
    omega
theorem hexed_some {s b : List UInt8} : hexedM s = some b ↔ s = hexM b ∧ b.length ≤ 128 := by
  have hne : ∀ {b : List UInt8}, b ≠ [] → hexOf b ≠ [45] := by
    intro b hb e
    have := congrArg List.length e
    rw [hexOf_length] at this
    simp at this
    omega
  unfold hexedM hexM
  constructor
  · intro h
    split at h
    · rename_i hs
      obtain rfl : b = [] := by simpa using h.symm
      exact ⟨by simp [hs], by simp⟩
    · split at h
      · cases h
      · rename_i h1 h2
        simp only [not_or, Decidable.not_not] at h2
        obtain ⟨b', rfl, hb, hl⟩ := hexGo_back (s.length / 2) s [] b (by omega) h
        obtain rfl : b = b' := by simpa using hb
        rw [hexOf_length] at h2
        have : b ≠ [] := by rintro rfl; simp at h2
        rw [if_neg this]
        exact ⟨rfl, by omega⟩
  · rintro ⟨h1, h2⟩
    split at h1
    · rename_i hb
      subst hb h1
      rfl
    · rename_i hb
      subst h1
      have : 0 < b.length := List.length_pos_iff.2 hb
      rw [if_neg (hne hb), if_neg (by rw [hexOf_length]; omega), hexGo_of]
      simp
theorem num24_itoa {n : Int} (h0 : 0 ≤ n) (h1 : n ≤ mostI) : num24 (Lib.itoa n) = some n := num24_some.2 ⟨rfl, h0, h1⟩
theorem list_2 {l : List (List UInt8)} (h : l.length = 2) : ∃ a b, l = [a, b] := by
  match l, h with
  | [a, b], _ => exact ⟨a, b, rfl⟩
theorem list_3 {l : List (List UInt8)} (h : l.length = 3) : ∃ a b c, l = [a, b, c] := by
  match l, h with
  | [a, b, c], _ => exact ⟨a, b, c, rfl⟩
theorem list_4 {l : List (List UInt8)} (h : l.length = 4) : ∃ a b c d, l = [a, b, c, d] := by
  match l, h with
  | [a, b, c, d], _ => exact ⟨a, b, c, d, rfl⟩
theorem kind_name {W : List (List UInt8)} (h : ¬ kindM W < 0) : 0 ≤ kindM W ∧ kindM W ≤ 7 ∧ W.getD 0 [] = nameM (kindM W) := by
  unfold kindM at h ⊢
  cases e : wordsM.findIdx? (fun x => x.1 == W.getD 0 []) with
  | none => rw [e] at h; exact absurd (by decide) h
  | some k =>
    obtain ⟨hk, hp, _⟩ := List.findIdx?_eq_some_iff_getElem.1 e
    have h8 : wordsM.length = 8 := rfl
    simp only
    refine ⟨by omega, by omega, ?_⟩
    unfold nameM
    rw [Int.toNat_natCast, List.getD_eq_getElem?_getD (l := wordsM), List.getElem?_eq_getElem hk]
    exact (beq_iff_eq.1 hp).symm
theorem atoiM_most (l : List UInt8) : atoiM l ≤ mostI := by
  unfold atoiM mostI
  split
  · rename_i h; exact (Lib.atoiAll_bounds h).2
  · exact (Lib.atoiSat_bounds l).2
  · omega
theorem set_most {v : Mv} (h : v.most) (c : UInt8) {n : Int} (hn : n ≤ mostI) : (v.setPart c n).most := by
  unfold Mv.setPart
  obtain ⟨h1, h2, h3⟩ := h
  split
  · exact ⟨hn, h2, h3⟩
  · split
    · exact ⟨h1, hn, h3⟩
    · exact ⟨h1, h2, hn⟩
theorem fill_most (w : List (List UInt8)) : ∀ (ps : List UInt8) (i : Nat) (v : Mv), v.most → (fillM w ps i v).most
  | [], _, _, h => h
  | c :: ps, i, v, h => by
    unfold fillM
    refine fill_most w ps (i + 1) _ ?_
    split
    · exact set_most h c (atoiM_most _)
    · exact h
theorem pre_most (w : List (List UInt8)) : (preM w).most := by
  have h := fill_most w (wordsM.getD (kindM w).toNat ([], [])).2 0 ⟨kindM w, 0, 0, 0, []⟩ ⟨by unfold mostI; simp, by unfold mostI; simp, by unfold mostI; simp⟩
  unfold preM
  simp only
  split
  · exact ⟨h.1, h.2.1, h.2.2⟩
  · exact h
theorem parse24_words {v : Mv} (h : v.okM) (hm : v.most) : parse24 (joinSp v.wordsOf) = some v.norm := by
  obtain ⟨hk, _⟩ := pre_words h hm
  unfold parse24
  rw [words_spl h, hk, if_neg (by have := h.1; omega)]
  obtain ⟨k, a, t, n, b⟩ := v
  obtain ⟨m1, m2, m3⟩ := hm
  obtain ⟨h0, h1, hb, hp⟩ := h
  clear hk
  simp only at h0 h1 hb hp m1 m2 m3
  have ub : hexedM (hexM b) = some b := hexed_some.2 ⟨rfl, hb⟩
  rcases eight h0 h1 with rfl | rfl | rfl | rfl | rfl | rfl | rfl | rfl
  · have pa : num24 (Lib.itoa a) = some a := num24_itoa (hp 97 (by decide)) m1
    show body24 [[108, 97, 121], Lib.itoa a, hexM b] 0 = _
    simp [body24, partsM, wordsM, fill24, more24, end24, pa, Mv.setPart, Mv.norm, ub]
  · have pa : num24 (Lib.itoa a) = some a := num24_itoa (hp 97 (by decide)) m1
    have pt : num24 (Lib.itoa t) = some t := num24_itoa (hp 116 (by decide)) m2
    show body24 [[115, 119, 97, 112], Lib.itoa a, Lib.itoa t] 1 = _
    simp [body24, partsM, wordsM, fill24, more24, end24, pa, pt, Mv.setPart, Mv.norm]
  · have pa : num24 (Lib.itoa a) = some a := num24_itoa (hp 97 (by decide)) m1
    have pn : num24 (Lib.itoa n) = some n := num24_itoa (hp 110 (by decide)) m3
    show body24 [[100, 114, 111, 112], Lib.itoa a, Lib.itoa n] 2 = _
    simp [body24, partsM, wordsM, fill24, more24, end24, pa, pn, Mv.setPart, Mv.norm]
  · have pa : num24 (Lib.itoa a) = some a := num24_itoa (hp 97 (by decide)) m1
    have pn : num24 (Lib.itoa n) = some n := num24_itoa (hp 110 (by decide)) m3
    show body24 [[111, 108, 100], Lib.itoa a, Lib.itoa n] 3 = _
    simp [body24, partsM, wordsM, fill24, more24, end24, pa, pn, Mv.setPart, Mv.norm]
  · have pn : num24 (Lib.itoa n) = some n := num24_itoa (hp 110 (by decide)) m3
    show body24 [[98, 97, 99, 107], Lib.itoa n] 4 = _
    simp [body24, partsM, wordsM, fill24, more24, end24, pn, Mv.setPart, Mv.norm]
  · have pa : num24 (Lib.itoa a) = some a := num24_itoa (hp 97 (by decide)) m1
    have pn : num24 (Lib.itoa n) = some n := num24_itoa (hp 110 (by decide)) m3
    show body24 [[116, 117, 114, 110], Lib.itoa a, Lib.itoa n] 5 = _
    simp [body24, partsM, wordsM, fill24, more24, end24, pa, pn, Mv.setPart, Mv.norm]
  · have pa : num24 (Lib.itoa a) = some a := num24_itoa (hp 97 (by decide)) m1
    have pt : num24 (Lib.itoa t) = some t := num24_itoa (hp 116 (by decide)) m2
    show body24 [[99, 111, 112, 121], Lib.itoa a, Lib.itoa t] 6 = _
    simp [body24, partsM, wordsM, fill24, more24, end24, pa, pt, Mv.setPart, Mv.norm]
  · have pa : num24 (Lib.itoa a) = some a := num24_itoa (hp 97 (by decide)) m1
    have pt : num24 (Lib.itoa t) = some t := num24_itoa (hp 116 (by decide)) m2
    have pn : num24 (Lib.itoa n) = some n := num24_itoa (hp 110 (by decide)) m3
    show body24 [[115, 104, 105, 102, 116], Lib.itoa a, Lib.itoa t, Lib.itoa n] 7 = _
    simp [body24, partsM, wordsM, fill24, more24, end24, pa, pt, pn, Mv.setPart, Mv.norm]
/-- What the reference takes is told by its words. -/
theorem parse24_back {s : List UInt8} {v : Mv} (h : parse24 s = some v) : s = joinSp v.wordsOf ∧ v.okM ∧ v.most ∧ v.norm = v := by
  unfold parse24 at h
  split at h
  · cases h
  rename_i h0
  have hs := join_spl s
  obtain ⟨W, hW⟩ : ∃ W, spl s = W := ⟨_, rfl⟩
  rw [hW] at h h0 hs
  rw [← hs]
  clear hs hW
  obtain ⟨k0, k1, hn⟩ := kind_name h0
  obtain ⟨k, hk⟩ : ∃ k, kindM W = k := ⟨_, rfl⟩
  rw [hk] at h h0 k0 k1 hn
  unfold body24 at h
  split at h
  · cases h
  rename_i hlen
  simp only [ne_eq, Decidable.not_not] at hlen
  clear hk h0
  rcases eight k0 k1 with rfl | rfl | rfl | rfl | rfl | rfl | rfl | rfl
  · obtain ⟨x0, x1, x2, rfl⟩ := list_3 (l := W) hlen
    obtain rfl : x0 = [108, 97, 121] := hn
    simp only [partsM, wordsM, fill24, end24, List.getD_cons_zero, List.getD_cons_succ, Nat.reduceAdd, Int.toNat_zero] at h
    cases e0 : num24 x1 with
    | none => rw [e0] at h; cases h
    | some n0 =>
    rw [e0] at h
    simp only at h
    obtain ⟨rfl, g0, l0⟩ := num24_some.1 e0
    cases eb : hexedM x2 with
    | none => rw [eb] at h; cases h
    | some b =>
    rw [eb] at h
    simp only at h
    obtain ⟨rfl, lb⟩ := hexed_some.1 eb
    obtain rfl := Option.some.inj h
    refine ⟨rfl, ⟨(by decide : (0 : Int) ≤ 0), (by decide : (0 : Int) ≤ 7), lb, ?_⟩, ⟨?_, ?_, ?_⟩, rfl⟩
    · intro c hc; simp [partsM, wordsM, Mv.setPart] at hc; rcases hc with rfl <;> assumption
    all_goals first | assumption | (show (0 : Int) ≤ _; decide)
  · obtain ⟨x0, x1, x2, rfl⟩ := list_3 (l := W) hlen
    obtain rfl : x0 = [115, 119, 97, 112] := hn
    simp only [partsM, wordsM, fill24, end24, List.getD_cons_zero, List.getD_cons_succ, Int.reduceToNat, Nat.reduceAdd] at h
    cases e0 : num24 x1 with
    | none => rw [e0] at h; cases h
    | some n0 =>
    rw [e0] at h
    simp only at h
    obtain ⟨rfl, g0, l0⟩ := num24_some.1 e0
    cases e1 : num24 x2 with
    | none => rw [e1] at h; cases h
    | some n1 =>
    rw [e1] at h
    simp only at h
    obtain ⟨rfl, g1, l1⟩ := num24_some.1 e1
    simp only [show ¬ ((1 : Int) = 0) by decide, if_false] at h
    obtain rfl := Option.some.inj h
    refine ⟨rfl, ⟨(by decide : (0 : Int) ≤ 1), (by decide : (1 : Int) ≤ 7), by simp [Mv.setPart], ?_⟩, ⟨?_, ?_, ?_⟩, rfl⟩
    · intro c hc; simp [partsM, wordsM, Mv.setPart] at hc; rcases hc with rfl | rfl <;> assumption
    all_goals first | assumption | (show (0 : Int) ≤ _; decide)
  · obtain ⟨x0, x1, x2, rfl⟩ := list_3 (l := W) hlen
    obtain rfl : x0 = [100, 114, 111, 112] := hn
    simp only [partsM, wordsM, fill24, end24, List.getD_cons_zero, List.getD_cons_succ, Int.reduceToNat, Nat.reduceAdd] at h
    cases e0 : num24 x1 with
    | none => rw [e0] at h; cases h
    | some n0 =>
    rw [e0] at h
    simp only at h
    obtain ⟨rfl, g0, l0⟩ := num24_some.1 e0
    cases e1 : num24 x2 with
    | none => rw [e1] at h; cases h
    | some n1 =>
    rw [e1] at h
    simp only at h
    obtain ⟨rfl, g1, l1⟩ := num24_some.1 e1
    simp only [show ¬ ((2 : Int) = 0) by decide, if_false] at h
    obtain rfl := Option.some.inj h
    refine ⟨rfl, ⟨(by decide : (0 : Int) ≤ 2), (by decide : (2 : Int) ≤ 7), by simp [Mv.setPart], ?_⟩, ⟨?_, ?_, ?_⟩, rfl⟩
    · intro c hc; simp [partsM, wordsM, Mv.setPart] at hc; rcases hc with rfl | rfl <;> assumption
    all_goals first | assumption | (show (0 : Int) ≤ _; decide)
  · obtain ⟨x0, x1, x2, rfl⟩ := list_3 (l := W) hlen
    obtain rfl : x0 = [111, 108, 100] := hn
    simp only [partsM, wordsM, fill24, end24, List.getD_cons_zero, List.getD_cons_succ, Int.reduceToNat, Nat.reduceAdd] at h
    cases e0 : num24 x1 with
    | none => rw [e0] at h; cases h
    | some n0 =>
    rw [e0] at h
    simp only at h
    obtain ⟨rfl, g0, l0⟩ := num24_some.1 e0
    cases e1 : num24 x2 with
    | none => rw [e1] at h; cases h
    | some n1 =>
    rw [e1] at h
    simp only at h
    obtain ⟨rfl, g1, l1⟩ := num24_some.1 e1
    simp only [show ¬ ((3 : Int) = 0) by decide, if_false] at h
    obtain rfl := Option.some.inj h
    refine ⟨rfl, ⟨(by decide : (0 : Int) ≤ 3), (by decide : (3 : Int) ≤ 7), by simp [Mv.setPart], ?_⟩, ⟨?_, ?_, ?_⟩, rfl⟩
    · intro c hc; simp [partsM, wordsM, Mv.setPart] at hc; rcases hc with rfl | rfl <;> assumption
    all_goals first | assumption | (show (0 : Int) ≤ _; decide)
  · obtain ⟨x0, x1, rfl⟩ := list_2 (l := W) hlen
    obtain rfl : x0 = [98, 97, 99, 107] := hn
    simp only [partsM, wordsM, fill24, end24, List.getD_cons_zero, List.getD_cons_succ, Int.reduceToNat, Nat.reduceAdd] at h
    cases e0 : num24 x1 with
    | none => rw [e0] at h; cases h
    | some n0 =>
    rw [e0] at h
    simp only at h
    obtain ⟨rfl, g0, l0⟩ := num24_some.1 e0
    simp only [show ¬ ((4 : Int) = 0) by decide, if_false] at h
    obtain rfl := Option.some.inj h
    refine ⟨rfl, ⟨(by decide : (0 : Int) ≤ 4), (by decide : (4 : Int) ≤ 7), by simp [Mv.setPart], ?_⟩, ⟨?_, ?_, ?_⟩, rfl⟩
    · intro c hc; simp [partsM, wordsM, Mv.setPart] at hc; rcases hc with rfl <;> assumption
    all_goals first | assumption | (show (0 : Int) ≤ _; decide)
  · obtain ⟨x0, x1, x2, rfl⟩ := list_3 (l := W) hlen
    obtain rfl : x0 = [116, 117, 114, 110] := hn
    simp only [partsM, wordsM, fill24, end24, List.getD_cons_zero, List.getD_cons_succ, Int.reduceToNat, Nat.reduceAdd] at h
    cases e0 : num24 x1 with
    | none => rw [e0] at h; cases h
    | some n0 =>
    rw [e0] at h
    simp only at h
    obtain ⟨rfl, g0, l0⟩ := num24_some.1 e0
    cases e1 : num24 x2 with
    | none => rw [e1] at h; cases h
    | some n1 =>
    rw [e1] at h
    simp only at h
    obtain ⟨rfl, g1, l1⟩ := num24_some.1 e1
    simp only [show ¬ ((5 : Int) = 0) by decide, if_false] at h
    obtain rfl := Option.some.inj h
    refine ⟨rfl, ⟨(by decide : (0 : Int) ≤ 5), (by decide : (5 : Int) ≤ 7), by simp [Mv.setPart], ?_⟩, ⟨?_, ?_, ?_⟩, rfl⟩
    · intro c hc; simp [partsM, wordsM, Mv.setPart] at hc; rcases hc with rfl | rfl <;> assumption
    all_goals first | assumption | (show (0 : Int) ≤ _; decide)
  · obtain ⟨x0, x1, x2, rfl⟩ := list_3 (l := W) hlen
    obtain rfl : x0 = [99, 111, 112, 121] := hn
    simp only [partsM, wordsM, fill24, end24, List.getD_cons_zero, List.getD_cons_succ, Int.reduceToNat, Nat.reduceAdd] at h
    cases e0 : num24 x1 with
    | none => rw [e0] at h; cases h
    | some n0 =>
    rw [e0] at h
    simp only at h
    obtain ⟨rfl, g0, l0⟩ := num24_some.1 e0
    cases e1 : num24 x2 with
    | none => rw [e1] at h; cases h
    | some n1 =>
    rw [e1] at h
    simp only at h
    obtain ⟨rfl, g1, l1⟩ := num24_some.1 e1
    simp only [show ¬ ((6 : Int) = 0) by decide, if_false] at h
    obtain rfl := Option.some.inj h
    refine ⟨rfl, ⟨(by decide : (0 : Int) ≤ 6), (by decide : (6 : Int) ≤ 7), by simp [Mv.setPart], ?_⟩, ⟨?_, ?_, ?_⟩, rfl⟩
    · intro c hc; simp [partsM, wordsM, Mv.setPart] at hc; rcases hc with rfl | rfl <;> assumption
    all_goals first | assumption | (show (0 : Int) ≤ _; decide)
  · obtain ⟨x0, x1, x2, x3, rfl⟩ := list_4 (l := W) hlen
    obtain rfl : x0 = [115, 104, 105, 102, 116] := hn
    simp only [partsM, wordsM, fill24, end24, List.getD_cons_zero, List.getD_cons_succ, Int.reduceToNat, Nat.reduceAdd] at h
    cases e0 : num24 x1 with
    | none => rw [e0] at h; cases h
    | some n0 =>
    rw [e0] at h
    simp only at h
    obtain ⟨rfl, g0, l0⟩ := num24_some.1 e0
    cases e1 : num24 x2 with
    | none => rw [e1] at h; cases h
    | some n1 =>
    rw [e1] at h
    simp only at h
    obtain ⟨rfl, g1, l1⟩ := num24_some.1 e1
    cases e2 : num24 x3 with
    | none => rw [e2] at h; cases h
    | some n2 =>
    rw [e2] at h
    simp only at h
    obtain ⟨rfl, g2, l2⟩ := num24_some.1 e2
    simp only [show ¬ ((7 : Int) = 0) by decide, if_false] at h
    obtain rfl := Option.some.inj h
    refine ⟨rfl, ⟨(by decide : (0 : Int) ≤ 7), (by decide : (7 : Int) ≤ 7), by simp [Mv.setPart], ?_⟩, ⟨?_, ?_, ?_⟩, rfl⟩
    · intro c hc; simp [partsM, wordsM, Mv.setPart] at hc; rcases hc with rfl | rfl | rfl <;> assumption
    all_goals first | assumption | (show (0 : Int) ≤ _; decide)
theorem kind_neg : kindM (spl []) < 0 := by decide
/-- Both readings are one. -/
theorem parse_same (s : List UInt8) : parse24 s = parseM s := by
  have hp : ∀ v, parseM s = some v → parse24 s = some v := by
    intro v h
    have h' := h
    unfold parseM at h
    split at h
    · cases h
    rename_i h0
    split at h
    · rename_i ht
      obtain rfl := Option.some.inj h
      rw [split_spl] at ht h0
      have hne : s ≠ [] := by rintro rfl; exact h0 kind_neg
      have hok : (preM (spl s)).okM := by
        by_cases hok : (preM (spl s)).okM
        · exact hok
        · rw [text_no hok] at ht; exact absurd ht.symm hne
      rw [text_ok hok] at ht
      have hm := pre_most (spl s)
      have e1 := parse24_words hok hm
      have e2 := parse_words hok hm
      rw [ht] at e1 e2
      rw [e1, ← e2, h']
    · cases h
  cases h : parse24 s with
  | some v =>
    obtain ⟨rfl, h2, h3, h4⟩ := parse24_back h
    rw [parse_words h2 h3, h4]
  | none =>
    cases h2 : parseM s with
    | none => rfl
    | some v => rw [hp v h2] at h; cases h
/-- A text that was told is read again. -/
theorem tells_back {v : Mv} (hm : v.most) : (parseM (textM v)).isSome = decide (textM v ≠ []) ∧ ∀ z, parseM (textM v) = some z → textM z = textM v := by
  by_cases h : v.okM
  · rw [text_ok h, parse_words h hm]
    have h2 := text_ne h
    rw [text_ok h] at h2
    refine ⟨by simp [h2], ?_⟩
    rintro z hz
    obtain rfl := Option.some.inj hz
    obtain ⟨h3, h4⟩ := norm_words h
    rw [text_ok h4, h3]
  · rw [text_no h]
    have e : parseM [] = none := by decide
    rw [e]
    exact ⟨rfl, fun z hz => by cases hz⟩

end Go.Proofs.YtaafedpjifaghaaDoor
