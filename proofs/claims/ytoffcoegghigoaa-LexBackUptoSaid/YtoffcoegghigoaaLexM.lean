/- A line's words, and how words are told: plain laws, no program in sight. -/
import Derived.Test.YtoffcoegghigoaaStoreM
namespace Go.Proofs.Ytoffcoegghigoaa.lex

def esc (c : UInt8) : Bool := c.toNat == 34 || c.toNat == 92
def sgn (c : UInt8) : Bool := decide (32 < c.toNat) && decide (c.toNat ≤ 126) && !esc c
/-- May it stand in a word that is told? -/
def fair (c : UInt8) : Bool := decide (32 ≤ c.toNat) && decide (c.toNat ≤ 126)
def plainB (w : List UInt8) : Bool := !w.isEmpty && w.all sgn
def body : List UInt8 → List UInt8
  | [] => []
  | c :: t => if esc c then 92 :: c :: body t else c :: body t
def told (w : List UInt8) : List UInt8 := if plainB w then w else 34 :: (body w ++ [34])
def quoteW (w : List UInt8) : List UInt8 × Int := if w.all fair then (if 4096 < (told w).length then ([], 12) else (told w, 0)) else ([], 11)
/-- Words between blanks. -/
def inter : List (List UInt8) → List UInt8
  | [] => []
  | [a] => a
  | a :: b :: l => a ++ (32 :: inter (b :: l))
/-- The first error of words. -/
def firstErr : List (List UInt8) → Int
  | [] => 0
  | w :: l => if (quoteW w).2 = 0 then firstErr l else (quoteW w).2
def joinW (l : List (List UInt8)) : List UInt8 × Int :=
  if 64 < l.length then ([], 30) else if firstErr l ≠ 0 then ([], firstErr l) else if 4096 < (inter (l.map told)).length then ([], 12) else (inter (l.map told), 0)

inductive Mode where
  | between
  | plain (w : List UInt8)
  | quoted (w : List UInt8)
def ends : List UInt8 → Bool
  | [] => true
  | c :: _ => c.toNat == 32
def run : Mode → List (List UInt8) → List UInt8 → Option (List (List UInt8))
  | .between, out, [] => some out
  | .between, out, c :: t => if c.toNat = 32 then run .between out t else if c.toNat = 34 then run (.quoted []) out t else if sgn c then run (.plain [c]) out t else none
  | .plain w, out, [] => some (out ++ [w])
  | .plain w, out, c :: t => if c.toNat = 32 then run .between (out ++ [w]) t else if sgn c then run (.plain (w ++ [c])) out t else none
  | .quoted _, _, [] => none
  | .quoted w, out, [c] => if c.toNat = 34 then some (out ++ [w]) else none
  | .quoted w, out, c :: d :: t => if c.toNat = 34 then (if d.toNat = 32 then run .between (out ++ [w]) t else none) else if c.toNat = 92 then (if esc d then run (.quoted (w ++ [d])) out t else none)
      else if fair c then run (.quoted (w ++ [c])) out (d :: t) else none
def splitW (line : List UInt8) : List (List UInt8) × Int :=
  if 4096 < line.length then ([], 12) else match run .between [] line with
    | none => ([], 11)
    | some l => if 64 < l.length then ([], 30) else (l, 0)

theorem run_between_nil (out : List (List UInt8)) : run .between out [] = some out := by simp [run]
theorem run_between_cons (out : List (List UInt8)) (c : UInt8) (t : List UInt8) : run .between out (c :: t) = if c.toNat = 32 then run .between out t else if c.toNat = 34 then run (.quoted []) out t else if sgn c then run (.plain [c]) out t else none := by simp [run]
theorem run_plain_nil (w : List UInt8) (out : List (List UInt8)) : run (.plain w) out [] = some (out ++ [w]) := by simp [run]
theorem run_plain_cons (w : List UInt8) (out : List (List UInt8)) (c : UInt8) (t : List UInt8) : run (.plain w) out (c :: t) = if c.toNat = 32 then run .between (out ++ [w]) t else if sgn c then run (.plain (w ++ [c])) out t else none := by simp [run]
/-- A plain word that is whole goes on between words. -/
theorem run_plain_ends {w : List UInt8} {out : List (List UInt8)} {s : List UInt8} (h : ends s = true) : run (.plain w) out s = run .between (out ++ [w]) s := by
  cases s with
  | nil => simp [run]
  | cons c t =>
    have hc : c.toNat = 32 := by simpa [ends] using h
    rw [run_plain_cons, run_between_cons, if_pos hc, if_pos hc]
theorem run_quoted_nil (w : List UInt8) (out : List (List UInt8)) : run (.quoted w) out [] = none := by simp [run]
/-- One sign of a quoted word. -/
theorem run_quoted_cons (w : List UInt8) (out : List (List UInt8)) (c : UInt8) (t : List UInt8) : run (.quoted w) out (c :: t) =
    if c.toNat = 34 ∧ ends t = true then run .between (out ++ [w]) t else match t with
      | d :: t' => if c.toNat = 92 ∧ esc d = true then run (.quoted (w ++ [d])) out t' else if fair c = true ∧ esc c = false then run (.quoted (w ++ [c])) out (d :: t') else none
      | [] => none := by
  cases t with
  | nil =>
    by_cases h : c.toNat = 34
    · simp [run, ends, h]
    · simp [run, ends, h]
  | cons d t' =>
    by_cases h : c.toNat = 34
    · have h92 : ¬ c.toNat = 92 := by omega
      have he : esc c = true := by simp [esc, h]
      by_cases hd : d.toNat = 32
      · simp [run, ends, h, hd]
      · simp [run, ends, h, hd, he]
    · by_cases h2 : c.toNat = 92
      · have he : esc c = true := by simp [esc, h2]
        simp [run, ends, h, h2, he]
      · have he : esc c = false := by simp [esc, h, h2]
        simp [run, ends, h, h2, he]

/-- A word that begins here, as the document takes it: what is behind it. -/
def plainGo : List UInt8 → List UInt8 → Option (List UInt8 × List UInt8)
  | w, [] => some (w, [])
  | w, c :: t => if c.toNat = 32 then some (w, c :: t) else if sgn c then plainGo (w ++ [c]) t else none
def quotGo : List UInt8 → List UInt8 → Option (List UInt8 × List UInt8)
  | _, [] => none
  | w, [c] => if c.toNat = 34 then some (w, []) else none
  | w, c :: d :: t => if c.toNat = 34 then some (w, d :: t) else if c.toNat = 92 then (if esc d then quotGo (w ++ [d]) t else none) else if fair c then quotGo (w ++ [c]) (d :: t) else none
def wordGo : List UInt8 → Option (List UInt8 × List UInt8)
  | [] => none
  | c :: t => if c.toNat = 34 then quotGo [] t else plainGo [] (c :: t)
theorem plainGo_run (out : List (List UInt8)) : ∀ (s w : List UInt8), run (.plain w) out s = match plainGo w s with
    | none => none
    | some (w', rest) => run .between (out ++ [w']) rest
  | [], w => by simp [plainGo, run]
  | c :: t, w => by
    rw [run_plain_cons, plainGo]
    by_cases h : c.toNat = 32
    · rw [if_pos h, if_pos h]; simp only; rw [run_between_cons, if_pos h]
    · rw [if_neg h, if_neg h]
      by_cases h2 : sgn c = true
      · rw [if_pos h2, if_pos h2]; exact plainGo_run out t _
      · rw [if_neg h2, if_neg h2]
theorem plainGo_ends : ∀ (s w : List UInt8) {w' rest : List UInt8}, plainGo w s = some (w', rest) → ends rest = true ∧ rest.length ≤ s.length ∧ ∃ k, rest = s.drop k
  | [], w, w', rest, h => by simp [plainGo] at h; obtain ⟨_, rfl⟩ := h; exact ⟨rfl, Nat.le_refl _, 0, rfl⟩
  | c :: t, w, w', rest, h => by
    rw [plainGo] at h
    split at h
    · rename_i hc
      simp only [Option.some.injEq, Prod.mk.injEq] at h
      obtain ⟨_, rfl⟩ := h
      exact ⟨by simpa [ends] using hc, Nat.le_refl _, 0, rfl⟩
    · split at h
      · obtain ⟨h1, h2, k, h3⟩ := plainGo_ends t _ h
        exact ⟨h1, by simp only [List.length_cons]; omega, k + 1, by simpa using h3⟩
      · cases h
theorem quotGo_run (out : List (List UInt8)) : ∀ (s w : List UInt8), run (.quoted w) out s = match quotGo w s with
    | none => none
    | some (w', rest) => if ends rest = true then run .between (out ++ [w']) rest else none
  | [], w => by simp [quotGo, run]
  | [c], w => by
    by_cases h : c.toNat = 34 <;> simp [quotGo, run, ends, h]
  | c :: d :: t, w => by
    rw [quotGo]
    by_cases h : c.toNat = 34
    · by_cases hd : d.toNat = 32 <;> simp [run, ends, h, hd]
    · by_cases h2 : c.toNat = 92
      · by_cases he : esc d = true
        · have := quotGo_run out t (w ++ [d])
          simp [run, h, h2, he, this]
        · simp [run, h, h2, he]
      · by_cases hf : fair c = true
        · have := quotGo_run out (d :: t) (w ++ [c])
          simp [run, h, h2, hf, this]
        · simp [run, h, h2, hf]
theorem quotGo_drop : ∀ (s w : List UInt8) {w' rest : List UInt8}, quotGo w s = some (w', rest) → rest.length < s.length
  | [], w, w', rest, h => by simp [quotGo] at h
  | [c], w, w', rest, h => by
    rw [quotGo] at h
    split at h
    · simp only [Option.some.injEq, Prod.mk.injEq] at h; obtain ⟨_, rfl⟩ := h; simp
    · cases h
  | c :: d :: t, w, w', rest, h => by
    rw [quotGo] at h
    split at h
    · simp only [Option.some.injEq, Prod.mk.injEq] at h; obtain ⟨_, rfl⟩ := h; simp
    · split at h
      · split at h
        · have := quotGo_drop t _ h; simp only [List.length_cons]; omega
        · cases h
      · split at h
        · have := quotGo_drop (d :: t) _ h; simp only [List.length_cons] at this ⊢; omega
        · cases h
theorem wordGo_run (out : List (List UInt8)) (c : UInt8) (t : List UInt8) (hc : c.toNat ≠ 32) : run .between out (c :: t) = match wordGo (c :: t) with
    | none => none
    | some (w, rest) => if ends rest = true then run .between (out ++ [w]) rest else none := by
  rw [run_between_cons, if_neg hc, wordGo]
  by_cases h : c.toNat = 34
  · rw [if_pos h, if_pos h]; exact quotGo_run out t []
  · rw [if_neg h, if_neg h, plainGo, if_neg hc]
    by_cases h2 : sgn c = true
    · rw [if_pos h2, if_pos h2]
      have := plainGo_run out t [c]
      rw [this]
      simp only [List.nil_append]
      cases hg : plainGo [c] t with
      | none => rfl
      | some x => obtain ⟨w', rest⟩ := x; simp only; rw [if_pos (plainGo_ends _ _ hg).1]
    · rw [if_neg h2, if_neg h2]

/- What is told is read again. -/
theorem told_quoted : ∀ (w v rest : List UInt8) (out : List (List UInt8)), w.all fair = true → ends rest = true → run (.quoted v) out (body w ++ (34 :: rest)) = run .between (out ++ [v ++ w]) rest
  | [], v, rest, out, _, he => by
    show run (.quoted v) out (34 :: rest) = _
    rw [run_quoted_cons, if_pos ⟨rfl, he⟩, List.append_nil]
  | c :: t, v, rest, out, hf, he => by
    simp only [List.all_cons, Bool.and_eq_true] at hf
    have ih := told_quoted t (v ++ [c]) rest out hf.2 he
    rw [List.append_assoc, List.singleton_append] at ih
    rw [body]
    by_cases hc : esc c = true
    · rw [if_pos hc, List.cons_append, List.cons_append, run_quoted_cons, if_neg (by rintro ⟨h, _⟩; exact absurd h (by decide))]
      simp only
      rw [if_pos ⟨rfl, hc⟩, ih]
    · have hn : c.toNat ≠ 34 := by intro h; simp [esc, h] at hc
      have hn2 : c.toNat ≠ 92 := by intro h; simp [esc, h] at hc
      have hc' : esc c = false := by simpa using hc
      rw [if_neg hc, List.cons_append, run_quoted_cons, if_neg (by rintro ⟨h, _⟩; exact hn h)]
      cases hb : body t ++ (34 :: rest) with
      | nil => simp at hb
      | cons d t' =>
        simp only
        rw [if_neg (by rintro ⟨h, _⟩; exact hn2 h), if_pos ⟨hf.1, hc'⟩, ← hb, ih]
theorem told_plain : ∀ (w v rest : List UInt8) (out : List (List UInt8)), w.all sgn = true → ends rest = true → run (.plain v) out (w ++ rest) = run .between (out ++ [v ++ w]) rest
  | [], v, rest, out, _, he => by rw [List.nil_append, run_plain_ends he, List.append_nil]
  | c :: t, v, rest, out, hf, he => by
    simp only [List.all_cons, Bool.and_eq_true] at hf
    have ih := told_plain t (v ++ [c]) rest out hf.2 he
    rw [List.append_assoc, List.singleton_append] at ih
    have hs : c.toNat ≠ 32 := by intro h; have := hf.1; simp [sgn, h] at this
    rw [List.cons_append, run_plain_cons, if_neg hs, if_pos hf.1, ih]
theorem told_run {w rest : List UInt8} (out : List (List UInt8)) (hf : w.all fair = true) (he : ends rest = true) : run .between out (told w ++ rest) = run .between (out ++ [w]) rest := by
  unfold told
  by_cases hp : plainB w = true
  · rw [if_pos hp]
    cases w with
    | nil => simp [plainB] at hp
    | cons c t =>
      have hp2 : sgn c = true ∧ t.all sgn = true := by simpa [plainB] using hp
      have hs : c.toNat ≠ 32 := by intro h; have := hp2.1; simp [sgn, h] at this
      have h34 : c.toNat ≠ 34 := by intro h; have := hp2.1; simp [sgn, esc, h] at this
      rw [List.cons_append, run_between_cons, if_neg hs, if_neg h34, if_pos hp2.1]
      have := told_plain t [c] rest out hp2.2 he
      simpa using this
  · rw [if_neg hp, List.cons_append, run_between_cons, if_neg (by decide), if_pos (by decide), List.append_assoc, List.singleton_append]
    have := told_quoted w [] rest out hf he
    simpa using this
theorem inter_run : ∀ (l : List (List UInt8)) (out : List (List UInt8)), (∀ w ∈ l, w.all fair = true) → run .between out (inter (l.map told)) = some (out ++ l)
  | [], out, _ => by simp [inter, run]
  | [a], out, h => by
    have := told_run (rest := []) out (h a (by simp)) rfl
    simp only [List.map_cons, List.map_nil, inter]
    rw [List.append_nil] at this
    rw [this, run_between_nil]
  | a :: b :: l, out, h => by
    have := told_run (rest := 32 :: inter ((b :: l).map told)) out (h a (by simp)) rfl
    simp only [List.map_cons, inter] at this ⊢
    rw [this, run_between_cons, if_pos (by decide)]
    have ih := inter_run (b :: l) (out ++ [a]) (fun w hw => h w (List.mem_cons_of_mem _ hw))
    simp only [List.map_cons] at ih
    rw [ih]
    simp
theorem firstErr_zero : ∀ {l : List (List UInt8)}, firstErr l = 0 → ∀ w ∈ l, w.all fair = true
  | [], _, w, hw => by simp at hw
  | a :: l, h, w, hw => by
    rw [firstErr] at h
    split at h
    · rename_i h0
      rcases List.mem_cons.1 hw with rfl | hw
      · unfold quoteW at h0
        by_cases hf : w.all fair = true
        · exact hf
        · rw [if_neg hf] at h0; simp at h0
      · exact firstErr_zero h w hw
    · rename_i h0; exact absurd h h0
/-- JOINED AND SPLIT AGAIN. -/
theorem join_split {l : List (List UInt8)} {s : List UInt8} (h : joinW l = (s, 0)) : splitW s = (l, 0) := by
  unfold joinW at h
  split at h
  · simp at h
  · rename_i h1
    split at h
    · rename_i h2; simp only [Prod.mk.injEq] at h; exact absurd h.2 h2
    · rename_i h2
      split at h
      · simp at h
      · rename_i h3
        simp only [Prod.mk.injEq, and_true] at h
        subst h
        rw [splitW, if_neg h3, inter_run l [] (firstErr_zero (by omega))]
        simp only [List.nil_append]
        rw [if_neg h1]
/-- How much words take: each with a blank ahead. -/
def span (l : List (List UInt8)) : Nat := (l.map fun w => (told w).length + 1).sum
theorem inter_len : ∀ (l : List (List UInt8)), l ≠ [] → (inter (l.map told)).length + 1 = span l
  | [], h => absurd rfl h
  | [a], _ => by simp [inter, span]
  | a :: b :: l, _ => by
    have := inter_len (b :: l) (by simp)
    simp only [List.map_cons, inter, List.length_append, List.length_cons, span, List.sum_cons] at this ⊢
    omega
theorem body_app : ∀ a b : List UInt8, body (a ++ b) = body a ++ body b
  | [], b => rfl
  | c :: t, b => by
    simp only [List.cons_append, body, body_app t b]
    split <;> simp
theorem sgn_fair {c : UInt8} (h : sgn c = true) : fair c = true := by
  simp only [sgn, Bool.and_eq_true, decide_eq_true_eq] at h
  simp only [fair, Bool.and_eq_true, decide_eq_true_eq]
  omega
theorem all_fair {v : List UInt8} (h : v.all sgn = true) : v.all fair = true := by
  rw [List.all_eq_true] at h ⊢
  exact fun c hc => sgn_fair (h c hc)
theorem esc_fair {c : UInt8} (h : esc c = true) : fair c = true := by
  simp only [esc, Bool.or_eq_true, beq_iff_eq] at h
  simp only [fair, Bool.and_eq_true, decide_eq_true_eq]
  omega
theorem body_len : ∀ v : List UInt8, v.length ≤ (body v).length
  | [] => Nat.le_refl _
  | c :: t => by
    have := body_len t
    rw [body]
    split <;> simp only [List.length_cons] <;> omega
theorem told_len (v : List UInt8) : (told v).length ≤ (body v).length + 2 := by
  have := body_len v
  unfold told
  split
  · omega
  · simp only [List.length_cons, List.length_append, List.length_nil]; omega
theorem span_cons (w : List UInt8) (l : List (List UInt8)) : span (w :: l) = (told w).length + 1 + span l := by simp [span]
/-- What a run that ends well says of the words that it adds. -/
def Good (m : Mode) (out : List (List UInt8)) (s : List UInt8) (l : List (List UInt8)) : Prop :=
  match m with
  | .between => ∃ l', l = out ++ l' ∧ (∀ w ∈ l', w.all fair = true) ∧ span l' ≤ s.length + 1
  | .plain v => v ≠ [] → v.all sgn = true → ∃ w l', l = out ++ w :: l' ∧ w.all fair = true ∧ (∀ w ∈ l', w.all fair = true) ∧ (told w).length + span l' ≤ v.length + s.length
  | .quoted v => v.all fair = true → ∃ w l', l = out ++ w :: l' ∧ w.all fair = true ∧ (∀ w ∈ l', w.all fair = true) ∧ (told w).length + span l' ≤ (body v).length + 1 + s.length
theorem told_all {v : List UInt8} (h0 : v ≠ []) (h : v.all sgn = true) : told v = v := by
  unfold told
  rw [if_pos]
  cases v with
  | nil => exact absurd rfl h0
  | cons c t => simpa [plainB] using h
theorem run_good : ∀ (n : Nat) (s : List UInt8), s.length ≤ n → ∀ (m : Mode) (out l : List (List UInt8)), run m out s = some l → Good m out s l := by
  intro n
  induction n with
  | zero =>
    intro s hs m out l h
    obtain rfl : s = [] := List.eq_nil_of_length_eq_zero (by omega)
    cases m with
    | between =>
      rw [run_between_nil] at h
      cases h
      exact ⟨[], by simp, by simp, by simp [span]⟩
    | plain v =>
      intro h0 hv
      rw [run_plain_nil] at h
      cases h
      exact ⟨v, [], rfl, all_fair hv, by simp, by rw [told_all h0 hv]; simp [span]⟩
    | quoted v => rw [run_quoted_nil] at h; cases h
  | succ n ih =>
    intro s hs m out l h
    cases s with
    | nil => exact ih [] (by simp) m out l h
    | cons c t =>
      simp only [List.length_cons] at hs
      cases m with
      | between =>
        rw [run_between_cons] at h
        split at h
        · obtain ⟨l', h1, h2, h3⟩ := ih t (by omega) _ _ _ h
          exact ⟨l', h1, h2, by simp only [List.length_cons]; omega⟩
        · split at h
          · obtain ⟨w, l', h1, h2, h3, h4⟩ := ih t (by omega) _ _ _ h rfl
            refine ⟨w :: l', h1, fun x hx => ?_, ?_⟩
            · rcases List.mem_cons.1 hx with rfl | hx
              · exact h2
              · exact h3 x hx
            · rw [span_cons]; simp only [body, List.length_nil, List.length_cons] at h4 ⊢; omega
          · split at h
            · rename_i hsg
              obtain ⟨w, l', h1, h2, h3, h4⟩ := ih t (by omega) _ _ _ h (by simp) (by simpa using hsg)
              refine ⟨w :: l', h1, fun x hx => ?_, ?_⟩
              · rcases List.mem_cons.1 hx with rfl | hx
                · exact h2
                · exact h3 x hx
              · rw [span_cons]; simp only [List.length_nil, List.length_cons] at h4 ⊢; omega
            · cases h
      | plain v =>
        intro h0 hv
        rw [run_plain_cons] at h
        split at h
        · obtain ⟨l', h1, h2, h3⟩ := ih t (by omega) _ _ _ h
          exact ⟨v, l', by rw [h1]; simp, all_fair hv, h2, by rw [told_all h0 hv]; simp only [List.length_cons]; omega⟩
        · split at h
          · rename_i hsg
            obtain ⟨w, l', h1, h2, h3, h4⟩ := ih t (by omega) _ _ _ h (by simp) (by simp [hv, hsg])
            exact ⟨w, l', h1, h2, h3, by simp only [List.length_append, List.length_cons, List.length_nil] at h4 ⊢; omega⟩
          · cases h
      | quoted v =>
        intro hv
        have hb := told_len v
        cases t with
        | nil =>
          rw [run] at h
          split at h
          · cases h
            exact ⟨v, [], rfl, hv, by simp, by simp only [span, List.map_nil, List.sum_nil, List.length_cons, List.length_nil]; omega⟩
          · cases h
        | cons d t =>
          simp only [List.length_cons] at hs
          rw [run] at h
          split at h
          · split at h
            · obtain ⟨l', h1, h2, h3⟩ := ih t (by omega) _ _ _ h
              exact ⟨v, l', by rw [h1]; simp, hv, h2, by simp only [List.length_cons]; omega⟩
            · cases h
          · rename_i h34
            split at h
            · split at h
              · rename_i he
                obtain ⟨w, l', h1, h2, h3, h4⟩ := ih t (by omega) _ _ _ h (by simp [hv, esc_fair he])
                refine ⟨w, l', h1, h2, h3, ?_⟩
                rw [body_app] at h4
                simp only [body, he, if_true, List.length_append, List.length_cons, List.length_nil] at h4 ⊢
                omega
              · cases h
            · rename_i h92
              split at h
              · rename_i hf
                obtain ⟨w, l', h1, h2, h3, h4⟩ := ih (d :: t) (by simp only [List.length_cons]; omega) _ _ _ h (by simp [hv, hf])
                refine ⟨w, l', h1, h2, h3, ?_⟩
                have he : esc c = false := by simp [esc, h34, h92]
                rw [body_app] at h4
                simp only [body, he, Bool.false_eq_true, if_false, List.length_append, List.length_cons, List.length_nil] at h4 ⊢
                omega
              · cases h
theorem span_mem : ∀ {l : List (List UInt8)} {w : List UInt8}, w ∈ l → (told w).length + 1 ≤ span l
  | a :: l, w, h => by
    rw [span_cons]
    rcases List.mem_cons.1 h with rfl | h
    · omega
    · have := span_mem h; omega
theorem firstErr_none : ∀ {l : List (List UInt8)}, (∀ w ∈ l, w.all fair = true ∧ (told w).length ≤ 4096) → firstErr l = 0
  | [], _ => rfl
  | a :: l, h => by
    have ha := h a (by simp)
    have hq : quoteW a = (told a, 0) := by unfold quoteW; rw [if_pos ha.1, if_neg (by omega)]
    rw [firstErr, hq]
    simp only [if_true]
    exact firstErr_none fun w hw => h w (List.mem_cons_of_mem _ hw)
/-- SPLIT, JOINED AND SPLIT AGAIN. -/
theorem split_join {l : List (List UInt8)} {line : List UInt8} (h : splitW line = (l, 0)) : ∃ s, joinW l = (s, 0) ∧ splitW s = (l, 0) ∧ s.length ≤ line.length := by
  unfold splitW at h
  split at h
  · simp at h
  · rename_i h1
    split at h
    · simp at h
    · rename_i l0 hr
      split at h
      · simp at h
      · rename_i h2
        simp only [Prod.mk.injEq, and_true] at h
        subst h
        obtain ⟨l', e, hf, hs⟩ := run_good _ line (Nat.le_refl _) _ _ _ hr
        rw [List.nil_append] at e
        subst e
        have hlen : (inter (l0.map told)).length ≤ line.length := by
          by_cases h0 : l0 = []
          · subst h0; simp [inter]
          · have := inter_len l0 h0; omega
        have hj : joinW l0 = (inter (l0.map told), 0) := by
          unfold joinW
          rw [if_neg h2, firstErr_none fun w hw => ⟨hf w hw, by have := span_mem hw; omega⟩]
          simp only [ne_eq, not_true_eq_false, if_false]
          rw [if_neg (by omega)]
        exact ⟨_, hj, join_split hj, hlen⟩

end Go.Proofs.Ytoffcoegghigoaa.lex
