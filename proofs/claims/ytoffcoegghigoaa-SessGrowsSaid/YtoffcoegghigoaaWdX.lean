/- A settled list is told by what its windows cover; what taking in, and all of a list, come to. Plain laws. -/
import Derived.Test.YtoffcoegghigoaaWdQ
namespace Go.Proofs.Ytoffcoegghigoaa

def covW (x : Wd) (k : List UInt8) (p : Int) : Prop := x.key = k ∧ 2 * x.frm ≤ p ∧ p ≤ 2 * x.to
def cov (l : List Wd) (k : List UInt8) (p : Int) : Prop := ∃ y ∈ l, covW y k p
theorem stl_sub {a b : List Wd} (ha : Stl a) (hb : Stl b) (h : ∀ k p, cov a k p ↔ cov b k p) {x : Wd} (hx : x ∈ a) : x ∈ b := by
  have hr := right_iff.1 ((stl_iff.1 ha).1 x hx)
  obtain ⟨y, hy, ky, y1, y2⟩ := (h x.key (2 * x.frm)).1 ⟨x, hx, rfl, by omega, by omega⟩
  have hyr := right_iff.1 ((stl_iff.1 hb).1 y hy)
  have inA : ∀ z ∈ a, z.key = x.key → z.frm ≤ x.to → x.frm ≤ z.to → z = x := by
    intro z hz kz z1 z2
    rcases stl_apart ha hz hx with e | e
    · exact e
    · rw [joins_iff.2 ⟨(stl_iff.1 ha).1 z hz, (stl_iff.1 ha).1 x hx, kz, z1, z2⟩] at e
      cases e
  have inB : ∀ z ∈ b, z.key = y.key → z.frm ≤ y.to → y.frm ≤ z.to → z = y := by
    intro z hz kz z1 z2
    rcases stl_apart hb hz hy with e | e
    · exact e
    · rw [joins_iff.2 ⟨(stl_iff.1 hb).1 z hz, (stl_iff.1 hb).1 y hy, kz, z1, z2⟩] at e
      cases e
  have e1 : y.frm = x.frm := by
    by_cases h1 : y.frm < x.frm
    · obtain ⟨z, hz, kz, z1, z2⟩ := (h x.key (2 * x.frm - 1)).2 ⟨y, hy, ky, by omega, by omega⟩
      have := inA z hz kz (by omega) (by omega)
      subst this
      omega
    · omega
  have e2 : y.to = x.to := by
    rcases Int.lt_trichotomy y.to x.to with h1 | h1 | h1
    · obtain ⟨z, hz, kz, z1, z2⟩ := (h x.key (2 * y.to + 1)).1 ⟨x, hx, rfl, by omega, by omega⟩
      have := inB z hz (kz.trans ky.symm) (by omega) (by omega)
      subst this
      omega
    · exact h1
    · obtain ⟨z, hz, kz, z1, z2⟩ := (h x.key (2 * x.to + 1)).2 ⟨y, hy, ky, by omega, by omega⟩
      have := inA z hz kz (by omega) (by omega)
      subst this
      omega
  have : y = x := by
    cases x
    cases y
    simp only at ky e1 e2
    subst ky e1 e2
    rfl
  rw [← this]
  exact hy
theorem pair_uniq : ∀ {a b : List Wd}, a.Pairwise aheadW → b.Pairwise aheadW → (∀ x, x ∈ a ↔ x ∈ b) → a = b
  | [], b, _, _, h => by
    cases b with
    | nil => rfl
    | cons y b => exact absurd ((h y).2 (by simp)) (by simp)
  | x :: a, [], _, _, h => absurd ((h x).1 (by simp)) (by simp)
  | x :: a, y :: b, ha, hb, h => by
    obtain ⟨a1, a2⟩ := List.pairwise_cons.1 ha
    obtain ⟨b1, b2⟩ := List.pairwise_cons.1 hb
    have hself : ∀ z : Wd, ¬ z.place z < 0 := fun z hz => by have := (place_zero (a := z) (b := z)).2 rfl; omega
    have e : x = y := by
      rcases List.mem_cons.1 ((h x).1 (by simp)) with e | e
      · exact e
      · rcases List.mem_cons.1 ((h y).2 (by simp)) with e2 | e2
        · exact e2.symm
        · exact absurd (place_trans (b1 x e).1 (a1 y e2).1) (hself y)
    subst e
    refine congrArg (x :: ·) (pair_uniq a2 b2 (fun z => ⟨fun hz => ?_, fun hz => ?_⟩))
    · rcases List.mem_cons.1 ((h z).1 (List.mem_cons_of_mem _ hz)) with e | e
      · subst e; exact absurd (a1 z hz).1 (hself z)
      · exact e
    · rcases List.mem_cons.1 ((h z).2 (List.mem_cons_of_mem _ hz)) with e | e
      · subst e; exact absurd (b1 z hz).1 (hself z)
      · exact e
theorem stl_canon {a b : List Wd} (ha : Stl a) (hb : Stl b) (h : ∀ k p, cov a k p ↔ cov b k p) : a = b :=
  pair_uniq (stl_pair.1 ha).2 (stl_pair.1 hb).2 (fun _ => ⟨stl_sub ha hb h, stl_sub hb ha (fun k p => (h k p).symm)⟩)

theorem insW_mem {O : List Wd} {b y : Wd} : y ∈ insW O b ↔ y = b ∨ y ∈ O := by
  unfold insW
  rw [List.mem_append, List.mem_cons]
  have hm : y ∈ O ↔ y ∈ O.take (posW O b) ∨ y ∈ O.drop (posW O b) := by rw [← List.mem_append, List.take_append_drop]
  rw [hm]
  constructor
  · rintro (h | h | h)
    · exact .inr (.inl h)
    · exact .inl h
    · exact .inr (.inr h)
  · rintro (h | h | h)
    · exact .inr (.inl h)
    · exact .inl h
    · exact .inr (.inr h)
theorem bec_wide {l : List Wd} {x : Wd} : ∀ o ∈ l, o.joins x = true → (becOf l x).frm ≤ o.frm ∧ o.to ≤ (becOf l x).to := by
  have key : ∀ (m : List Wd) (b : Wd), ((m.foldl grow b).frm ≤ b.frm ∧ b.to ≤ (m.foldl grow b).to) ∧ ∀ o ∈ m, (m.foldl grow b).frm ≤ o.frm ∧ o.to ≤ (m.foldl grow b).to := by
    intro m
    induction m with
    | nil => exact fun b => ⟨⟨Int.le_refl _, Int.le_refl _⟩, by simp⟩
    | cons o m ih =>
      intro b
      obtain ⟨h1, h2⟩ := ih (grow b o)
      rw [List.foldl_cons]
      simp only [grow] at h1
      refine ⟨by simp only [grow]; omega, fun p hp => ?_⟩
      rcases List.mem_cons.1 hp with rfl | hp
      · simp only [grow]; omega
      · exact h2 p hp
  intro o ho hj
  exact (key _ x).2 o (List.mem_filter.2 ⟨ho, by simpa using hj⟩)
theorem took_cov {l : List Wd} {x : Wd} (hx : x.right = true) (k : List UInt8) (p : Int) : cov (tookW l x) k p ↔ cov l k p ∨ covW x k p := by
  obtain ⟨br, bk, bf, bt⟩ := bec_law hx l
  obtain ⟨e1, e2⟩ := bec_ends l x
  have hxr := right_iff.1 hx
  constructor
  · rintro ⟨y, hy, hc⟩
    rcases insW_mem.1 hy with rfl | hy
    · obtain ⟨c1, c2, c3⟩ := hc
      have kx : x.key = k := bk.symm.trans c1
      by_cases h1 : p < 2 * x.frm
      · rcases e1 with e1 | ⟨o, ho, hj, e1⟩
        · omega
        · obtain ⟨or', _, ok, o1, o2⟩ := joins_iff.1 hj
          exact .inl ⟨o, ho, ok.trans kx, by omega, by omega⟩
      · by_cases h2 : 2 * x.to < p
        · rcases e2 with e2 | ⟨o, ho, hj, e2⟩
          · omega
          · obtain ⟨or', _, ok, o1, o2⟩ := joins_iff.1 hj
            exact .inl ⟨o, ho, ok.trans kx, by omega, by omega⟩
        · exact .inr ⟨kx, by omega, by omega⟩
    · exact .inl ⟨y, (List.mem_filter.1 hy).1, hc⟩
  · rintro (⟨y, hy, hc⟩ | ⟨c1, c2, c3⟩)
    · by_cases hj : y.joins x = true
      · obtain ⟨w1, w2⟩ := bec_wide y hy hj
        obtain ⟨_, _, yk, _, _⟩ := joins_iff.1 hj
        obtain ⟨c1, c2, c3⟩ := hc
        exact ⟨_, insW_mem.2 (.inl rfl), bk.trans (yk.symm.trans c1), by omega, by omega⟩
      · exact ⟨y, insW_mem.2 (.inr (List.mem_filter.2 ⟨hy, by simpa using hj⟩)), hc⟩
    · exact ⟨_, insW_mem.2 (.inl rfl), bk.trans c1, by omega, by omega⟩
theorem takeM_cov {l : List Wd} {x : Wd} (k : List UInt8) (p : Int) : cov (takeM l x) k p ↔ cov l k p ∨ (x.right = true ∧ covW x k p) := by
  unfold takeM
  by_cases hx : x.right = true
  · rw [if_pos hx, took_cov hx]; simp [hx]
  · rw [if_neg hx]; simp [hx]
theorem allM_cov (k : List UInt8) (p : Int) : ∀ l : List Wd, cov (allM l) k p ↔ ∃ y ∈ l, y.right = true ∧ covW y k p := by
  refine snoc_ind (by simp [allM, cov]) (fun l x ih => ?_)
  rw [allM_snoc, takeM_cov, ih]
  constructor
  · rintro (⟨y, hy, h⟩ | h)
    · exact ⟨y, by simp [hy], h⟩
    · exact ⟨x, by simp, h⟩
  · rintro ⟨y, hy, h⟩
    rcases List.mem_append.1 hy with hy | hy
    · exact .inl ⟨y, hy, h⟩
    · obtain rfl := List.mem_singleton.1 hy
      exact .inr h
theorem allM_back {l : List Wd} (hf : ∀ x ∈ l, x.fits) : allM l.reverse = allM l :=
  stl_canon (allM_law _ (fun x hx => hf x (List.mem_reverse.1 hx))).1 (allM_law l hf).1 (fun k p => by rw [allM_cov, allM_cov]; simp)
/-- What is covered already says nothing. -/
theorem took_again {l : List Wd} {x : Wd} (h : Stl l) (hx : x.right = true) (hc : ∀ k p, covW x k p → cov l k p) : tookW l x = l :=
  stl_canon (took_stl h hx) h (fun k p => by rw [took_cov hx]; exact ⟨fun h => h.elim id (hc k p), .inl⟩)
theorem took_twice {l : List Wd} {x : Wd} (h : Stl l) (hx : x.right = true) : tookW (tookW l x) x = tookW l x :=
  took_again (took_stl h hx) hx (fun k p hp => (took_cov hx k p).2 (.inr hp))
theorem bec_twice {l : List Wd} {x : Wd} (h : Stl l) (hx : x.right = true) : becOf (tookW l x) x = becOf l x := by
  have hst := took_stl h hx
  have h1 : becOf l x ∈ tookW l x := insW_mem.2 (.inl rfl)
  have h2 : becOf (tookW l x) x ∈ tookW l x := by
    have : becOf (tookW l x) x ∈ tookW (tookW l x) x := insW_mem.2 (.inl rfl)
    rwa [took_twice h hx] at this
  obtain ⟨a1, a2, a3, a4⟩ := bec_law hx l
  obtain ⟨b1, b2, b3, b4⟩ := bec_law hx (tookW l x)
  have hxr := right_iff.1 hx
  rcases stl_apart hst h2 h1 with e | e
  · exact e
  · rw [joins_iff.2 ⟨b1, a1, b2.trans a2.symm, by omega, by omega⟩] at e
    cases e
theorem gave_one {l : List Wd} {x : Wd} (h : Stl l) (hx : x.right = true) : (takeF (tookW l x) x).gave.length = 1 := by
  have h1 := takeF_len (tookW l x) x
  rw [takeF_out] at h1
  have h2 := congrArg List.length (took_twice h hx)
  rw [show tookW (tookW l x) x = insW (outOf (tookW l x) x) (becOf (tookW l x) x) from rfl, insW_len] at h2
  omega
end Go.Proofs.Ytoffcoegghigoaa
