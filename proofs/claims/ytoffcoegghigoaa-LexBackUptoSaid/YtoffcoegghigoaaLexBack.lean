/- LexBack returns true at every input whose bulk is at most 1048576 (Rows.uptoSmall), and its arguments read as they did. No other condition. -/
import Derived.Test.YtoffcoegghigoaaUptoIn
import Derived.WalkKit
import Derived.ProofKit
import Derived.OpenShut
import Derived.ShutString
import Derived.ChangeOld
import Derived.Below
import Derived.JoinedCond
namespace Go.Proofs.Ytoffcoegghigoaa.lexBack
open Go.ChangeShapes Go.WideShapes Go.ChangeAt Go.RowKit
open Go.ChangeMaps (open_string shut_string)
set_option linter.unusedVariables false

theorem own : ownKnob Try.prog.godebug = none := by kernel_rfl
theorem laidOut : laidOutB Try.prog = true := by kernel_rfl
theorem join_bad {l : List (List UInt8)} (h : (lex.joinW l).2 ≠ 0) : (lex.joinW l).1 = [] := by
  unfold lex.joinW at h ⊢
  split
  · rfl
  · split
    · rfl
    · split
      · rfl
      · rename_i h1 h2 h3; rw [if_neg h1, if_neg h2, if_neg h3] at h; exact absurd rfl h
theorem split_bad {bs : List UInt8} (h : (lex.splitW bs).2 ≠ 0) : (lex.splitW bs).1 = [] := by
  unfold lex.splitW at h ⊢
  split
  · rfl
  · rename_i h1
    rw [if_neg h1] at h
    split
    · rfl
    · rename_i l hl
      rw [hl] at h
      simp only at h
      split
      · rfl
      · rename_i h2; rw [if_neg h2] at h; exact absurd rfl h
theorem join_most (l : List (List UInt8)) : (lex.joinW l).1.length ≤ 4096 := by
  unfold lex.joinW
  split
  · simp
  · split
    · simp
    · split
      · simp
      · simp only; omega
theorem len_told (w : List UInt8) : w.length ≤ (lex.told w).length := by
  have := lex.body_len w
  unfold lex.told
  split
  · omega
  · simp only [List.length_cons, List.length_append, List.length_nil]; omega
theorem join_words {l : List (List UInt8)} (h : (lex.joinW l).2 = 0) : ∀ x ∈ l, x.length ≤ 10000000000000 := by
  have hf : lex.firstErr l = 0 := by
    unfold lex.joinW at h
    split at h
    · simp at h
    · split at h
      · exact h
      · rename_i h2; exact Decidable.byContradiction h2
  intro x hx
  have h1 := lex.firstErr_len hf x hx
  have h2 := len_told x
  omega

set_option maxHeartbeats 2000000 in
set_option maxRecDepth 100000 in
theorem back_walk {v : Value} {l : List (List UInt8)} {bs : List UInt8} (w : World) (hv : StrsRO w v l) (hl : l.length ≤ 9223372036854775807) (hw : ∀ x ∈ l, x.length ≤ 1048576) (hbl : bs.length ≤ 9223372036854775807) :
    Calls Try.prog 5 #[v, textV bs] w fun e w' => e = .returned (.bool true) ∧ Below w.heap.size w w' := by
  obtain ⟨ao, cap, rfl, hcap, hcell⟩ := id hv
  have hsz := text_size bs
  have hjm := join_most l
  have hjs : ∀ s, lex.joinW l = (s, 0) → lex.splitW s = (l, 0) := fun s h => lex.join_split h
  have hjb := @join_bad l
  have ks := fun w' => lex_split bs hbl w'
  have hsb := @split_bad bs
  have hsj : ∀ L, lex.splitW bs = (L, 0) → ∃ s, lex.joinW L = (s, 0) ∧ lex.splitW s = (L, 0) ∧ s.length ≤ bs.length := fun L h => lex.split_join h
  have hsm := split_most bs
  obtain ⟨Y, hY⟩ : ∃ Y, lex.splitW bs = Y := ⟨_, rfl⟩
  rw [hY] at ks hsb hsj hsm
  clear hY
  obtain ⟨L, eL⟩ := Y
  unfold textV at ks
  simp only at ks hsb hsm
  unfold textV
  go_enter Try.func5, Try.ntmps5
  go_wp2_with fail
  refine (St.callPast (first36 _) (St.nil (fun _ => False) w)).mono ?_
  rintro e w1 ⟨rfl, H1⟩
  have k1 := lex_join (hv.later H1.kept) hl (fun x hx => by have := hw x hx; omega)
  obtain ⟨X, hX⟩ : ∃ X, lex.joinW l = X := ⟨_, rfl⟩
  rw [hX] at k1 hjm hjb hjs
  clear hX
  obtain ⟨s, er⟩ := X
  simp only at k1 hjm hjb
  unfold textV at k1
  go_upto_region 4 with (go_at_call 19; go_must (refine (St.callPast k1 H1).mono ?_; rintro e w2 ⟨rfl, H2⟩))
  clear H1 k1
  by_cases he : er = 0
  case' pos =>
    subst he
    have k2 := fun w' => lex_split s (by omega) w'
    rw [hjs s rfl] at k2
    unfold textV at k2
    simp only at k2
    clear hjs hjb
    go_upto_region 6 with (go_at_call 12; go_must (refine (k2 _).mono ?_; rintro e w3 ⟨v3, rfl, H3⟩))
    have H4 : St (fun _ => False) w w3 [Row 9 1 v3 l.length (texts l)] := H2.call0 H3
    clear H2 H3
    have k3 := ref_same (strs_row (H4.row 0 rfl)).1 (hv.later H4.kept) hl hl
    have hdl : decide (l = l) = true := by simp
    rw [hdl] at k3
    go_upto_region 10 with (go_at_call 14; go_must (refine (St.callPast k3 H4).mono ?_; rintro e w9 ⟨rfl, H5⟩))
    have H9 : St (fun _ => False) w w9 [] := H5.pick []
    clear H4 H5 k3 hdl
  case' neg =>
    obtain rfl : s = [] := hjb he
    have z1 : decide (er = 0) = false := by simpa using he
    have z2 : (er == 0) = false := by simpa using he
    clear hjs hjb he
    go_upto_region 10 with fail
    obtain ⟨w9, hw9⟩ : ∃ w9, w2 = w9 := ⟨_, rfl⟩
    rw [hw9]
    have H9 : St (fun _ => False) w w9 [] := hw9 ▸ H2
    clear H2
  all_goals
    go_upto_region 11 with (go_at_call 12; go_must (refine (ks _).mono ?_; rintro e w10 ⟨v10, rfl, H10⟩))
    have H11 : St (fun _ => False) w w10 [Row 9 1 v10 L.length (texts L)] := H9.call0 H10
    obtain ⟨a10, c10, rfl, _, _⟩ := slice_form' (H11.row 0 rfl)
    clear H9 H10
    by_cases hE : eL = 0
    · subst hE
      obtain ⟨s2, j1, j2, j3⟩ := hsj L rfl
      have k5 := lex_join (strs_row (H11.row 0 rfl)).1 hsm (join_words (by rw [j1]))
      have k6 := fun w' => lex_split s2 (by omega) w'
      rw [j1] at k5
      rw [j2] at k6
      unfold textV at k5 k6
      simp only at k5 k6
      clear hsj hsb j1 j2
      have hs2 := text_size s2
      go_upto_region 14 with (go_at_call 19; go_must (refine (St.callPast k5 H11).mono ?_; rintro e w12 ⟨rfl, H12⟩))
      go_upto_region 15 with (go_at_call 12; go_must (refine (k6 _).mono ?_; rintro e w13 ⟨v13, rfl, H13⟩))
      have H14 : St (fun _ => False) w w13 [Row 9 1 v13 L.length (texts L), Row 9 1 (.slice a10 L.length c10) L.length (texts L)] := H12.call0 H13
      have k7 := ref_same (strs_row (H14.row 1 rfl)).1 (strs_row (H14.row 0 rfl)).1 hsm hsm
      have hdl : decide (L = L) = true := by simp
      rw [hdl] at k7
      have z5 : decide ((s2.length : Int) ≤ (bs.length : Int)) = true := by simp; omega
      clear H11 H12 H13
      go_wp2_with (go_at_call 14; go_must (refine (St.callPast k7 H14).mono ?_; rintro e w14 ⟨rfl, H15⟩))
      go_ret
      exact ⟨by simp [j3], H15.below (Nat.le_refl _) (fun _ h => h.elim)⟩
    · obtain rfl : L = [] := hsb hE
      have z3 : decide (eL = 0) = false := by simpa using hE
      have z4 : (eL == 0) = false := by simpa using hE
      have z5 : (eL != 0) = true := by simpa using hE
      clear hsj hsb
      go_wp2
      go_ret
      exact ⟨rfl, H11.below (Nat.le_refl _) (fun _ h => h.elim)⟩

theorem walk (v0 v1 : Value) (w : World) (h0 : RN Try.prog w 23 v0.cells.toList 1048576) (s0 : ∃ a len cap, v0 = .slice a len cap) (h1 : RN Try.prog w 9 v1.cells.toList 1048576) (s1 : ∃ s, v1 = .string s) :
    Calls Try.prog 5 #[v0, v1] w fun e w' => e = .returned (.bool true) ∧ Below w.heap.size w w' := by
  obtain ⟨a, len, cap, rfl⟩ := s0
  obtain ⟨s, rfl⟩ := s1
  obtain ⟨v, l, e, g1, g2, g3⟩ := RN.strs h0
  have e2 : Value.slice a len cap = v := by simpa [Value.cells] using e
  subst e2
  obtain ⟨x, e', hl⟩ := RN.text h1
  have e3 : Value.string s = textV x := by simpa [Value.cells] using e'
  rw [e3]
  exact back_walk w g1 g2 g3 (by omega)

set_option maxRecDepth 100000 in
theorem lifted (os : Os) (started : os.Started) (H : Type) (enc : TypeId × Value → H) (F : Stop.Interp) :
    ReturnsInHanded {} Try.checked os 5 .any ((Rows.OpenSpec.upto Rows.lexBackSpec).pre6 enc Try.prog Try.f5 Rows.lexBackUptoRow.domain false) (((Rows.OpenSpec.upto Rows.lexBackSpec).at F).post enc Try.prog Try.f5 false true false false) := by
  refine returnsInHanded_of_cond (C := Try.checked) (s := (Rows.OpenSpec.upto Rows.lexBackSpec)) (k := Rows.uptoSmall) rfl own started (by kernel_rfl) Try.func5
    (OpenSpec.witness (enc := enc) (C := Try.checked) (s := (Rows.OpenSpec.upto Rows.lexBackSpec)) (k := Rows.uptoSmall) rfl false ⟨#[], #[.slice none 0 0, .string ⟨#[]⟩], []⟩ 8 (by kernel_rfl) (by kernel_rfl) (by kernel_rfl) (x := ([.nil, .lit (.string [])], [], [])) (by kernel_rfl) rfl (by kernel_rfl)) ?_
  intro W base args ds gs before hval0 hW hcnd hk0 _
  have hval : ∀ (j : Nat) t v, Try.f5.params[j]? = some t → args[j]? = some v → Value.okWide Try.prog W .any base t v := hval0
  have hW' := hW
  obtain ⟨p, q, hA0, hV, rfl, hfz, hnd⟩ := hW
  have hA : DataW.TrodAll enc Try.prog W 0 (fun _ => true) true Try.f5.params.toList args.toList ds p := hA0
  rw [Try.params5] at hA hval
  obtain ⟨v0, vs0, d0, ds0, p0, q0, hargs, rfl, rfl, h0, r0⟩ := trodAll_cons hA
  obtain ⟨v1, vs1, d1, ds1, p1, q1, rfl, rfl, rfl, h1, r1⟩ := trodAll_cons r0
  obtain ⟨rfl, rfl, rfl⟩ := trodAll_nil r1
  obtain rfl : args = #[v0, v1] := by cases args; simp_all
  obtain ⟨rfl, rfl⟩ := trodVars_none hV
  have lt0 : ∀ x ∈ p0, x.block < W.heap.size := by obtain ⟨m, hm⟩ := h0; exact DataW.trod_lt m _ _ _ hm
  have w0 : RN Try.prog W 23 v0.cells.toList 1048576 := by
    obtain ⟨m, hm⟩ := h0
    have hb := of_decide_eq_true hk0
    simp only [List.cons_append, List.nil_append, Rows.uptoBulkAll] at hb
    exact ⟨H, enc, _, _, m, _, hm, by simp only; omega⟩
  have s0 : ∃ a len cap, v0 = .slice a len cap := okWide_slice Try.underlying23 (hval 0 23 v0 rfl rfl)
  have lt1 : ∀ x ∈ p1, x.block < W.heap.size := by obtain ⟨m, hm⟩ := h1; exact DataW.trod_lt m _ _ _ hm
  have w1 : RN Try.prog W 9 v1.cells.toList 1048576 := by
    obtain ⟨m, hm⟩ := h1
    have hb := of_decide_eq_true hk0
    simp only [List.cons_append, List.nil_append, Rows.uptoBulkAll] at hb
    exact ⟨H, enc, _, _, m, _, hm, by simp only; omega⟩
  have s1 : ∃ s, v1 = .string s := okWide_string Try.underlying9 (hval 1 9 v1 rfl rfl)
  clear hA0 hval0
  refine (walk v0 v1 W w0 s0 w1 s1).mono fun e W' ⟨he, bel⟩ => ?_
  subst he
  exact ⟨_, rfl, _, _, _, [], _, [], hW', trodAll_mk1 (shut_bool Try.underlying4 _), (trodAll_cons_mk (Below.trod laidOut (by kernel_rfl) (of_decide_eq_true (by kernel_rfl)) h0 bel lt0) (trodAll_cons_mk (Below.trod laidOut (by kernel_rfl) (of_decide_eq_true (by kernel_rfl)) h1 bel lt1) trodAll_mk0)), rfl, bel.frame _, fun h => by cases h⟩

theorem over : Rows.lexBackUptoRow.holds Try.pinned (Rows.OpenSpec.upto Rows.lexBackSpec) :=
  OpenClaim.holds_of_cond 5 Try.f5 rfl rfl rfl rfl rfl rfl rfl ⟨rfl, rfl, rfl, rfl, rfl⟩ rfl rfl rfl rfl rfl (by kernel_rfl) Try.func5 (by kernel_rfl)
    (of_decide_eq_true (by kernel_rfl)) (by unfold Func.isWrapper; first | (rw [if_pos (by decide +kernel)]; kernel_rfl) | (rw [if_neg (by decide +kernel)]; exact ⟨rfl, rfl⟩))
    (fun os started H enc _ F => lifted os started H enc F)

/-- THE STATEMENT -/
theorem proved : Rows.LexBackUptoSaid := over
#print axioms proved
end Go.Proofs.Ytoffcoegghigoaa.lexBack
