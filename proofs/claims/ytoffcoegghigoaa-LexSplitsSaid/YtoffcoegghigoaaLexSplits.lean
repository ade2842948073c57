/- LexSplits returns true at every input, and its arguments read as they did. No condition. -/
import Derived.Test.YtoffcoegghigoaaLexF
import Derived.Test.YtoffcoegghigoaaInM
import Derived.WalkKit
import Derived.ProofKit
import Derived.OpenShut
import Derived.ShutString
import Derived.ChangeOld
import Derived.Below
namespace Go.Proofs.Ytoffcoegghigoaa.lexSplits
open Go.ChangeShapes Go.WideShapes Go.ChangeAt Go.RowKit
open Go.ChangeMaps (open_string shut_string)
set_option linter.unusedVariables false

theorem own : ownKnob Try.prog.godebug = none := by kernel_rfl
theorem laidOut : laidOutB Try.prog = true := by kernel_rfl

theorem split_most (bs : List UInt8) : (lex.splitW bs).1.length ≤ 9223372036854775807 := by
  unfold lex.splitW
  split
  · simp
  · split
    · simp
    · split
      · simp
      · simp only; omega
theorem text_of (s : ByteArray) : Value.string s = textV s.data.toList := by
  cases s
  simp [textV]

set_option maxHeartbeats 1000000 in
set_option maxRecDepth 100000 in
theorem splits_walk (bs : List UInt8) (hbl : bs.length ≤ 9223372036854775807) (w : World) :
    Calls Try.prog 3 #[textV bs] w fun e w' => e = .returned (.bool true) ∧ Below w.heap.size w w' := by
  have hsz := text_size bs
  have k1 := fun w' => lex_split bs hbl w'
  have k2 := fun w' => ref_split bs hbl w'
  unfold textV at k1 k2 ⊢
  go_enter Try.func3, Try.ntmps3
  go_wp2_with fail
  refine (St.callPast (first36 _) (St.nil (fun _ => False) w)).mono ?_
  rintro e w1 ⟨rfl, H1⟩
  by_cases a1 : (5000 : Int) < bs.length
  · have b1 : decide ((5000 : Int) < bs.length) = true := by simpa using a1
    go_wp2
    go_ret
    exact ⟨rfl, H1.below (Nat.le_refl _) (fun _ h => h.elim)⟩
  · have b1 : decide ((5000 : Int) < bs.length) = false := by simpa using a1
    have hsl := split_most bs
    obtain ⟨X, hX⟩ : ∃ X, lex.splitW bs = X := ⟨_, rfl⟩
    rw [hX] at k1 k2 hsl
    clear hX
    obtain ⟨L, er⟩ := X
    simp only at k1 k2 hsl
    go_upto_region 6 with (go_at_call 12; go_must (refine (k1 _).mono ?_; rintro e w2 ⟨v1, rfl, H2⟩))
    have H3 : St (fun _ => False) w w2 [Row 9 1 v1 L.length (texts L)] := H1.call0 H2
    clear H1 H2
    go_upto_region 7 with (go_at_call 13; go_must (refine (k2 _).mono ?_; rintro e w3 ⟨v2, rfl, H4⟩))
    have H5 : St (fun _ => False) w w3 [Row 9 1 v2 L.length (texts L), Row 9 1 v1 L.length (texts L)] := H3.call0 H4
    clear H3 H4
    have ks := ref_same (strs_row (H5.row 1 rfl)).1 (strs_row (H5.row 0 rfl)).1 hsl hsl
    go_wp2_with (go_at_call 14; go_must (refine (St.callPast ks H5).mono ?_; rintro e w4 ⟨rfl, H6⟩))
    go_ret
    exact ⟨by simp, H6.below (Nat.le_refl _) (fun _ h => h.elim)⟩

theorem walk (v0 : Value) (w : World) (h0 : R Try.prog w 9 v0.cells.toList) (s0 : ∃ s, v0 = .string s) :
    Calls Try.prog 3 #[v0] w fun e w' => e = .returned (.bool true) ∧ Below w.heap.size w w' := by
  obtain ⟨s, rfl⟩ := s0
  obtain ⟨s', e, hl⟩ := R.text Try.underlying9 h0
  have e2 : s = s' := by simpa [Value.cells] using e
  subst e2
  rw [text_of]
  have e3 : s.data.toList.length = s.size := Array.length_toList
  have e4 : maxLen = 9223372036854775807 := rfl
  exact splits_walk _ (by omega) w

set_option maxRecDepth 100000 in
theorem lifted (os : Os) (started : os.Started) (H : Type) (enc : TypeId × Value → H) :
    ReturnsInHanded {} Try.checked os 3 .any (Rows.lexSplitsSpec.pre6 enc Try.prog Try.f3 Rows.lexSplitsRow.domain false) (Rows.lexSplitsSpec.post enc Try.prog Try.f3 false true false false) := by
  refine returnsInHanded_of_change (C := Try.checked) own started (by kernel_rfl) Try.func3
    (ChangeSpec.witness6 (enc := enc) (C := Try.checked) false ⟨#[], #[.string ⟨#[]⟩], []⟩ 8 (by kernel_rfl) (by kernel_rfl) (by kernel_rfl) (by kernel_rfl)) ?_
  intro W base args ds gs before hval0 hW hcnd _
  have hval : ∀ (j : Nat) t v, Try.f3.params[j]? = some t → args[j]? = some v → Value.okWide Try.prog W .any base t v := hval0
  have hW' := hW
  obtain ⟨p, q, hA0, hV, rfl, hfz, hnd⟩ := hW
  have hA : DataW.TrodAll enc Try.prog W 0 (fun _ => true) true Try.f3.params.toList args.toList ds p := hA0
  rw [Try.params3] at hA hval
  obtain ⟨v0, vs0, d0, ds0, p0, q0, hargs, rfl, rfl, h0, r0⟩ := trodAll_cons hA
  obtain ⟨rfl, rfl, rfl⟩ := trodAll_nil r0
  obtain rfl : args = #[v0] := by cases args; simp_all
  obtain ⟨rfl, rfl⟩ := trodVars_none hV
  have lt0 : ∀ x ∈ p0, x.block < W.heap.size := by obtain ⟨m, hm⟩ := h0; exact DataW.trod_lt m _ _ _ hm
  have w0 : R Try.prog W 9 v0.cells.toList := by
    obtain ⟨m, hm⟩ := h0
    exact ⟨H, enc, _, _, m, _, hm⟩
  have s0 : ∃ s, v0 = .string s := okWide_string Try.underlying9 (hval 0 9 v0 rfl rfl)
  clear hA0 hval0
  refine (walk v0 W w0 s0).mono fun e W' ⟨he, bel⟩ => ?_
  subst he
  exact ⟨_, rfl, _, _, _, [], _, [], hW', trodAll_mk1 (shut_bool Try.underlying4 _), (trodAll_cons_mk (Below.trod laidOut (by kernel_rfl) (of_decide_eq_true (by kernel_rfl)) h0 bel lt0) trodAll_mk0), rfl, bel.frame _, fun h => by cases h⟩

theorem over : Rows.lexSplitsRow.holds Try.pinned (OpenSpec.ofChange Rows.lexSplitsSpec) :=
  OpenClaim.holds_of_wide 3 Try.f3 rfl rfl rfl rfl rfl rfl rfl ⟨rfl, rfl, rfl, rfl, rfl⟩ rfl rfl rfl rfl rfl (by kernel_rfl) Try.func3 (by kernel_rfl)
    (of_decide_eq_true (by kernel_rfl)) (by unfold Func.isWrapper; first | (rw [if_pos (by decide +kernel)]; kernel_rfl) | (rw [if_neg (by decide +kernel)]; exact ⟨rfl, rfl⟩))
    (fun os started H enc _ => lifted os started H enc)

/-- THE STATEMENT -/
theorem proved : Rows.LexSplitsSaid := over
#print axioms proved
end Go.Proofs.Ytoffcoegghigoaa.lexSplits
