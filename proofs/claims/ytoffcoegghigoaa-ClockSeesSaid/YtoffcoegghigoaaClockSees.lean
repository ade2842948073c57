/- ClockSees returns true at every input, and its arguments read as they did. No condition. -/
import Derived.Test.YtoffcoegghigoaaClkJ
import Derived.Test.YtoffcoegghigoaaInM
import Derived.WalkKit
import Derived.ProofKit
import Derived.OpenShut
import Derived.ShutString
import Derived.ChangeOld
import Derived.Below
namespace Go.Proofs.Ytoffcoegghigoaa.clockSees
open Go.ChangeShapes Go.WideShapes Go.ChangeAt Go.RowKit
open Go.ChangeMaps (open_string shut_string)
set_option linter.unusedVariables false

theorem own : ownKnob Try.prog.godebug = none := by kernel_rfl
theorem laidOut : laidOutB Try.prog = true := by kernel_rfl

theorem int_read {w : World} {v : Value} (h : R Try.prog w 3 v.cells.toList) (hs : ∃ n, v = .int .i64 n) : ∃ n : Int, v = .int .i64 n ∧ (-9223372036854775808 ≤ n ∧ n ≤ 9223372036854775807) := by
  obtain ⟨n, rfl⟩ := hs
  obtain ⟨n0, e0, g0⟩ := R.int Try.underlying3 h
  simp only [Value.cells, List.cons.injEq, and_true, Value.int.injEq, true_and] at e0
  subst e0
  simp only [Lit.wf, Bool.and_eq_true, decide_eq_true_eq] at g0
  exact ⟨n, rfl, by simp [IntKind.min, IntKind.max, IntKind.signed, IntKind.bits] at g0; exact g0⟩
theorem ints_read {w : World} {v : Value} (h : R Try.prog w 44 v.cells.toList) (hs : ∃ a len cap, v = .slice a len cap) : ∃ l, IntsRO w v l ∧ l.length ≤ 9223372036854775807 := by
  obtain ⟨a, len, cap, rfl⟩ := hs
  obtain ⟨ao, cap', l, e, h1, h2, h3⟩ := R.list (p := fun cs (x : Int) => cs = [.int .i64 x] ∧ (-9223372036854775808 ≤ x ∧ x ≤ 9223372036854775807)) Try.underlying44 (by kernel_rfl) (size := 1) (by omega) (fun cs' h => by
    obtain ⟨n, rfl, g0⟩ := R.int Try.underlying3 h
    simp only [Lit.wf, Bool.and_eq_true, decide_eq_true_eq] at g0
    exact ⟨n, rfl, by simp [IntKind.min, IntKind.max, IntKind.signed, IntKind.bits] at g0; exact g0⟩) h
  have e2 : Value.slice a len cap = .slice ao l.length cap' := by simpa [Value.cells] using e
  rw [e2]
  refine ⟨l, ⟨ao, cap', rfl, h1, fun x hx => ?_, fun hl => ?_⟩, h2⟩
  · obtain ⟨b, o, rfl, hb, hc⟩ := h3 (by rintro rfl; cases hx)
    obtain ⟨i, hi⟩ := List.getElem?_of_mem hx
    obtain ⟨cs', _, _, _, g⟩ := hc i x hi
    exact g
  · obtain ⟨b, o, rfl, hb, hc⟩ := h3 hl
    refine ⟨b, o, rfl, hb, fun i x hi => ?_⟩
    obtain ⟨cs', _, g2, rfl, _⟩ := hc i x hi
    have := g2 0 _ rfl
    simpa using this

theorem walk (v0 v1 v2 : Value) (w : World) (h0 : R Try.prog w 3 v0.cells.toList) (s0 : ∃ n, v0 = .int .i64 n) (h1 : R Try.prog w 3 v1.cells.toList) (s1 : ∃ n, v1 = .int .i64 n)
    (h2 : R Try.prog w 44 v2.cells.toList) (s2 : ∃ a len cap, v2 = .slice a len cap) :
    Calls Try.prog 9 #[v0, v1, v2] w fun e w' => e = .returned (.bool true) ∧ Below w.heap.size w w' := by
  obtain ⟨slack, rfl, b0⟩ := int_read h0 s0
  obtain ⟨step, rfl, b1⟩ := int_read h1 s1
  obtain ⟨l, hl, hll⟩ := ints_read h2 s2
  exact sees_walk w ⟨b0, b1⟩ hl hll

set_option maxRecDepth 100000 in
theorem lifted (os : Os) (started : os.Started) (H : Type) (enc : TypeId × Value → H) :
    ReturnsInHanded {} Try.checked os 9 .any (Rows.clockSeesSpec.pre6 enc Try.prog Try.f9 Rows.clockSeesRow.domain false) (Rows.clockSeesSpec.post enc Try.prog Try.f9 false true false false) := by
  refine returnsInHanded_of_change (C := Try.checked) own started (by kernel_rfl) Try.func9
    (ChangeSpec.witness6 (enc := enc) (C := Try.checked) false ⟨#[], #[.int .i64 0, .int .i64 0, .slice none 0 0], []⟩ 8 (by kernel_rfl) (by kernel_rfl) (by kernel_rfl) (by kernel_rfl)) ?_
  intro W base args ds gs before hval0 hW hcnd _
  have hval : ∀ (j : Nat) t v, Try.f9.params[j]? = some t → args[j]? = some v → Value.okWide Try.prog W .any base t v := hval0
  have hW' := hW
  obtain ⟨p, q, hA0, hV, rfl, hfz, hnd⟩ := hW
  have hA : DataW.TrodAll enc Try.prog W 0 (fun _ => true) true Try.f9.params.toList args.toList ds p := hA0
  rw [Try.params9] at hA hval
  obtain ⟨v0, vs0, d0, ds0, p0, q0, hargs, rfl, rfl, h0, r0⟩ := trodAll_cons hA
  obtain ⟨v1, vs1, d1, ds1, p1, q1, rfl, rfl, rfl, h1, r1⟩ := trodAll_cons r0
  obtain ⟨v2, vs2, d2, ds2, p2, q2, rfl, rfl, rfl, h2, r2⟩ := trodAll_cons r1
  obtain ⟨rfl, rfl, rfl⟩ := trodAll_nil r2
  obtain rfl : args = #[v0, v1, v2] := by cases args; simp_all
  obtain ⟨rfl, rfl⟩ := trodVars_none hV
  have lt0 : ∀ x ∈ p0, x.block < W.heap.size := by obtain ⟨m, hm⟩ := h0; exact DataW.trod_lt m _ _ _ hm
  have w0 : R Try.prog W 3 v0.cells.toList := by
    obtain ⟨m, hm⟩ := h0
    exact ⟨H, enc, _, _, m, _, hm⟩
  have s0 : ∃ n, v0 = .int .i64 n := okWide_int Try.underlying3 (hval 0 3 v0 rfl rfl)
  have lt1 : ∀ x ∈ p1, x.block < W.heap.size := by obtain ⟨m, hm⟩ := h1; exact DataW.trod_lt m _ _ _ hm
  have w1 : R Try.prog W 3 v1.cells.toList := by
    obtain ⟨m, hm⟩ := h1
    exact ⟨H, enc, _, _, m, _, hm⟩
  have s1 : ∃ n, v1 = .int .i64 n := okWide_int Try.underlying3 (hval 1 3 v1 rfl rfl)
  have lt2 : ∀ x ∈ p2, x.block < W.heap.size := by obtain ⟨m, hm⟩ := h2; exact DataW.trod_lt m _ _ _ hm
  have w2 : R Try.prog W 44 v2.cells.toList := by
    obtain ⟨m, hm⟩ := h2
    exact ⟨H, enc, _, _, m, _, hm⟩
  have s2 : ∃ a len cap, v2 = .slice a len cap := okWide_slice Try.underlying44 (hval 2 44 v2 rfl rfl)
  clear hA0 hval0
  refine (walk v0 v1 v2 W w0 s0 w1 s1 w2 s2).mono fun e W' ⟨he, bel⟩ => ?_
  subst he
  exact ⟨_, rfl, _, _, _, [], _, [], hW', trodAll_mk1 (shut_bool Try.underlying4 _), (trodAll_cons_mk (Below.trod laidOut (by kernel_rfl) (of_decide_eq_true (by kernel_rfl)) h0 bel lt0) (trodAll_cons_mk (Below.trod laidOut (by kernel_rfl) (of_decide_eq_true (by kernel_rfl)) h1 bel lt1) (trodAll_cons_mk (Below.trod laidOut (by kernel_rfl) (of_decide_eq_true (by kernel_rfl)) h2 bel lt2) trodAll_mk0))), rfl, bel.frame _, fun h => by cases h⟩

theorem over : Rows.clockSeesRow.holds Try.pinned (OpenSpec.ofChange Rows.clockSeesSpec) :=
  OpenClaim.holds_of_wide 9 Try.f9 rfl rfl rfl rfl rfl rfl rfl ⟨rfl, rfl, rfl, rfl, rfl⟩ rfl rfl rfl rfl rfl (by kernel_rfl) Try.func9 (by kernel_rfl)
    (of_decide_eq_true (by kernel_rfl)) (by unfold Func.isWrapper; first | (rw [if_pos (by decide +kernel)]; kernel_rfl) | (rw [if_neg (by decide +kernel)]; exact ⟨rfl, rfl⟩))
    (fun os started H enc _ => lifted os started H enc)

/-- THE STATEMENT -/
theorem proved : Rows.ClockSeesSaid := over
#print axioms proved
end Go.Proofs.Ytoffcoegghigoaa.clockSees
