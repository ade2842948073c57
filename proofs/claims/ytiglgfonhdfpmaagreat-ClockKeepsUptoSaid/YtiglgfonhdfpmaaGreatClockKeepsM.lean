import Derived.Test.YtiglgfonhdfpmaaGreatCk1
import Derived.Test.YtiglgfonhdfpmaaGreatCk2
import Derived.Test.YtiglgfonhdfpmaaGreatCk3
import Derived.Test.YtiglgfonhdfpmaaGreatCk4
import Derived.Test.YtiglgfonhdfpmaaGreatCk5
import Derived.Test.YtiglgfonhdfpmaaGreatCk16
import Derived.Test.YtiglgfonhdfpmaaGreatClClockKeeps
import Derived.WalkKit
import Derived.ProofKit
import Derived.OpenShut
import Derived.ShutString
import Derived.ChangeOld
import Derived.Below
import Derived.JoinedCond
import Derived.Deep.CutBlock
import Derived.Lib.ItoaNum
import Derived.Lib.AtoiAll
import Derived.Lib.Split
import Derived.Lib.SplitLaws
import Derived.Lib.IndexLaws
import Derived.Lib.CountLaws
/- ClockKeeps returns true at every input whose bulk is at most 1048576 (Rows.uptoSmall), and its arguments read as they did. No other condition. -/
set_option linter.unusedVariables false
set_option linter.unusedSimpArgs false
namespace Go.Proofs.YtiglgfonhdfpmaaGreat.clockKeeps
open Go.ChangeShapes Go.WideShapes Go.ChangeAt Go.RowKit
open Go.ChangeMaps (open_string shut_string)
set_option linter.unusedVariables false

theorem own : ownKnob Tryz.prog.godebug = none := by kernel_rfl
theorem laidOut : laidOutB Tryz.prog = true := by kernel_rfl

theorem walk (v0 v1 v2 : Value) (w : World) (h0 : RB Tryz.prog w 23 v0.cells.toList 1048576) (s0 : ∃ cs, v0 = .agg cs) (h1 : RB Tryz.prog w 3 v1.cells.toList 1048576) (s1 : ∃ n, v1 = .int .i64 n)
    (h2 : RB Tryz.prog w 41 v2.cells.toList 1048576) (s2 : ∃ a len cap, v2 = .slice a len cap) :
    Calls Tryz.prog 9 #[v0, v1, v2] w fun e w' => e = .returned (.bool true) ∧ Below w.heap.size w w' := by
  obtain ⟨q, rfl⟩ := qry_agg h0.all s0
  obtain ⟨n, rfl⟩ := s1
  obtain ⟨n', e', hw⟩ := h1.int Tryz.underlying3
  simp only [Value.cells, List.cons.injEq, and_true, Value.int.injEq, true_and] at e'
  subst e'
  simp only [Lit.wf, Bool.and_eq_true, decide_eq_true_eq] at hw
  have hn : -9223372036854775808 ≤ n ∧ n ≤ 9223372036854775807 := by simp [IntKind.min, IntKind.max, IntKind.signed, IntKind.bits] at hw; exact hw
  obtain ⟨a, len, cap, rfl⟩ := s2
  obtain ⟨v, l, e, g1, g2, g3⟩ := itms_read (by omega) h2
  have e2 : Value.slice a len cap = v := by simpa [Value.cells] using e
  subst e2
  have hb := wt5_le l g3
  have hm : l.length * (10 + 1048576) ≤ 1048576 * (10 + 1048576) := Nat.mul_le_mul_right _ g2
  exact keeps_walk q n hn l w g1 g2 (by omega)

set_option maxRecDepth 100000 in
theorem lifted (os : Os) (started : os.Started) (H : Type) (enc : TypeId × Value → H) (F : Stop.Interp) :
    ReturnsInHanded {} Tryz.checked os 9 .any ((Rows.OpenSpec.upto Rows.clockKeepsSpec).pre6 enc Tryz.prog Tryz.f9 Rows.clockKeepsUptoRow.domain false) (((Rows.OpenSpec.upto Rows.clockKeepsSpec).at F).post enc Tryz.prog Tryz.f9 false true false false) := by
  refine returnsInHanded_of_cond (C := Tryz.checked) (s := (Rows.OpenSpec.upto Rows.clockKeepsSpec)) (k := Rows.uptoSmall) rfl own started (by kernel_rfl) Tryz.func9
    (OpenSpec.witness (enc := enc) (C := Tryz.checked) (s := (Rows.OpenSpec.upto Rows.clockKeepsSpec)) (k := Rows.uptoSmall) rfl false ⟨#[], #[.agg #[.int .i64 0, .int .i64 0, .int .i64 0, .int .i64 0, .int .i64 0, .int .i64 0], .int .i64 0, .slice none 0 0], []⟩ 8 (by kernel_rfl) (by kernel_rfl) (by kernel_rfl) (x := ([.agg [.lit (.int .i64 0), .lit (.int .i64 0), .lit (.int .i64 0), .lit (.int .i64 0), .lit (.int .i64 0), .lit (.int .i64 0)], .lit (.int .i64 0), .nil], [], [])) (by kernel_rfl) rfl (by kernel_rfl)) ?_
  intro W base args ds gs before hval0 hW hcnd hk0 _
  have hval : ∀ (j : Nat) t v, Tryz.f9.params[j]? = some t → args[j]? = some v → Value.okWide Tryz.prog W .any base t v := hval0
  have hW' := hW
  obtain ⟨p, q, hA0, hV, rfl, hfz, hnd⟩ := hW
  have hA : DataW.TrodAll enc Tryz.prog W 0 (fun _ => true) true Tryz.f9.params.toList args.toList ds p := hA0
  rw [Tryz.params9] at hA hval
  obtain ⟨v0, vs0, d0, ds0, p0, q0, hargs, rfl, rfl, h0, r0⟩ := trodAll_cons hA
  obtain ⟨v1, vs1, d1, ds1, p1, q1, rfl, rfl, rfl, h1, r1⟩ := trodAll_cons r0
  obtain ⟨v2, vs2, d2, ds2, p2, q2, rfl, rfl, rfl, h2, r2⟩ := trodAll_cons r1
  obtain ⟨rfl, rfl, rfl⟩ := trodAll_nil r2
  obtain rfl : args = #[v0, v1, v2] := by cases args; simp_all
  obtain ⟨rfl, rfl⟩ := trodVars_none hV
  have lt0 : ∀ x ∈ p0, x.block < W.heap.size := by obtain ⟨m, hm⟩ := h0; exact DataW.trod_lt m _ _ _ hm
  have w0 : RB Tryz.prog W 23 v0.cells.toList 1048576 := by
    obtain ⟨m, hm⟩ := h0
    have hb := of_decide_eq_true hk0
    simp only [List.cons_append, List.nil_append, Rows.uptoBulkAll] at hb
    exact ⟨H, enc, _, _, m, _, hm, by simp only; omega⟩
  have s0 : ∃ cs, v0 = .agg cs := by
    obtain ⟨cs, h, _⟩ := okWide_struct Tryz.underlying23 (hval 0 23 v0 rfl rfl)
    exact ⟨cs, h⟩
  have lt1 : ∀ x ∈ p1, x.block < W.heap.size := by obtain ⟨m, hm⟩ := h1; exact DataW.trod_lt m _ _ _ hm
  have w1 : RB Tryz.prog W 3 v1.cells.toList 1048576 := by
    obtain ⟨m, hm⟩ := h1
    have hb := of_decide_eq_true hk0
    simp only [List.cons_append, List.nil_append, Rows.uptoBulkAll] at hb
    exact ⟨H, enc, _, _, m, _, hm, by simp only; omega⟩
  have s1 : ∃ n, v1 = .int .i64 n := okWide_int Tryz.underlying3 (hval 1 3 v1 rfl rfl)
  have lt2 : ∀ x ∈ p2, x.block < W.heap.size := by obtain ⟨m, hm⟩ := h2; exact DataW.trod_lt m _ _ _ hm
  have w2 : RB Tryz.prog W 41 v2.cells.toList 1048576 := by
    obtain ⟨m, hm⟩ := h2
    have hb := of_decide_eq_true hk0
    simp only [List.cons_append, List.nil_append, Rows.uptoBulkAll] at hb
    exact ⟨H, enc, _, _, m, _, hm, by simp only; omega⟩
  have s2 : ∃ a len cap, v2 = .slice a len cap := okWide_slice Tryz.underlying41 (hval 2 41 v2 rfl rfl)
  clear hA0 hval0
  refine (walk v0 v1 v2 W w0 s0 w1 s1 w2 s2).mono fun e W' ⟨he, bel⟩ => ?_
  subst he
  exact ⟨_, rfl, _, _, _, [], _, [], hW', trodAll_mk1 (shut_bool Tryz.underlying4 _), (trodAll_cons_mk (Below.trod laidOut (by kernel_rfl) (of_decide_eq_true (by kernel_rfl)) h0 bel lt0) (trodAll_cons_mk (Below.trod laidOut (by kernel_rfl) (of_decide_eq_true (by kernel_rfl)) h1 bel lt1) (trodAll_cons_mk (Below.trod laidOut (by kernel_rfl) (of_decide_eq_true (by kernel_rfl)) h2 bel lt2) trodAll_mk0))), rfl, bel.frame _, fun h => by cases h⟩

theorem over : Rows.clockKeepsUptoRow.holds Tryz.pinned (Rows.OpenSpec.upto Rows.clockKeepsSpec) :=
  OpenClaim.holds_of_cond 9 Tryz.f9 rfl rfl rfl rfl rfl rfl rfl ⟨rfl, rfl, rfl, rfl, rfl⟩ rfl rfl rfl rfl rfl (by kernel_rfl) Tryz.func9 (clockKeeps_closed)
    (of_decide_eq_true (by kernel_rfl)) (by unfold Func.isWrapper; first | (rw [if_pos (by decide +kernel)]; kernel_rfl) | (rw [if_neg (by decide +kernel)]; exact ⟨rfl, rfl⟩))
    (fun os started H enc _ F => lifted os started H enc F)

/-- THE STATEMENT -/
theorem proved : Rows.ClockKeepsUptoSaid := over
#print axioms proved
end Go.Proofs.YtiglgfonhdfpmaaGreat.clockKeeps
