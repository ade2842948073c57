import Derived.Test.YtiglgfonhdfpmaaGreatOr23
import Derived.Test.YtiglgfonhdfpmaaGreatClOperRuns
import Derived.ShutString
import Derived.ChangeOld
import Derived.Below
import Derived.JoinedCond
/- OperRuns returns true at every input whose bulk is at most 1048576 (Rows.uptoSmall), and its arguments read as they did. No other condition. -/
set_option linter.unusedVariables false
set_option linter.unusedSimpArgs false
namespace Go.Proofs.YtiglgfonhdfpmaaGreat.operRuns
open Go.ChangeShapes Go.WideShapes Go.ChangeAt Go.RowKit
open Go.ChangeMaps (open_string shut_string)
set_option linter.unusedVariables false
theorem own : ownKnob Tryz.prog.godebug = none := by kernel_rfl
theorem laidOut : laidOutB Tryz.prog = true := by kernel_rfl
theorem walk (v0 v1 : Value) (w : World) (h0 : RB Tryz.prog w 23 v0.cells.toList 1048576) (s0 : ∃ cs, v0 = .agg cs) (h1 : RB Tryz.prog w 41 v1.cells.toList 1048576) (s1 : ∃ a len cap, v1 = .slice a len cap) :
    Calls Tryz.prog 4 #[v0, v1] w fun e w' => e = .returned (.bool true) ∧ Below w.heap.size w w' := by
 obtain ⟨q, rfl⟩ := qry_agg h0.all s0; obtain ⟨a, len, cap, rfl⟩ := s1; obtain ⟨v, l, e, g1, g2, g3⟩ := itms_read (by omega) h1
 have e2 : Value.slice a len cap = v := by simpa [Value.cells] using e
 subst e2; have hb := wt5_le l g3; have hm : l.length * (10 + 1048576) ≤ 1048576 * (10 + 1048576) := Nat.mul_le_mul_right _ g2; exact runs_walk q l w g1 g2 (by omega)
set_option maxRecDepth 100000 in
theorem lifted (os : Os) (started : os.Started) (H : Type) (enc : TypeId × Value → H) (F : Stop.Interp) :
    ReturnsInHanded {} Tryz.checked os 4 .any ((Rows.OpenSpec.upto Rows.operRunsSpec).pre6 enc Tryz.prog Tryz.f4 Rows.operRunsUptoRow.domain false) (((Rows.OpenSpec.upto Rows.operRunsSpec).at F).post enc Tryz.prog Tryz.f4 false true false false) := by
 refine returnsInHanded_of_cond (C := Tryz.checked) (s := (Rows.OpenSpec.upto Rows.operRunsSpec)) (k := Rows.uptoSmall) rfl own started (by kernel_rfl) Tryz.func4
  (OpenSpec.witness (enc := enc) (C := Tryz.checked) (s := (Rows.OpenSpec.upto Rows.operRunsSpec)) (k := Rows.uptoSmall) rfl false ⟨#[], #[.agg #[.int .i64 0, .int .i64 0, .int .i64 0, .int .i64 0, .int .i64 0, .int .i64 0], .slice none 0 0], []⟩ 8 (by kernel_rfl) (by kernel_rfl) (by kernel_rfl) (x := ([.agg [.lit (.int .i64 0), .lit (.int .i64 0), .lit (.int .i64 0), .lit (.int .i64 0), .lit (.int .i64 0), .lit (.int .i64 0)], .nil], [], [])) (by kernel_rfl) rfl (by kernel_rfl)) ?_
 intro W base args ds gs before hval0 hW hcnd hk0 _; have hval : ∀ (j : Nat) t v, Tryz.f4.params[j]? = some t → args[j]? = some v → Value.okWide Tryz.prog W .any base t v := hval0; have hW' := hW; obtain ⟨p, q, hA0, hV, rfl, hfz, hnd⟩ := hW; have hA : DataW.TrodAll enc Tryz.prog W 0 (fun _ => true) true Tryz.f4.params.toList args.toList ds p := hA0
 rw [Tryz.params4] at hA hval; obtain ⟨v0, vs0, d0, ds0, p0, q0, hargs, rfl, rfl, h0, r0⟩ := trodAll_cons hA; obtain ⟨v1, vs1, d1, ds1, p1, q1, rfl, rfl, rfl, h1, r1⟩ := trodAll_cons r0; obtain ⟨rfl, rfl, rfl⟩ := trodAll_nil r1; obtain rfl : args = #[v0, v1] := by cases args; simp_all
 obtain ⟨rfl, rfl⟩ := trodVars_none hV; have lt0 : ∀ x ∈ p0, x.block < W.heap.size := by obtain ⟨m, hm⟩ := h0; exact DataW.trod_lt m _ _ _ hm
 have w0 : RB Tryz.prog W 23 v0.cells.toList 1048576 := by
  obtain ⟨m, hm⟩ := h0; have hb := of_decide_eq_true hk0; simp only [List.cons_append, List.nil_append, Rows.uptoBulkAll] at hb; exact ⟨H, enc, _, _, m, _, hm, by simp only; omega⟩
 have s0 : ∃ cs, v0 = .agg cs := by
  obtain ⟨cs, h, _⟩ := okWide_struct Tryz.underlying23 (hval 0 23 v0 rfl rfl); exact ⟨cs, h⟩
 have lt1 : ∀ x ∈ p1, x.block < W.heap.size := by obtain ⟨m, hm⟩ := h1; exact DataW.trod_lt m _ _ _ hm
 have w1 : RB Tryz.prog W 41 v1.cells.toList 1048576 := by
  obtain ⟨m, hm⟩ := h1; have hb := of_decide_eq_true hk0; simp only [List.cons_append, List.nil_append, Rows.uptoBulkAll] at hb; exact ⟨H, enc, _, _, m, _, hm, by simp only; omega⟩
 have s1 : ∃ a len cap, v1 = .slice a len cap := okWide_slice Tryz.underlying41 (hval 1 41 v1 rfl rfl); clear hA0 hval0; refine (walk v0 v1 W w0 s0 w1 s1).mono fun e W' ⟨he, bel⟩ => ?_
 subst he; exact ⟨_, rfl, _, _, _, [], _, [], hW', trodAll_mk1 (shut_bool Tryz.underlying4 _), (trodAll_cons_mk (Below.trod laidOut (by kernel_rfl) (of_decide_eq_true (by kernel_rfl)) h0 bel lt0) (trodAll_cons_mk (Below.trod laidOut (by kernel_rfl) (of_decide_eq_true (by kernel_rfl)) h1 bel lt1) trodAll_mk0)), rfl, bel.frame _, fun h => by cases h⟩
theorem over : Rows.operRunsUptoRow.holds Tryz.pinned (Rows.OpenSpec.upto Rows.operRunsSpec) :=
 OpenClaim.holds_of_cond 4 Tryz.f4 rfl rfl rfl rfl rfl rfl rfl ⟨rfl, rfl, rfl, rfl, rfl⟩ rfl rfl rfl rfl rfl (by kernel_rfl) Tryz.func4 (operRuns_closed)
  (of_decide_eq_true (by kernel_rfl)) (by unfold Func.isWrapper; first | (rw [if_pos (by decide +kernel)]; kernel_rfl) | (rw [if_neg (by decide +kernel)]; exact ⟨rfl, rfl⟩))
  (fun os started H enc _ F => lifted os started H enc F)
theorem proved : Rows.OperRunsUptoSaid := over
#print axioms proved
end Go.Proofs.YtiglgfonhdfpmaaGreat.operRuns
