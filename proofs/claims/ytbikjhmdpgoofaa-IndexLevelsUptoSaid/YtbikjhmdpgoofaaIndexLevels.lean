/- IndexLevels returns true at every input whose bulk is at most 1048576 (Rows.uptoSmall), and its arguments read as they did. No other condition. -/
import Derived.Test.YtbikjhmdpgoofaaIdxUp
import Derived.Test.YtbikjhmdpgoofaaIdxX
import Derived.WalkKit
import Derived.ProofKit
import Derived.OpenShut
import Derived.ShutString
import Derived.ChangeOld
import Derived.Below
import Derived.JoinedCond
namespace Go.Proofs.Ytbikjhmdpgoofaa.indexLevels
open Go.ChangeShapes Go.WideShapes Go.ChangeAt Go.RowKit
open Go.ChangeMaps (open_string shut_string)
set_option linter.unusedVariables false

theorem own : ownKnob Try.prog.godebug = none := by kernel_rfl
theorem laidOut : laidOutB Try.prog = true := by kernel_rfl

theorem walk (v0 v1 v2 : Value) (w : World) (h0 : RB Try.prog w 3 v0.cells.toList 1048576) (s0 : ∃ n, v0 = .int .i64 n) (h1 : RB Try.prog w 60 v1.cells.toList 1048576) (s1 : ∃ a len cap, v1 = .slice a len cap)
    (h2 : RB Try.prog w 61 v2.cells.toList 1048576) (s2 : ∃ cs, v2 = .agg cs) :
    Calls Try.prog 5 #[v0, v1, v2] w fun e w' => e = .returned (.bool true) ∧ Below w.heap.size w w' := by
  obtain ⟨n, rfl⟩ := s0
  obtain ⟨a, len, cap, rfl⟩ := s1
  obtain ⟨v, l, e, g1, g2, g3⟩ := rcds_read (by omega) h1
  have e2 : Value.slice a len cap = v := by simpa [Value.cells] using e
  subst e2
  obtain ⟨t0, t1, rfl, _, _⟩ := pair_read h2.all s2
  exact levels_walk n t0 t1 w g1 g3 (by omega)

set_option maxRecDepth 100000 in
theorem lifted (os : Os) (started : os.Started) (H : Type) (enc : TypeId × Value → H) (F : Stop.Interp) :
    ReturnsInHanded {} Try.checked os 5 .any ((Rows.OpenSpec.upto Rows.indexLevelsSpec).pre6 enc Try.prog Try.f5 Rows.indexLevelsUptoRow.domain false) (((Rows.OpenSpec.upto Rows.indexLevelsSpec).at F).post enc Try.prog Try.f5 false true false false) := by
  refine returnsInHanded_of_cond (C := Try.checked) (s := (Rows.OpenSpec.upto Rows.indexLevelsSpec)) (k := Rows.uptoSmall) rfl own started (by kernel_rfl) Try.func5
    (OpenSpec.witness (enc := enc) (C := Try.checked) (s := (Rows.OpenSpec.upto Rows.indexLevelsSpec)) (k := Rows.uptoSmall) rfl false ⟨#[], #[.int .i64 0, .slice none 0 0, .agg #[.int .i64 0, .int .i64 0]], []⟩ 8 (by kernel_rfl) (by kernel_rfl) (by kernel_rfl) (x := ([.lit (.int .i64 0), .nil, .agg [.lit (.int .i64 0), .lit (.int .i64 0)]], [], [])) (by kernel_rfl) rfl (by kernel_rfl)) ?_
  intro W base args ds gs before hval0 hW hcnd hk0 _
  have hval : ∀ (j : Nat) t v, Try.f5.params[j]? = some t → args[j]? = some v → Value.okWide Try.prog W .any base t v := hval0
  have hW' := hW
  obtain ⟨p, q, hA0, hV, rfl, hfz, hnd⟩ := hW
  have hA : DataW.TrodAll enc Try.prog W 0 (fun _ => true) true Try.f5.params.toList args.toList ds p := hA0
  rw [Try.params5] at hA hval
  obtain ⟨v0, vs0, d0, ds0, p0, q0, hargs, rfl, rfl, h0, r0⟩ := trodAll_cons hA
  obtain ⟨v1, vs1, d1, ds1, p1, q1, rfl, rfl, rfl, h1, r1⟩ := trodAll_cons r0
  obtain ⟨v2, vs2, d2, ds2, p2, q2, rfl, rfl, rfl, h2, r2⟩ := trodAll_cons r1
  obtain ⟨rfl, rfl, rfl⟩ := trodAll_nil r2
  obtain rfl : args = #[v0, v1, v2] := by cases args; simp_all
  obtain ⟨rfl, rfl⟩ := trodVars_none hV
  have lt0 : ∀ x ∈ p0, x.block < W.heap.size := by obtain ⟨m, hm⟩ := h0; exact DataW.trod_lt m _ _ _ hm
  have w0 : RB Try.prog W 3 v0.cells.toList 1048576 := by
    obtain ⟨m, hm⟩ := h0
    have hb := of_decide_eq_true hk0
    simp only [List.cons_append, List.nil_append, Rows.uptoBulkAll] at hb
    exact ⟨H, enc, _, _, m, _, hm, by simp only; omega⟩
  have s0 : ∃ n, v0 = .int .i64 n := okWide_int Try.underlying3 (hval 0 3 v0 rfl rfl)
  have lt1 : ∀ x ∈ p1, x.block < W.heap.size := by obtain ⟨m, hm⟩ := h1; exact DataW.trod_lt m _ _ _ hm
  have w1 : RB Try.prog W 60 v1.cells.toList 1048576 := by
    obtain ⟨m, hm⟩ := h1
    have hb := of_decide_eq_true hk0
    simp only [List.cons_append, List.nil_append, Rows.uptoBulkAll] at hb
    exact ⟨H, enc, _, _, m, _, hm, by simp only; omega⟩
  have s1 : ∃ a len cap, v1 = .slice a len cap := okWide_slice Try.underlying60 (hval 1 60 v1 rfl rfl)
  have lt2 : ∀ x ∈ p2, x.block < W.heap.size := by obtain ⟨m, hm⟩ := h2; exact DataW.trod_lt m _ _ _ hm
  have w2 : RB Try.prog W 61 v2.cells.toList 1048576 := by
    obtain ⟨m, hm⟩ := h2
    have hb := of_decide_eq_true hk0
    simp only [List.cons_append, List.nil_append, Rows.uptoBulkAll] at hb
    exact ⟨H, enc, _, _, m, _, hm, by simp only; omega⟩
  have s2 : ∃ cs, v2 = .agg cs := by
    obtain ⟨cs, h, _⟩ := okWide_row Try.underlying61 (hval 2 61 v2 rfl rfl)
    exact ⟨cs, h⟩
  clear hA0 hval0
  refine (walk v0 v1 v2 W w0 s0 w1 s1 w2 s2).mono fun e W' ⟨he, bel⟩ => ?_
  subst he
  exact ⟨_, rfl, _, _, _, [], _, [], hW', trodAll_mk1 (shut_bool Try.underlying4 _), (trodAll_cons_mk (Below.trod laidOut (by kernel_rfl) (of_decide_eq_true (by kernel_rfl)) h0 bel lt0) (trodAll_cons_mk (Below.trod laidOut (by kernel_rfl) (of_decide_eq_true (by kernel_rfl)) h1 bel lt1) (trodAll_cons_mk (Below.trod laidOut (by kernel_rfl) (of_decide_eq_true (by kernel_rfl)) h2 bel lt2) trodAll_mk0))), rfl, bel.frame _, fun h => by cases h⟩

theorem over : Rows.indexLevelsUptoRow.holds Try.pinned (Rows.OpenSpec.upto Rows.indexLevelsSpec) :=
  OpenClaim.holds_of_cond 5 Try.f5 rfl rfl rfl rfl rfl rfl rfl ⟨rfl, rfl, rfl, rfl, rfl⟩ rfl rfl rfl rfl rfl (by kernel_rfl) Try.func5 (by kernel_rfl)
    (of_decide_eq_true (by kernel_rfl)) (by unfold Func.isWrapper; first | (rw [if_pos (by decide +kernel)]; kernel_rfl) | (rw [if_neg (by decide +kernel)]; exact ⟨rfl, rfl⟩))
    (fun os started H enc _ F => lifted os started H enc F)

/-- THE STATEMENT -/
theorem proved : Rows.IndexLevelsUptoSaid := over
#print axioms proved
end Go.Proofs.Ytbikjhmdpgoofaa.indexLevels
