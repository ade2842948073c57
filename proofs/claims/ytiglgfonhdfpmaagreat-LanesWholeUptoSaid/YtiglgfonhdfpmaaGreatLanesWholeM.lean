import Derived.Test.YtiglgfonhdfpmaaGreatLw1
import Derived.Test.YtiglgfonhdfpmaaGreatLw2
import Derived.Test.YtiglgfonhdfpmaaGreatLw3
import Derived.Test.YtiglgfonhdfpmaaGreatLw4
import Derived.Test.YtiglgfonhdfpmaaGreatLw17
import Derived.Test.YtiglgfonhdfpmaaGreatClLanesWhole
import Derived.WalkKit
import Derived.ProofKit
import Derived.OpenShut
import Derived.ShutString
import Derived.ChangeOld
import Derived.Below
import Derived.JoinedCond
import Derived.Deep.CutBlock
import Derived.Lib.ItoaNum
import Derived.Lib.AtoiAll
import Derived.Lib.Split
import Derived.Lib.SplitLaws
import Derived.Lib.IndexLaws
import Derived.Lib.CountLaws
/- LanesWhole returns true at every input whose bulk is at most 1048576 (Rows.uptoSmall), and its arguments read as they did. No other condition. -/
set_option linter.unusedVariables false
set_option linter.unusedSimpArgs false
namespace Go.Proofs.YtiglgfonhdfpmaaGreat.lanesWhole
open Go.ChangeShapes Go.WideShapes Go.ChangeAt Go.RowKit
open Go.ChangeMaps (open_string shut_string)
set_option linter.unusedVariables false

theorem own : ownKnob Tryz.prog.godebug = none := by kernel_rfl
theorem laidOut : laidOutB Tryz.prog = true := by kernel_rfl

theorem qrs_read {w : World} {cs : List Value} {N : Nat} (h : RB Tryz.prog w 72 cs N) : ∃ v l, cs = [v] ∧ encQ.RO w v l ∧ l.length ≤ N := by
  obtain ⟨ao, cap, l, rfl, h1, h2, h3⟩ := RB.list (p := fun cs (q : Qry) => cs = (qyC q).toList) Tryz.underlying72 (size := 6) (by kernel_rfl) (by omega) (fun cs' h => qry_read h.all) h
  refine ⟨_, l, rfl, ⟨ao, cap, rfl, h1, fun hl => ?_⟩, h2⟩
  obtain ⟨b, o, rfl, hb, hc⟩ := h3 hl
  refine ⟨b, o, rfl, hb, fun i x hi => ?_⟩
  obtain ⟨cs', _, g2, rfl⟩ := hc i x hi
  exact g2
theorem walk (v0 v1 : Value) (w : World) (h0 : RB Tryz.prog w 72 v0.cells.toList 1048576) (s0 : ∃ a len cap, v0 = .slice a len cap) (h1 : RB Tryz.prog w 41 v1.cells.toList 1048576) (s1 : ∃ a len cap, v1 = .slice a len cap) :
    Calls Tryz.prog 8 #[v0, v1] w fun e w' => e = .returned (.bool true) ∧ Below w.heap.size w w' := by
  obtain ⟨a0, len0, cap0, rfl⟩ := s0
  obtain ⟨v', qs, e', k1, k2⟩ := qrs_read h0
  have e3 : Value.slice a0 len0 cap0 = v' := by simpa [Value.cells] using e'
  subst e3
  obtain ⟨a, len, cap, rfl⟩ := s1
  obtain ⟨v, l, e, g1, g2, g3⟩ := itms_read (by omega) h1
  have e2 : Value.slice a len cap = v := by simpa [Value.cells] using e
  subst e2
  have hb := wt5_le l g3
  have hm : l.length * (10 + 1048576) ≤ 1048576 * (10 + 1048576) := Nat.mul_le_mul_right _ g2
  exact whole_walk w k1 k2 g1 g2 (by omega)

set_option maxRecDepth 100000 in
theorem lifted (os : Os) (started : os.Started) (H : Type) (enc : TypeId × Value → H) (F : Stop.Interp) :
    ReturnsInHanded {} Tryz.checked os 8 .any ((Rows.OpenSpec.upto Rows.lanesWholeSpec).pre6 enc Tryz.prog Tryz.f8 Rows.lanesWholeUptoRow.domain false) (((Rows.OpenSpec.upto Rows.lanesWholeSpec).at F).post enc Tryz.prog Tryz.f8 false true false false) := by
  refine returnsInHanded_of_cond (C := Tryz.checked) (s := (Rows.OpenSpec.upto Rows.lanesWholeSpec)) (k := Rows.uptoSmall) rfl own started (by kernel_rfl) Tryz.func8
    (OpenSpec.witness (enc := enc) (C := Tryz.checked) (s := (Rows.OpenSpec.upto Rows.lanesWholeSpec)) (k := Rows.uptoSmall) rfl false ⟨#[], #[.slice none 0 0, .slice none 0 0], []⟩ 8 (by kernel_rfl) (by kernel_rfl) (by kernel_rfl) (x := ([.nil, .nil], [], [])) (by kernel_rfl) rfl (by kernel_rfl)) ?_
  intro W base args ds gs before hval0 hW hcnd hk0 _
  have hval : ∀ (j : Nat) t v, Tryz.f8.params[j]? = some t → args[j]? = some v → Value.okWide Tryz.prog W .any base t v := hval0
  have hW' := hW
  obtain ⟨p, q, hA0, hV, rfl, hfz, hnd⟩ := hW
  have hA : DataW.TrodAll enc Tryz.prog W 0 (fun _ => true) true Tryz.f8.params.toList args.toList ds p := hA0
  rw [Tryz.params8] at hA hval
  obtain ⟨v0, vs0, d0, ds0, p0, q0, hargs, rfl, rfl, h0, r0⟩ := trodAll_cons hA
  obtain ⟨v1, vs1, d1, ds1, p1, q1, rfl, rfl, rfl, h1, r1⟩ := trodAll_cons r0
  obtain ⟨rfl, rfl, rfl⟩ := trodAll_nil r1
  obtain rfl : args = #[v0, v1] := by cases args; simp_all
  obtain ⟨rfl, rfl⟩ := trodVars_none hV
  have lt0 : ∀ x ∈ p0, x.block < W.heap.size := by obtain ⟨m, hm⟩ := h0; exact DataW.trod_lt m _ _ _ hm
  have w0 : RB Tryz.prog W 72 v0.cells.toList 1048576 := by
    obtain ⟨m, hm⟩ := h0
    have hb := of_decide_eq_true hk0
    simp only [List.cons_append, List.nil_append, Rows.uptoBulkAll] at hb
    exact ⟨H, enc, _, _, m, _, hm, by simp only; omega⟩
  have s0 : ∃ a len cap, v0 = .slice a len cap := okWide_slice Tryz.underlying72 (hval 0 72 v0 rfl rfl)
  have lt1 : ∀ x ∈ p1, x.block < W.heap.size := by obtain ⟨m, hm⟩ := h1; exact DataW.trod_lt m _ _ _ hm
  have w1 : RB Tryz.prog W 41 v1.cells.toList 1048576 := by
    obtain ⟨m, hm⟩ := h1
    have hb := of_decide_eq_true hk0
    simp only [List.cons_append, List.nil_append, Rows.uptoBulkAll] at hb
    exact ⟨H, enc, _, _, m, _, hm, by simp only; omega⟩
  have s1 : ∃ a len cap, v1 = .slice a len cap := okWide_slice Tryz.underlying41 (hval 1 41 v1 rfl rfl)
  clear hA0 hval0
  refine (walk v0 v1 W w0 s0 w1 s1).mono fun e W' ⟨he, bel⟩ => ?_
  subst he
  exact ⟨_, rfl, _, _, _, [], _, [], hW', trodAll_mk1 (shut_bool Tryz.underlying4 _), (trodAll_cons_mk (Below.trod laidOut (by kernel_rfl) (of_decide_eq_true (by kernel_rfl)) h0 bel lt0) (trodAll_cons_mk (Below.trod laidOut (by kernel_rfl) (of_decide_eq_true (by kernel_rfl)) h1 bel lt1) trodAll_mk0)), rfl, bel.frame _, fun h => by cases h⟩

theorem over : Rows.lanesWholeUptoRow.holds Tryz.pinned (Rows.OpenSpec.upto Rows.lanesWholeSpec) :=
  OpenClaim.holds_of_cond 8 Tryz.f8 rfl rfl rfl rfl rfl rfl rfl ⟨rfl, rfl, rfl, rfl, rfl⟩ rfl rfl rfl rfl rfl (by kernel_rfl) Tryz.func8 (lanesWhole_closed)
    (of_decide_eq_true (by kernel_rfl)) (by unfold Func.isWrapper; first | (rw [if_pos (by decide +kernel)]; kernel_rfl) | (rw [if_neg (by decide +kernel)]; exact ⟨rfl, rfl⟩))
    (fun os started H enc _ F => lifted os started H enc F)

/-- THE STATEMENT -/
theorem proved : Rows.LanesWholeUptoSaid := over
#print axioms proved
end Go.Proofs.YtiglgfonhdfpmaaGreat.lanesWhole
