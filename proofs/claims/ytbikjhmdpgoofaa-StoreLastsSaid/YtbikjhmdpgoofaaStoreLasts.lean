/- StoreLasts returns true at every input, and its arguments read as they did. No condition. The frame follows the kit's proof-skeleton as it stands in MeterPlays. -/
import Derived.Test.YtbikjhmdpgoofaaLastW
import Derived.Test.YtbikjhmdpgoofaaInM
import Derived.WalkKit
import Derived.ProofKit
import Derived.OpenShut
import Derived.ShutString
import Derived.ChangeOld
import Derived.Below
namespace Go.Proofs.Ytbikjhmdpgoofaa.storeLasts
open Go.ChangeShapes Go.WideShapes Go.ChangeAt Go.RowKit
open Go.ChangeMaps (open_string shut_string)
set_option linter.unusedVariables false

theorem own : ownKnob Try.prog.godebug = none := by kernel_rfl
theorem laidOut : laidOutB Try.prog = true := by kernel_rfl

theorem five {l : List Value} (h : l.length = 5) : ∃ a b c d e, l = [a, b, c, d, e] := by
  match l, h with
  | [a, b, c, d, e], _ => exact ⟨a, b, c, d, e, rfl⟩
theorem four {l : List Value} (h : l.length = 4) : ∃ a b c d, l = [a, b, c, d] := by
  match l, h with
  | [a, b, c, d], _ => exact ⟨a, b, c, d, rfl⟩
/-- An op is read. -/
theorem op_read {w : World} {cs : List Value} (h : R Try.prog w 52 cs) : ∃ x : OpV, cs = (opCells x.kind x.at' x.n x.Bv x.kv).toList ∧ BytesRO (fun _ => False) w x.Bv x.B ∧ x.B.length ≤ 9223372036854775807 ∧ BoolsRO (fun _ => False) w x.kv x.keep := by
  have hl : cs.length = 5 := (R.struct Try.underlying52 h).1.trans (by kernel_rfl)
  obtain ⟨c0, c1, c2, c3, c4, rfl⟩ := five hl
  have r0 : R Try.prog w 3 [c0] := R.field Try.underlying52 h 0 rfl (o := 0) (n := 1) rfl rfl (by kernel_rfl)
  have r1 : R Try.prog w 3 [c1] := R.field Try.underlying52 h 1 rfl (o := 1) (n := 1) rfl rfl (by kernel_rfl)
  have r2 : R Try.prog w 3 [c2] := R.field Try.underlying52 h 2 rfl (o := 2) (n := 1) rfl rfl (by kernel_rfl)
  have r3 : R Try.prog w 50 [c3] := R.field Try.underlying52 h 3 rfl (o := 3) (n := 1) rfl rfl (by kernel_rfl)
  have r4 : R Try.prog w 46 [c4] := R.field Try.underlying52 h 4 rfl (o := 4) (n := 1) rfl rfl (by kernel_rfl)
  obtain ⟨n0, e0, _⟩ := R.int Try.underlying3 r0
  obtain ⟨n1, e1, _⟩ := R.int Try.underlying3 r1
  obtain ⟨n2, e2, _⟩ := R.int Try.underlying3 r2
  obtain ⟨v3, l3, e3, h3, h3'⟩ := R.bytes Try.underlying50 Try.underlying5 (by kernel_rfl) r3
  obtain ⟨v4, l4, e4, h4⟩ := R.bools Try.underlying46 Try.underlying4 (by kernel_rfl) r4
  simp only [List.cons.injEq, and_true] at e0 e1 e2 e3 e4
  subst e0 e1 e2 e3 e4
  exact ⟨⟨n0, n1, n2, c3, c4, l3, l4⟩, rfl, h3, h3', h4⟩
theorem ops_read {w : World} {cs : List Value} (h : R Try.prog w 45 cs) : ∃ v l, cs = [v] ∧ OpsRO w v l := by
  obtain ⟨ao, cap, l, rfl, h1, h2, h3⟩ := R.list (p := fun cs (x : OpV) => cs = (opCells x.kind x.at' x.n x.Bv x.kv).toList ∧ BytesRO (fun _ => False) w x.Bv x.B ∧ x.B.length ≤ 9223372036854775807 ∧ BoolsRO (fun _ => False) w x.kv x.keep)
    Try.underlying45 (size := 5) (by kernel_rfl) (by omega) (fun cs' h => op_read h) h
  refine ⟨_, l, rfl, ao, cap, rfl, h2, fun x hx => ?_, fun hl => ?_⟩
  · obtain ⟨b, o, _, _, hc⟩ := h3 (fun h => by subst h; simp at hx)
    obtain ⟨i, hi⟩ := List.getElem?_of_mem hx
    obtain ⟨cs', _, _, _, g⟩ := hc i x hi
    exact g
  · obtain ⟨b, o, rfl, hb, hc⟩ := h3 hl
    refine ⟨b, o, rfl, hb, fun i x hi => ?_⟩
    obtain ⟨cs', _, g2, rfl, _⟩ := hc i x hi
    exact g2
theorem input_read {w : World} {cs : List Value} (h : R Try.prog w 48 cs) : ∃ lv kv torn cut ops keep, cs = [lv, kv, .int .i64 torn, .int .i64 cut] ∧ OpsRO w lv ops ∧ BoolsRO (fun _ => False) w kv keep := by
  have hl : cs.length = 4 := (R.struct Try.underlying48 h).1.trans (by kernel_rfl)
  obtain ⟨c0, c1, c2, c3, rfl⟩ := four hl
  have r0 : R Try.prog w 45 [c0] := R.field Try.underlying48 h 0 rfl (o := 0) (n := 1) rfl rfl (by kernel_rfl)
  have r1 : R Try.prog w 46 [c1] := R.field Try.underlying48 h 1 rfl (o := 1) (n := 1) rfl rfl (by kernel_rfl)
  have r2 : R Try.prog w 3 [c2] := R.field Try.underlying48 h 2 rfl (o := 2) (n := 1) rfl rfl (by kernel_rfl)
  have r3 : R Try.prog w 3 [c3] := R.field Try.underlying48 h 3 rfl (o := 3) (n := 1) rfl rfl (by kernel_rfl)
  obtain ⟨v0, l0, e0, h0⟩ := ops_read r0
  obtain ⟨v1, l1, e1, h1⟩ := R.bools Try.underlying46 Try.underlying4 (by kernel_rfl) r1
  obtain ⟨n2, e2, _⟩ := R.int Try.underlying3 r2
  obtain ⟨n3, e3, _⟩ := R.int Try.underlying3 r3
  simp only [List.cons.injEq, and_true] at e0 e1 e2 e3
  subst e0 e1 e2 e3
  exact ⟨_, _, _, _, _, _, rfl, h0, h1⟩

theorem walk (v : Value) (w : World) (hv : R Try.prog w 48 v.cells.toList) (hw : ∃ cs, v = .agg cs) :
    Calls Try.prog 4 #[v] w fun e w' => e = .returned (.bool true) ∧ Below w.heap.size w w' := by
  obtain ⟨cs, rfl⟩ := hw
  obtain ⟨lv, kv, torn, cut, ops, keep, e, h1, h2⟩ := input_read hv
  have e' : cs = #[lv, kv, .int .i64 torn, .int .i64 cut] := by
    apply Array.ext'
    exact e
  subst e'
  exact lasts_walk w h1 h2

/-! ### THE ROW's STEP -/
set_option maxRecDepth 100000 in
theorem lifted (os : Os) (started : os.Started) (H : Type) (enc : TypeId × Value → H) :
    ReturnsInHanded {} Try.checked os 4 .any (Rows.storeLastsSpec.pre6 enc Try.prog Try.f4 Rows.storeLastsRow.domain false) (Rows.storeLastsSpec.post enc Try.prog Try.f4 false true false false) := by
  refine returnsInHanded_of_change (C := Try.checked) own started (by kernel_rfl) Try.func4
    (ChangeSpec.witness6 (enc := enc) (C := Try.checked) false ⟨#[], #[.agg #[.slice none 0 0, .slice none 0 0, .int .i64 0, .int .i64 0]], []⟩ 8 (by kernel_rfl) (by kernel_rfl) (by kernel_rfl) (by kernel_rfl)) ?_
  intro W base args ds gs before hval0 hW hcnd _
  have hval : ∀ (j : Nat) t v, Try.f4.params[j]? = some t → args[j]? = some v → Value.okWide Try.prog W .any base t v := hval0
  have hW' := hW
  obtain ⟨p, q, hA0, hV, rfl, hfz, hnd⟩ := hW
  have hA : DataW.TrodAll enc Try.prog W 0 (fun _ => true) true Try.f4.params.toList args.toList ds p := hA0
  rw [Try.params4] at hA hval
  obtain ⟨v0, vs0, d0, ds0, p0, q0, hargs, rfl, rfl, h0, r0⟩ := trodAll_cons hA
  obtain ⟨rfl, rfl, rfl⟩ := trodAll_nil r0
  obtain rfl : args = #[v0] := by cases args; simp_all
  obtain ⟨rfl, rfl⟩ := trodVars_none hV
  have k0 := h0
  have lt0 : ∀ x ∈ p0, x.block < W.heap.size := by obtain ⟨m, hm⟩ := k0; exact DataW.trod_lt m _ _ _ hm
  have w0 : R Try.prog W 48 v0.cells.toList := by
    obtain ⟨m, hm⟩ := k0
    exact ⟨H, enc, _, _, m, _, hm⟩
  have s0 : ∃ cs, v0 = .agg cs := by
    obtain ⟨cs, h, _⟩ := okWide_struct Try.underlying48 (hval 0 48 v0 rfl rfl)
    exact ⟨cs, h⟩
  clear hA0 hval0
  refine (walk v0 W w0 s0).mono fun e W' ⟨he, bel⟩ => ?_
  subst he
  exact ⟨_, rfl, _, _, _, [], _, [], hW', trodAll_mk1 (shut_bool Try.underlying4 _), (trodAll_cons_mk (Below.trod laidOut (by kernel_rfl) (of_decide_eq_true (by kernel_rfl)) k0 bel lt0) trodAll_mk0), rfl, bel.frame _, fun h => by cases h⟩

theorem over : Rows.storeLastsRow.holds Try.pinned (OpenSpec.ofChange Rows.storeLastsSpec) :=
  OpenClaim.holds_of_wide 4 Try.f4 rfl rfl rfl rfl rfl rfl rfl ⟨rfl, rfl, rfl, rfl, rfl⟩ rfl rfl rfl rfl rfl (by kernel_rfl) Try.func4 (by kernel_rfl)
    (of_decide_eq_true (by kernel_rfl)) (by unfold Func.isWrapper; first | (rw [if_pos (by decide +kernel)]; kernel_rfl) | (rw [if_neg (by decide +kernel)]; exact ⟨rfl, rfl⟩))
    (fun os started H enc _ => lifted os started H enc)

/-- ████ THE STATEMENT ████ -/
theorem proved : Rows.StoreLastsSaid := over
#print axioms proved
end Go.Proofs.Ytbikjhmdpgoofaa.storeLasts
