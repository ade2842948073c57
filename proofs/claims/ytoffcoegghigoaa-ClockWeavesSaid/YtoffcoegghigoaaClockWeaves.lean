/- ClockWeaves returns true at every input, and its arguments read as they did. No condition. -/
import Derived.Test.YtoffcoegghigoaaLawW
import Derived.Test.YtoffcoegghigoaaInZ
import Derived.WalkKit
import Derived.ProofKit
import Derived.OpenShut
import Derived.ShutString
import Derived.ChangeOld
import Derived.Below
namespace Go.Proofs.Ytoffcoegghigoaa.clockWeaves
open Go.ChangeShapes Go.WideShapes Go.ChangeAt Go.RowKit
open Go.ChangeMaps (open_string shut_string)
set_option linter.unusedVariables false

theorem own : ownKnob Try.prog.godebug = none := by kernel_rfl
theorem laidOut : laidOutB Try.prog = true := by kernel_rfl

theorem item_read {w : World} {cs : List Value} (h : R Try.prog w 85 cs) : ∃ x : Itm, cs = (itmC x).toList ∧ x.fits := by
  have hl : cs.length = 4 := (R.struct Try.underlying85 h).1.trans (by kernel_rfl)
  obtain ⟨c0, c1, c2, c3, rfl⟩ : ∃ a b c d, cs = [a, b, c, d] := by
    match cs, hl with
    | [a, b, c, d], _ => exact ⟨a, b, c, d, rfl⟩
  have r0 : R Try.prog w 3 [c0] := R.field Try.underlying85 h 0 rfl (o := 0) (n := 1) rfl rfl (by kernel_rfl)
  have r1 : R Try.prog w 9 [c1] := R.field Try.underlying85 h 1 rfl (o := 1) (n := 1) rfl rfl (by kernel_rfl)
  have r2 : R Try.prog w 3 [c2] := R.field Try.underlying85 h 2 rfl (o := 2) (n := 1) rfl rfl (by kernel_rfl)
  have r3 : R Try.prog w 3 [c3] := R.field Try.underlying85 h 3 rfl (o := 3) (n := 1) rfl rfl (by kernel_rfl)
  obtain ⟨n0, e0, g0⟩ := R.int Try.underlying3 r0
  obtain ⟨s, e1, g1⟩ := R.text Try.underlying9 r1
  obtain ⟨n2, e2, g2⟩ := R.int Try.underlying3 r2
  obtain ⟨n3, e3, g3⟩ := R.int Try.underlying3 r3
  simp only [List.cons.injEq, and_true] at e0 e1 e2 e3
  subst e0 e1 e2 e3
  have hs : s.data.toList.length = s.size := Array.length_toList
  have hm : maxLen = 9223372036854775807 := rfl
  refine ⟨⟨n0, s.data.toList, n2, n3⟩, ?_, ⟨int_bounds g0, by simp only; omega, int_bounds g2, int_bounds g3⟩⟩
  cases s
  simp [textV]
theorem items_read {w : World} {v : Value} (h : RZ Try.prog w 65 v.cells.toList) (hs : ∃ a len cap, v = .slice a len cap) : ∃ l, ItmsRO w v l ∧ l.length ≤ 3518437208880 := by
  obtain ⟨a, len, cap, rfl⟩ := hs
  obtain ⟨ao, cap', l, e, h1, h2, h3⟩ := R.list (p := fun cs (x : Itm) => cs = (itmC x).toList ∧ x.fits) Try.underlying65 (by kernel_rfl) (size := 4) (by omega) (fun cs' h => item_read h) h.r
  have hz := RZ.len Try.underlying65 h (ao := ao) (len := l.length) (cap := cap') e
  rw [show Try.prog.bytesOf 85 = 40 by kernel_rfl] at hz
  have e2 : Value.slice a len cap = .slice ao l.length cap' := by simpa [Value.cells] using e
  rw [e2]
  have hx : ∀ x ∈ l, x.fits := fun x hx => by
    obtain ⟨b, o, _, _, hc⟩ := h3 (by rintro rfl; cases hx)
    obtain ⟨i, hi⟩ := List.getElem?_of_mem hx
    obtain ⟨cs', _, _, _, g⟩ := hc i x hi
    exact g
  refine ⟨l, ⟨ao, cap', rfl, h1, hx, fun hl => ?_⟩, by omega⟩
  obtain ⟨b, o, rfl, hb, hc⟩ := h3 hl
  refine ⟨b, o, rfl, hb, fun i x hi => ?_⟩
  obtain ⟨cs', _, g2, rfl, _⟩ := hc i x hi
  exact g2

theorem walk (v0 v1 v2 : Value) (w : World) (h0 : RZ Try.prog w 3 v0.cells.toList) (s0 : ∃ n, v0 = .int .i64 n) (h1 : RZ Try.prog w 3 v1.cells.toList) (s1 : ∃ n, v1 = .int .i64 n)
    (h2 : RZ Try.prog w 65 v2.cells.toList) (s2 : ∃ a len cap, v2 = .slice a len cap) :
    Calls Try.prog 10 #[v0, v1, v2] w fun e w' => e = .returned (.bool true) ∧ Below w.heap.size w w' := by
  obtain ⟨slack, rfl⟩ := s0
  obtain ⟨step, rfl⟩ := s1
  obtain ⟨l, hl, hll⟩ := items_read h2 s2
  exact weaves_walk w hl hll

set_option maxRecDepth 100000 in
theorem lifted (os : Os) (started : os.Started) (H : Type) (enc : TypeId × Value → H) :
    ReturnsInHanded {} Try.checked os 10 .any (Rows.clockWeavesSpec.pre6 enc Try.prog Try.f10 Rows.clockWeavesRow.domain false) (Rows.clockWeavesSpec.post enc Try.prog Try.f10 false true false false) := by
  refine returnsInHanded_of_change_sized (C := Try.checked) own started (by kernel_rfl) Try.func10
    (ChangeSpec.witness6 (enc := enc) (C := Try.checked) false ⟨#[], #[.int .i64 0, .int .i64 0, .slice none 0 0], []⟩ 8 (by kernel_rfl) (by kernel_rfl) (by kernel_rfl) (by kernel_rfl)) ?_
  intro W base args ds gs before hval0 hW hcnd hsz0 _
  have hsz : (DataW.weightsEach Try.prog (Try.f10.params.toList ++ Rows.clockWeavesSpec.plain.varTypes Try.prog) (ds ++ gs)).all (· ≤ reachBytes) = true := hsz0
  have hval : ∀ (j : Nat) t v, Try.f10.params[j]? = some t → args[j]? = some v → Value.okWide Try.prog W .any base t v := hval0
  have hW' := hW
  obtain ⟨p, q, hA0, hV, rfl, hfz, hnd⟩ := hW
  have hA : DataW.TrodAll enc Try.prog W 0 (fun _ => true) true Try.f10.params.toList args.toList ds p := hA0
  rw [Try.params10] at hA hval hsz
  obtain ⟨v0, vs0, d0, ds0, p0, q0, hargs, rfl, rfl, h0, r0⟩ := trodAll_cons hA
  obtain ⟨v1, vs1, d1, ds1, p1, q1, rfl, rfl, rfl, h1, r1⟩ := trodAll_cons r0
  obtain ⟨v2, vs2, d2, ds2, p2, q2, rfl, rfl, rfl, h2, r2⟩ := trodAll_cons r1
  obtain ⟨rfl, rfl, rfl⟩ := trodAll_nil r2
  obtain rfl : args = #[v0, v1, v2] := by cases args; simp_all
  obtain ⟨rfl, rfl⟩ := trodVars_none hV
  have lt0 : ∀ x ∈ p0, x.block < W.heap.size := by obtain ⟨m, hm⟩ := h0; exact DataW.trod_lt m _ _ _ hm
  have w0 : RZ Try.prog W 3 v0.cells.toList := by
    obtain ⟨m, hm⟩ := h0
    exact ⟨H, enc, _, _, m, _, hm, List.all_eq_true.2 fun n hn => List.all_eq_true.1 hsz n (DataW.weights_mem_each (j := 0) rfl rfl n hn)⟩
  have s0 : ∃ n, v0 = .int .i64 n := okWide_int Try.underlying3 (hval 0 3 v0 rfl rfl)
  have lt1 : ∀ x ∈ p1, x.block < W.heap.size := by obtain ⟨m, hm⟩ := h1; exact DataW.trod_lt m _ _ _ hm
  have w1 : RZ Try.prog W 3 v1.cells.toList := by
    obtain ⟨m, hm⟩ := h1
    exact ⟨H, enc, _, _, m, _, hm, List.all_eq_true.2 fun n hn => List.all_eq_true.1 hsz n (DataW.weights_mem_each (j := 1) rfl rfl n hn)⟩
  have s1 : ∃ n, v1 = .int .i64 n := okWide_int Try.underlying3 (hval 1 3 v1 rfl rfl)
  have lt2 : ∀ x ∈ p2, x.block < W.heap.size := by obtain ⟨m, hm⟩ := h2; exact DataW.trod_lt m _ _ _ hm
  have w2 : RZ Try.prog W 65 v2.cells.toList := by
    obtain ⟨m, hm⟩ := h2
    exact ⟨H, enc, _, _, m, _, hm, List.all_eq_true.2 fun n hn => List.all_eq_true.1 hsz n (DataW.weights_mem_each (j := 2) rfl rfl n hn)⟩
  have s2 : ∃ a len cap, v2 = .slice a len cap := okWide_slice Try.underlying65 (hval 2 65 v2 rfl rfl)
  clear hA0 hval0
  refine (walk v0 v1 v2 W w0 s0 w1 s1 w2 s2).mono fun e W' ⟨he, bel⟩ => ?_
  subst he
  exact ⟨_, rfl, _, _, _, [], _, [], hW', trodAll_mk1 (shut_bool Try.underlying4 _), (trodAll_cons_mk (Below.trod laidOut (by kernel_rfl) (of_decide_eq_true (by kernel_rfl)) h0 bel lt0) (trodAll_cons_mk (Below.trod laidOut (by kernel_rfl) (of_decide_eq_true (by kernel_rfl)) h1 bel lt1) (trodAll_cons_mk (Below.trod laidOut (by kernel_rfl) (of_decide_eq_true (by kernel_rfl)) h2 bel lt2) trodAll_mk0))), rfl, bel.frame _, fun h => by cases h⟩

theorem over : Rows.clockWeavesRow.holds Try.pinned (OpenSpec.ofChange Rows.clockWeavesSpec) :=
  OpenClaim.holds_of_wide 10 Try.f10 rfl rfl rfl rfl rfl rfl rfl ⟨rfl, rfl, rfl, rfl, rfl⟩ rfl rfl rfl rfl rfl (by kernel_rfl) Try.func10 (by kernel_rfl)
    (of_decide_eq_true (by kernel_rfl)) (by unfold Func.isWrapper; first | (rw [if_pos (by decide +kernel)]; kernel_rfl) | (rw [if_neg (by decide +kernel)]; exact ⟨rfl, rfl⟩))
    (fun os started H enc _ => lifted os started H enc)

/-- THE STATEMENT -/
theorem proved : Rows.ClockWeavesSaid := over
#print axioms proved
end Go.Proofs.Ytoffcoegghigoaa.clockWeaves
