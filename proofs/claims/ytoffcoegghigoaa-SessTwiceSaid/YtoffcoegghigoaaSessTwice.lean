/- SessTwice returns true at every input, and its arguments read as they did. No condition. -/
import Derived.Test.YtoffcoegghigoaaWdH
import Derived.Test.YtoffcoegghigoaaInWd
import Derived.WalkKit
import Derived.ProofKit
import Derived.OpenShut
import Derived.ShutString
import Derived.ChangeOld
import Derived.Below
namespace Go.Proofs.Ytoffcoegghigoaa.sessTwice
open Go.ChangeShapes Go.WideShapes Go.ChangeAt Go.RowKit
open Go.ChangeMaps (open_string shut_string)
set_option linter.unusedVariables false

theorem own : ownKnob Try.prog.godebug = none := by kernel_rfl
theorem laidOut : laidOutB Try.prog = true := by kernel_rfl

theorem itemA {P : Program} {w : World} {t e : TypeId} {cs : List Value} {n : Nat} (ht : P.underlying t = some (.array n e)) (he : P.cellsOf e = 1) (h : R P w t cs) (i : Nat) (hi : i < n) {c : Value} (hc : cs[i]? = some c) : R P w e [c] := by
  have h1 := (R.array ht h).2 i hi
  rw [he, Nat.mul_one] at h1
  obtain ⟨hlt, rfl⟩ := List.getElem?_eq_some_iff.1 hc
  rwa [List.drop_eq_getElem_cons hlt, List.take_succ_cons, List.take_zero] at h1
theorem cut_in {w : World} {v : Value} (h : R Try.prog w 50 v.cells.toList) (hs : ∃ cs, v = .agg cs) : ∃ a b : Int, v = .agg #[.int .u8 a, .int .u8 b] ∧ (0 ≤ a ∧ a ≤ 255) ∧ (0 ≤ b ∧ b ≤ 255) := by
  obtain ⟨cs, rfl⟩ := hs
  have hl3 : cs.toList.length = 2 := (R.array Try.underlying50 h).1.trans (by kernel_rfl)
  obtain ⟨c0, c1, hc⟩ : ∃ a b, cs.toList = [a, b] := by
    match cs.toList, hl3 with
    | [a, b], _ => exact ⟨a, b, rfl⟩
  have hc' : cs = #[c0, c1] := by apply Array.ext'; rw [hc]
  subst hc'
  have r0 : R Try.prog w 5 [c0] := itemA Try.underlying50 (by kernel_rfl) h 0 (by omega) rfl
  have r1 : R Try.prog w 5 [c1] := itemA Try.underlying50 (by kernel_rfl) h 1 (by omega) rfl
  obtain ⟨n0, e0, g0⟩ := R.int Try.underlying5 r0
  obtain ⟨n1, e1, g1⟩ := R.int Try.underlying5 r1
  simp only [List.cons.injEq, and_true] at e0 e1
  subst e0 e1
  simp only [Lit.wf, Bool.and_eq_true, decide_eq_true_eq] at g0 g1
  have m1 : IntKind.u8.min = 0 := by kernel_rfl
  have m2 : IntKind.u8.max = 255 := by kernel_rfl
  rw [m1, m2] at g0 g1
  exact ⟨n0, n1, rfl, g0, g1⟩

theorem walk (v0 v1 v2 : Value) (w : World) (h0 : RZ Try.prog w 39 v0.cells.toList) (s0 : ∃ a len cap, v0 = .slice a len cap) (h1 : RZ Try.prog w 41 v1.cells.toList) (s1 : ∃ cs, v1 = .agg cs)
    (h2 : RZ Try.prog w 50 v2.cells.toList) (s2 : ∃ cs, v2 = .agg cs) :
    Calls Try.prog 7 #[v0, v1, v2] w fun e w' => e = .returned (.bool true) ∧ Below w.heap.size w w' := by
  obtain ⟨l, hl, hll⟩ := wds_in h0 s0
  obtain ⟨x, rfl, hx⟩ := wd_in h1.r s1
  obtain ⟨a, b, rfl, ha, hb⟩ := cut_in h2.r s2
  exact sess_twice w hl hll hx ha hb

set_option maxRecDepth 100000 in
theorem lifted (os : Os) (started : os.Started) (H : Type) (enc : TypeId × Value → H) :
    ReturnsInHanded {} Try.checked os 7 .any (Rows.sessTwiceSpec.pre6 enc Try.prog Try.f7 Rows.sessTwiceRow.domain false) (Rows.sessTwiceSpec.post enc Try.prog Try.f7 false true false false) := by
  refine returnsInHanded_of_change_sized (C := Try.checked) own started (by kernel_rfl) Try.func7
    (ChangeSpec.witness6 (enc := enc) (C := Try.checked) false ⟨#[], #[.slice none 0 0, .agg #[.string ⟨#[]⟩, .int .i64 0, .int .i64 0], .agg #[.int .u8 0, .int .u8 0]], []⟩ 8 (by kernel_rfl) (by kernel_rfl) (by kernel_rfl) (by kernel_rfl)) ?_
  intro W base args ds gs before hval0 hW hcnd hsz0 _
  have hsz : (DataW.weightsEach Try.prog (Try.f7.params.toList ++ Rows.sessTwiceSpec.plain.varTypes Try.prog) (ds ++ gs)).all (· ≤ reachBytes) = true := hsz0
  have hval : ∀ (j : Nat) t v, Try.f7.params[j]? = some t → args[j]? = some v → Value.okWide Try.prog W .any base t v := hval0
  have hW' := hW
  obtain ⟨p, q, hA0, hV, rfl, hfz, hnd⟩ := hW
  have hA : DataW.TrodAll enc Try.prog W 0 (fun _ => true) true Try.f7.params.toList args.toList ds p := hA0
  rw [Try.params7] at hA hval hsz
  obtain ⟨v0, vs0, d0, ds0, p0, q0, hargs, rfl, rfl, h0, r0⟩ := trodAll_cons hA
  obtain ⟨v1, vs1, d1, ds1, p1, q1, rfl, rfl, rfl, h1, r1⟩ := trodAll_cons r0
  obtain ⟨v2, vs2, d2, ds2, p2, q2, rfl, rfl, rfl, h2, r2⟩ := trodAll_cons r1
  obtain ⟨rfl, rfl, rfl⟩ := trodAll_nil r2
  obtain rfl : args = #[v0, v1, v2] := by cases args; simp_all
  obtain ⟨rfl, rfl⟩ := trodVars_none hV
  have lt0 : ∀ x ∈ p0, x.block < W.heap.size := by obtain ⟨m, hm⟩ := h0; exact DataW.trod_lt m _ _ _ hm
  have w0 : RZ Try.prog W 39 v0.cells.toList := by
    obtain ⟨m, hm⟩ := h0
    exact ⟨H, enc, _, _, m, _, hm, List.all_eq_true.2 fun n hn => List.all_eq_true.1 hsz n (DataW.weights_mem_each (j := 0) rfl rfl n hn)⟩
  have s0 : ∃ a len cap, v0 = .slice a len cap := okWide_slice Try.underlying39 (hval 0 39 v0 rfl rfl)
  have lt1 : ∀ x ∈ p1, x.block < W.heap.size := by obtain ⟨m, hm⟩ := h1; exact DataW.trod_lt m _ _ _ hm
  have w1 : RZ Try.prog W 41 v1.cells.toList := by
    obtain ⟨m, hm⟩ := h1
    exact ⟨H, enc, _, _, m, _, hm, List.all_eq_true.2 fun n hn => List.all_eq_true.1 hsz n (DataW.weights_mem_each (j := 1) rfl rfl n hn)⟩
  have s1 : ∃ cs, v1 = .agg cs := by
    obtain ⟨cs, h, _⟩ := okWide_struct Try.underlying41 (hval 1 41 v1 rfl rfl)
    exact ⟨cs, h⟩
  have lt2 : ∀ x ∈ p2, x.block < W.heap.size := by obtain ⟨m, hm⟩ := h2; exact DataW.trod_lt m _ _ _ hm
  have w2 : RZ Try.prog W 50 v2.cells.toList := by
    obtain ⟨m, hm⟩ := h2
    exact ⟨H, enc, _, _, m, _, hm, List.all_eq_true.2 fun n hn => List.all_eq_true.1 hsz n (DataW.weights_mem_each (j := 2) rfl rfl n hn)⟩
  have s2 : ∃ cs, v2 = .agg cs := by
    obtain ⟨cs, h, _⟩ := okWide_row Try.underlying50 (hval 2 50 v2 rfl rfl)
    exact ⟨cs, h⟩
  clear hA0 hval0
  refine (walk v0 v1 v2 W w0 s0 w1 s1 w2 s2).mono fun e W' ⟨he, bel⟩ => ?_
  subst he
  exact ⟨_, rfl, _, _, _, [], _, [], hW', trodAll_mk1 (shut_bool Try.underlying4 _), (trodAll_cons_mk (Below.trod laidOut (by kernel_rfl) (of_decide_eq_true (by kernel_rfl)) h0 bel lt0) (trodAll_cons_mk (Below.trod laidOut (by kernel_rfl) (of_decide_eq_true (by kernel_rfl)) h1 bel lt1) (trodAll_cons_mk (Below.trod laidOut (by kernel_rfl) (of_decide_eq_true (by kernel_rfl)) h2 bel lt2) trodAll_mk0))), rfl, bel.frame _, fun h => by cases h⟩

theorem over : Rows.sessTwiceRow.holds Try.pinned (OpenSpec.ofChange Rows.sessTwiceSpec) :=
  OpenClaim.holds_of_wide 7 Try.f7 rfl rfl rfl rfl rfl rfl rfl ⟨rfl, rfl, rfl, rfl, rfl⟩ rfl rfl rfl rfl rfl (by kernel_rfl) Try.func7 (by kernel_rfl)
    (of_decide_eq_true (by kernel_rfl)) (by unfold Func.isWrapper; first | (rw [if_pos (by decide +kernel)]; kernel_rfl) | (rw [if_neg (by decide +kernel)]; exact ⟨rfl, rfl⟩))
    (fun os started H enc _ => lifted os started H enc)

/-- THE STATEMENT -/
theorem proved : Rows.SessTwiceSaid := over
#print axioms proved
end Go.Proofs.Ytoffcoegghigoaa.sessTwice
