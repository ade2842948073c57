/- LexJoins returns true at every input, and its arguments read as they did. No condition. -/
import Derived.Test.YtoffcoegghigoaaLexIn
import Derived.WalkKit
import Derived.ProofKit
import Derived.OpenShut
import Derived.ShutString
import Derived.ChangeOld
import Derived.Below
namespace Go.Proofs.Ytoffcoegghigoaa.lexJoins
open Go.ChangeShapes Go.WideShapes Go.ChangeAt Go.RowKit
open Go.ChangeMaps (open_string shut_string)
set_option linter.unusedVariables false

theorem own : ownKnob Try.prog.godebug = none := by kernel_rfl
theorem laidOut : laidOutB Try.prog = true := by kernel_rfl

set_option maxHeartbeats 1000000 in
set_option maxRecDepth 100000 in
theorem joins_walk {v : Value} {l : List (List UInt8)} (w : World) (hv : StrsRO w v l) (hl : l.length ≤ 9223372036854775807) (hw : ∀ x ∈ l, x.length ≤ 9223372036854775807) :
    Calls Try.prog 4 #[v] w fun e w' => e = .returned (.bool true) ∧ Below w.heap.size w w' := by
  obtain ⟨ao, cap, rfl, hcap, hcell⟩ := id hv
  go_enter Try.func4, Try.ntmps4
  go_wp2_with fail
  refine (St.callPast (first36 _) (St.nil (fun _ => False) w)).mono ?_
  rintro e w1 ⟨rfl, H1⟩
  go_upto_block 1 with (fail)
  go_loopw [3, 18] (fun vn j wr => ∃ (i N : Nat), i ≤ l.length ∧ vn = .int .i64 N ∧ j = .int .i64 i ∧ N ≤ 13000 ∧ (∀ x ∈ l.take i, x.length ≤ 5000) ∧ St (fun _ => False) w wr []) (fun _ j _ => l.length - (intOf j).toNat)
  case atStart => exact ⟨0, 0, by omega, rfl, rfl, by omega, by simp, H1⟩
  case round =>
    clear H1
    obtain ⟨i, N, hi, rfl, rfl, hN, hsm, HL⟩ := hrel
    by_cases hlt : i < l.length
    · obtain ⟨b, o, rfl, hb, hc⟩ := hcell (by rintro rfl; simp at hlt)
      obtain ⟨x, hx⟩ : ∃ x, l[i]? = some x := ⟨_, List.getElem?_eq_getElem hlt⟩
      have hc0 := (World.cell?_of_block (w := w) (HL.kept.block b hb id)).trans (hc i hlt)
      rw [(List.getElem?_eq_some_iff.1 hx).2] at hc0
      have hsx := text_size x
      clear hc hcell
      unfold textV at hc0
      by_cases g1 : (100 : Int) < l.length
      · have z1 : decide ((100 : Int) < (l.length : Int)) = true := by simpa using g1
        go_wp2
        go_ret
        exact ⟨rfl, HL.below (Nat.le_refl _) (fun _ h => h.elim)⟩
      · have z1 : decide ((100 : Int) < (l.length : Int)) = false := by simpa using g1
        by_cases g2 : (5000 : Int) < x.length
        · have z2 : decide ((5000 : Int) < (x.length : Int)) = true := by simpa using g2
          go_wp2
          go_ret
          exact ⟨rfl, HL.below (Nat.le_refl _) (fun _ h => h.elim)⟩
        · have z2 : decide ((5000 : Int) < (x.length : Int)) = false := by simpa using g2
          by_cases g3 : (8000 : Int) < N
          · have z3 : decide ((8000 : Int) < (N : Int)) = true := by simpa using g3
            go_wp2
            go_ret
            exact ⟨rfl, HL.below (Nat.le_refl _) (fun _ h => h.elim)⟩
          · have z3 : decide ((8000 : Int) < (N : Int)) = false := by simpa using g3
            have hst : ∀ y ∈ l.take (i + 1), y.length ≤ 5000 := by
              intro y hy
              rw [take_snoc' hx] at hy
              rcases List.mem_append.1 hy with hy | hy
              · exact hsm y hy
              · obtain rfl : y = x := by simpa using hy
                omega
            have k1 := fun w' => lex_quote x (by omega) w'
            have k2 := fun w' => ref_quote x (by omega) w'
            have k3 := fun w' => lex_plain x (by omega) w'
            have k4 := fun w' => ref_plain x (by omega) w'
            obtain ⟨X, hX⟩ : ∃ X, lex.quoteW x = X := ⟨_, rfl⟩
            obtain ⟨pl, hpl⟩ : ∃ pl, lex.plainB x = pl := ⟨_, rfl⟩
            rw [hX] at k1 k2
            rw [hpl] at k3 k4
            obtain ⟨s, er⟩ := X
            unfold textV at k1 k2 k3 k4
            simp only at k1 k2
            clear hX hpl hx hsm
            go_upto_region 12 with (first
              | (go_at_call 15; go_must (refine (St.callPast (k1 _) HL).mono ?_; rintro e w2 ⟨rfl, H2⟩))
              | (go_at_call 16; go_must (refine (St.callSame' (k2 _) H2).mono ?_; rintro e w3 ⟨rfl, H3⟩)))
            go_wp2_with (first
              | (go_at_call 17; go_must (refine (St.callPast (k3 _) H3).mono ?_; rintro e w4 ⟨rfl, H4⟩))
              | (go_at_call 18; go_must (refine (St.callSame' (k4 _) H4).mono ?_; rintro e w5 ⟨rfl, H5⟩)))
            go_roundw
            case rel => exact ⟨i + 1, N + x.length, by omega, by go_num, by go_num, by omega, hst, H5⟩
            case measure => simp [intOf]; omega
    · obtain rfl : i = l.length := by omega
      rw [List.take_length] at hsm
      have k1 := lex_join (hv.later HL.kept) hl (fun x hx => by have := hsm x hx; omega)
      go_upto_region 16 with (go_at_call 19; go_must (refine (St.callPast k1 HL).mono ?_; rintro e w2 ⟨rfl, H2⟩))
      have k2 := ref_join (hv.later H2.kept) hl (fun x hx => by have := hsm x hx; omega)
      go_upto_region 17 with (go_at_call 20; go_must (refine (St.callSame' k2 H2).mono ?_; rintro e w3 ⟨rfl, H3⟩))
      unfold textV
      go_wp2
      go_ret
      exact ⟨by simp, H3.below (Nat.le_refl _) (fun _ h => h.elim)⟩

theorem walk (v0 : Value) (w : World) (h0 : R Try.prog w 23 v0.cells.toList) (s0 : ∃ a len cap, v0 = .slice a len cap) :
    Calls Try.prog 4 #[v0] w fun e w' => e = .returned (.bool true) ∧ Below w.heap.size w w' := by
  obtain ⟨a, len, cap, rfl⟩ := s0
  obtain ⟨v, l, e, h1, h2, h3⟩ := strs_read h0
  have e2 : Value.slice a len cap = v := by simpa [Value.cells] using e
  subst e2
  exact joins_walk w h1 h2 h3

set_option maxRecDepth 100000 in
theorem lifted (os : Os) (started : os.Started) (H : Type) (enc : TypeId × Value → H) :
    ReturnsInHanded {} Try.checked os 4 .any (Rows.lexJoinsSpec.pre6 enc Try.prog Try.f4 Rows.lexJoinsRow.domain false) (Rows.lexJoinsSpec.post enc Try.prog Try.f4 false true false false) := by
  refine returnsInHanded_of_change (C := Try.checked) own started (by kernel_rfl) Try.func4
    (ChangeSpec.witness6 (enc := enc) (C := Try.checked) false ⟨#[], #[.slice none 0 0], []⟩ 8 (by kernel_rfl) (by kernel_rfl) (by kernel_rfl) (by kernel_rfl)) ?_
  intro W base args ds gs before hval0 hW hcnd _
  have hval : ∀ (j : Nat) t v, Try.f4.params[j]? = some t → args[j]? = some v → Value.okWide Try.prog W .any base t v := hval0
  have hW' := hW
  obtain ⟨p, q, hA0, hV, rfl, hfz, hnd⟩ := hW
  have hA : DataW.TrodAll enc Try.prog W 0 (fun _ => true) true Try.f4.params.toList args.toList ds p := hA0
  rw [Try.params4] at hA hval
  obtain ⟨v0, vs0, d0, ds0, p0, q0, hargs, rfl, rfl, h0, r0⟩ := trodAll_cons hA
  obtain ⟨rfl, rfl, rfl⟩ := trodAll_nil r0
  obtain rfl : args = #[v0] := by cases args; simp_all
  obtain ⟨rfl, rfl⟩ := trodVars_none hV
  have lt0 : ∀ x ∈ p0, x.block < W.heap.size := by obtain ⟨m, hm⟩ := h0; exact DataW.trod_lt m _ _ _ hm
  have w0 : R Try.prog W 23 v0.cells.toList := by
    obtain ⟨m, hm⟩ := h0
    exact ⟨H, enc, _, _, m, _, hm⟩
  have s0 : ∃ a len cap, v0 = .slice a len cap := okWide_slice Try.underlying23 (hval 0 23 v0 rfl rfl)
  clear hA0 hval0
  refine (walk v0 W w0 s0).mono fun e W' ⟨he, bel⟩ => ?_
  subst he
  exact ⟨_, rfl, _, _, _, [], _, [], hW', trodAll_mk1 (shut_bool Try.underlying4 _), (trodAll_cons_mk (Below.trod laidOut (by kernel_rfl) (of_decide_eq_true (by kernel_rfl)) h0 bel lt0) trodAll_mk0), rfl, bel.frame _, fun h => by cases h⟩

theorem over : Rows.lexJoinsRow.holds Try.pinned (OpenSpec.ofChange Rows.lexJoinsSpec) :=
  OpenClaim.holds_of_wide 4 Try.f4 rfl rfl rfl rfl rfl rfl rfl ⟨rfl, rfl, rfl, rfl, rfl⟩ rfl rfl rfl rfl rfl (by kernel_rfl) Try.func4 (by kernel_rfl)
    (of_decide_eq_true (by kernel_rfl)) (by unfold Func.isWrapper; first | (rw [if_pos (by decide +kernel)]; kernel_rfl) | (rw [if_neg (by decide +kernel)]; exact ⟨rfl, rfl⟩))
    (fun os started H enc _ => lifted os started H enc)

/-- THE STATEMENT -/
theorem proved : Rows.LexJoinsSaid := over
#print axioms proved
end Go.Proofs.Ytoffcoegghigoaa.lexJoins
