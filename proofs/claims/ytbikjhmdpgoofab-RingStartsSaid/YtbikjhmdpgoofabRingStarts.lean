/- RingStarts returns true at every input, and its arguments read as they did. No condition. -/
import Derived.Test.YtbikjhmdpgoofabRingE
import Derived.Test.YtbikjhmdpgoofabRingM
import Derived.Test.YtbikjhmdpgoofabInM
import Derived.Test.YtbikjhmdpgoofabMore
import Derived.Test.YtbikjhmdpgoofabRingIn
import Derived.WalkKit
import Derived.ProofKit
import Derived.OpenShut
import Derived.ShutString
import Derived.ChangeOld
import Derived.Below
namespace Go.Proofs.Ytbikjhmdpgoofab.ringStarts
open Go.ChangeShapes Go.WideShapes Go.ChangeAt Go.RowKit
open Go.ChangeMaps (open_string shut_string)
set_option linter.unusedVariables false

theorem own : ownKnob Try.prog.godebug = none := by kernel_rfl
theorem laidOut : laidOutB Try.prog = true := by kernel_rfl

set_option maxHeartbeats 2000000 in
set_option maxRecDepth 100000 in
theorem starts_walk (f l v n : Int) (w : World) (hl : -9223372036854775808 ≤ l ∧ l ≤ 9223372036854775807) (hn : -9223372036854775808 ≤ n ∧ n ≤ 9223372036854775807) :
    Calls Try.prog 3 #[ringV f l, .int .i64 v, .int .i64 n] w fun e w' => e = .returned (.bool true) ∧ Below w.heap.size w w' := by
  have H : St (fun _ => False) w _ [_] := (St.nil _ w).allocAt rfl #[.int .i64 f, .int .i64 l] 23
  unfold ringV
  go_enter Try.func3, Try.ntmps3
  go_wp2_with fail
  refine (St.callPast (first15 _) H).mono ?_
  rintro e w1 ⟨rfl, H1⟩
  have c0 := H1.cell 0 0 rfl rfl
  have c1 := H1.cell 0 1 rfl rfl
  by_cases a1 : 562949953421312 < v
  · have b1 : decide (562949953421312 < v) = true := by simpa using a1
    go_wp2
    go_ret
    exact ⟨rfl, H1.below (Nat.le_refl _) (fun _ h => h.elim)⟩
  · have b1 : decide (562949953421312 < v) = false := by simpa using a1
    go_wp2_with fail
    refine (St.callPast (ring_start f l v n _) H1).mono ?_
    rintro e w2 ⟨rfl, H2⟩
    clear c0 c1 H1
    by_cases h0 : 0 ≤ startI f l v n
    · obtain ⟨hf1, hf2, hf3, hf4⟩ := start_fits h0
      have hr := start_range h0
      obtain ⟨st, hst⟩ : ∃ st, startI f l v n = st := ⟨_, rfl⟩
      rw [hst] at h0 hf1 hf2 hf4 hr ⊢
      have hf4h := Lib.hid hf4
      have hf3h := Lib.hid hf3
      clear hst hf4 hf3
      have y1 : decide (st < 0) = false := by simp; omega
      have y2 : decide (st < v) = false := by simp; omega
      have y3 : IntKind.i64.wrap (st - v) = st - v := by rw [IntKind.wrap_i64]; omega
      have y4 : decide (n ≤ st - v) = false := by simp; omega
      go_upto_block 1 with (fail)
      go_loopw [8] (fun j wr => ∃ k : Int, v ≤ k ∧ k ≤ st + 1 ∧ j = .int .i64 k ∧ St (fun _ => False) w wr [Blk w.heap.size #[.int .i64 f, .int .i64 l] 23])
        (fun j _ => (st + 1 - intOf j).toNat)
      case atStart => exact ⟨v, by omega, by omega, rfl, H2⟩
      case round =>
        clear H2
        obtain ⟨k, hk1, hk2, rfl, HL⟩ := hrel
        by_cases hle : k ≤ st
        · obtain ⟨hbk, hm0, hm1⟩ := block_in (v := k) hf3h.out (by omega) (by omega)
          have hs2 := sound_true hf3h.out
          have kb := fun w' => ring_block f l k w'
          simp only [hbk, ringV] at kb
          have x1 : IntKind.i64.wrap (f + k % l) = f + k % l := by rw [IntKind.wrap_i64]; omega
          have x2 : IntKind.i64.wrap (f + k % l - f) = k % l := by rw [IntKind.wrap_i64]; omega
          have x3 : IntKind.i64.wrap (k % l) = k % l := by rw [IntKind.wrap_i64]; omega
          have x4 : IntKind.i64.wrap (l - n) = l - n := by rw [IntKind.wrap_i64]; omega
          by_cases hq : k = st
          · subst hq
            have z1 : decide (k % l ≤ l - n) = true := by simp; omega
            clear hbk
            go_wp2_with fail
            refine wp_calm (fun w' => St (fun _ => False) w w' [Blk w.heap.size #[.int .i64 f, .int .i64 l] 23]) (by kernel_rfl) (by kernel_rfl) (HL.drew) ?_
            iterate 12 first
              | (apply calm_pass
                 · rfl
                 intro K hK
                 go_simp
                 refine hK _ ?_
                 clear hK K)
              | (apply calm_step
                 · rfl
                 · intro w1 h1
                   have c0 := h1.cell 0 0 rfl rfl
                   have c1 := h1.cell 0 1 rfl rfl
                   go_simp
                   first
                     | rfl
                     | exact ⟨rfl, h1⟩
                     | (go_at_call 11; with_reducible exact St.callPast (kb w1) h1)
                     | (trace_state; fail)
                 intro K hK
                 go_simp
                 refine hK _ ?_
                 clear hK K)
            refine calm_nil ?_
            intro w6 H6
            go_wp2
            go_roundw
            case rel => exact ⟨k + 1, by omega, by omega, rfl, H6⟩
            case measure => simp [intOf]; omega
          · have h4 := hf4h.out k hk1 (by omega)
            have z1 : decide (k % l ≤ l - n) = false := by simp; omega
            have z2 : (k == st) = false := by simpa using hq
            clear hbk
            go_wp2_with fail
            refine wp_calm (fun w' => St (fun _ => False) w w' [Blk w.heap.size #[.int .i64 f, .int .i64 l] 23]) (by kernel_rfl) (by kernel_rfl) (HL.drew) ?_
            iterate 12 first
              | (apply calm_pass
                 · rfl
                 intro K hK
                 go_simp
                 refine hK _ ?_
                 clear hK K)
              | (apply calm_step
                 · rfl
                 · intro w1 h1
                   have c0 := h1.cell 0 0 rfl rfl
                   have c1 := h1.cell 0 1 rfl rfl
                   go_simp
                   first
                     | rfl
                     | exact ⟨rfl, h1⟩
                     | (go_at_call 11; with_reducible exact St.callPast (kb w1) h1)
                     | (trace_state; fail)
                 intro K hK
                 go_simp
                 refine hK _ ?_
                 clear hK K)
            refine calm_nil ?_
            intro w6 H6
            go_wp2
            go_roundw
            case rel => exact ⟨k + 1, by omega, by omega, rfl, H6⟩
            case measure => simp [intOf]; omega
        · have z1 : decide (k ≤ st) = false := by simpa using hle
          go_wp2
          go_ret
          exact ⟨rfl, HL.below (Nat.le_refl _) (fun _ h => h.elim)⟩
    · have e1 := start_no h0
      rw [e1]
      clear e1 h0
      go_wp2
      go_ret
      exact ⟨rfl, H2.below (Nat.le_refl _) (fun _ h => h.elim)⟩

theorem walk (v0 v1 v2 : Value) (w : World) (h0 : R Try.prog w 23 v0.cells.toList) (s0 : ∃ cs, v0 = .agg cs) (_h1 : R Try.prog w 3 v1.cells.toList) (s1 : ∃ n, v1 = .int .i64 n)
    (h2 : R Try.prog w 3 v2.cells.toList) (s2 : ∃ n, v2 = .int .i64 n) :
    Calls Try.prog 3 #[v0, v1, v2] w fun e w' => e = .returned (.bool true) ∧ Below w.heap.size w w' := by
  obtain ⟨v, rfl⟩ := s1
  obtain ⟨n, rfl⟩ := s2
  obtain ⟨f, l, rfl, _, hl⟩ := ring_read_in h0 s0
  obtain ⟨n', e, hn⟩ := R.int Try.underlying3 h2
  have e2 : n = n' := by simpa [Value.cells] using e
  subst e2
  simp only [Lit.wf, Bool.and_eq_true, decide_eq_true_eq] at hl hn
  exact starts_walk f l v n w hl hn

set_option maxRecDepth 100000 in
theorem lifted (os : Os) (started : os.Started) (H : Type) (enc : TypeId × Value → H) :
    ReturnsInHanded {} Try.checked os 3 .any (Rows.ringStartsSpec.pre6 enc Try.prog Try.f3 Rows.ringStartsRow.domain false) (Rows.ringStartsSpec.post enc Try.prog Try.f3 false true false false) := by
  refine returnsInHanded_of_change (C := Try.checked) own started (by kernel_rfl) Try.func3
    (ChangeSpec.witness6 (enc := enc) (C := Try.checked) false ⟨#[], #[.agg #[.int .i64 0, .int .i64 0], .int .i64 0, .int .i64 0], []⟩ 8 (by kernel_rfl) (by kernel_rfl) (by kernel_rfl) (by kernel_rfl)) ?_
  intro W base args ds gs before hval0 hW hcnd _
  have hval : ∀ (j : Nat) t v, Try.f3.params[j]? = some t → args[j]? = some v → Value.okWide Try.prog W .any base t v := hval0
  have hW' := hW
  obtain ⟨p, q, hA0, hV, rfl, hfz, hnd⟩ := hW
  have hA : DataW.TrodAll enc Try.prog W 0 (fun _ => true) true Try.f3.params.toList args.toList ds p := hA0
  rw [Try.params3] at hA hval
  obtain ⟨v0, vs0, d0, ds0, p0, q0, hargs, rfl, rfl, h0, r0⟩ := trodAll_cons hA
  obtain ⟨v1, vs1, d1, ds1, p1, q1, rfl, rfl, rfl, h1, r1⟩ := trodAll_cons r0
  obtain ⟨v2, vs2, d2, ds2, p2, q2, rfl, rfl, rfl, h2, r2⟩ := trodAll_cons r1
  obtain ⟨rfl, rfl, rfl⟩ := trodAll_nil r2
  obtain rfl : args = #[v0, v1, v2] := by cases args; simp_all
  obtain ⟨rfl, rfl⟩ := trodVars_none hV
  have lt0 : ∀ x ∈ p0, x.block < W.heap.size := by obtain ⟨m, hm⟩ := h0; exact DataW.trod_lt m _ _ _ hm
  have w0 : R Try.prog W 23 v0.cells.toList := by
    obtain ⟨m, hm⟩ := h0
    exact ⟨H, enc, _, _, m, _, hm⟩
  have s0 : ∃ cs, v0 = .agg cs := by
    obtain ⟨cs, h, _⟩ := okWide_struct Try.underlying23 (hval 0 23 v0 rfl rfl)
    exact ⟨cs, h⟩
  have lt1 : ∀ x ∈ p1, x.block < W.heap.size := by obtain ⟨m, hm⟩ := h1; exact DataW.trod_lt m _ _ _ hm
  have w1 : R Try.prog W 3 v1.cells.toList := by
    obtain ⟨m, hm⟩ := h1
    exact ⟨H, enc, _, _, m, _, hm⟩
  have s1 : ∃ n, v1 = .int .i64 n := okWide_int Try.underlying3 (hval 1 3 v1 rfl rfl)
  have lt2 : ∀ x ∈ p2, x.block < W.heap.size := by obtain ⟨m, hm⟩ := h2; exact DataW.trod_lt m _ _ _ hm
  have w2 : R Try.prog W 3 v2.cells.toList := by
    obtain ⟨m, hm⟩ := h2
    exact ⟨H, enc, _, _, m, _, hm⟩
  have s2 : ∃ n, v2 = .int .i64 n := okWide_int Try.underlying3 (hval 2 3 v2 rfl rfl)
  clear hA0 hval0
  refine (walk v0 v1 v2 W w0 s0 w1 s1 w2 s2).mono fun e W' ⟨he, bel⟩ => ?_
  subst he
  exact ⟨_, rfl, _, _, _, [], _, [], hW', trodAll_mk1 (shut_bool Try.underlying4 _), (trodAll_cons_mk (Below.trod laidOut (by kernel_rfl) (of_decide_eq_true (by kernel_rfl)) h0 bel lt0) (trodAll_cons_mk (Below.trod laidOut (by kernel_rfl) (of_decide_eq_true (by kernel_rfl)) h1 bel lt1) (trodAll_cons_mk (Below.trod laidOut (by kernel_rfl) (of_decide_eq_true (by kernel_rfl)) h2 bel lt2) trodAll_mk0))), rfl, bel.frame _, fun h => by cases h⟩

theorem over : Rows.ringStartsRow.holds Try.pinned (OpenSpec.ofChange Rows.ringStartsSpec) :=
  OpenClaim.holds_of_wide 3 Try.f3 rfl rfl rfl rfl rfl rfl rfl ⟨rfl, rfl, rfl, rfl, rfl⟩ rfl rfl rfl rfl rfl (by kernel_rfl) Try.func3 (by kernel_rfl)
    (of_decide_eq_true (by kernel_rfl)) (by unfold Func.isWrapper; first | (rw [if_pos (by decide +kernel)]; kernel_rfl) | (rw [if_neg (by decide +kernel)]; exact ⟨rfl, rfl⟩))
    (fun os started H enc _ => lifted os started H enc)

/-- THE STATEMENT -/
theorem proved : Rows.RingStartsSaid := over
#print axioms proved
end Go.Proofs.Ytbikjhmdpgoofab.ringStarts
