/- sess: which lists are settled. -/
import Derived.Test.YtoffcoegghigoaaWdB
namespace Go.Proofs.Ytoffcoegghigoaa
open Go.RowKit

def goodAt (l : List Wd) (k : Nat) : Prop := ∀ x, l[k]? = some x → x.right = true ∧ ∀ j y, j + 1 = k → l[j]? = some y → y.place x < 0 ∧ y.joins x = false
def Stl (l : List Wd) : Prop := ∀ k, goodAt l k
noncomputable def stl (l : List Wd) : Bool := @decide (Stl l) (Classical.propDecidable _)
theorem stl_true {l : List Wd} : stl l = true ↔ Stl l := by unfold stl; simp
theorem stl_false {l : List Wd} : stl l = false ↔ ¬ Stl l := by unfold stl; simp
theorem goodAt_last {l : List Wd} (h : ∀ k, k < l.length → goodAt l k) : Stl l := fun k => by
  by_cases hk : k < l.length
  · exact h k hk
  · intro x hx
    rw [List.getElem?_eq_none (by omega)] at hx
    cases hx

set_option maxHeartbeats 4000000 in
set_option maxRecDepth 100000 in
theorem sess_settled {v : Value} {l : List Wd} (w : World) (hv : WdsRO w v l) (hl : l.length ≤ 9223372036854775807) :
    Calls Try.prog 27 #[v] w fun e w' => e = .returned (.bool (stl l)) ∧ Below w.heap.size w w' := by
  obtain ⟨ao, cap, rfl, hcap, hfit, hic⟩ := hv
  have H0 : St (fun _ => False) w w [] := St.nil _ w
  go_enter Try.func27, Try.ntmps27
  go_upto_block 1 with (fail)
  go_loopw [3, 7] (fun _ j wr => ∃ (i : Nat), i ≤ l.length ∧ j = .int .i64 i ∧ Hid (∀ k, k < i → goodAt l k) ∧ St (fun _ => False) w wr []) (fun _ j _ => l.length - (intOf j).toNat)
  case atStart => exact ⟨0, by omega, rfl, Lib.hid (fun k hk => absurd hk (by omega)), H0⟩
  case round =>
    clear H0
    obtain ⟨i, hi, rfl, hg, HM⟩ := hrel
    by_cases hlt : i < l.length
    · obtain ⟨b, o, rfl, hb, hc⟩ := hic (by intro e; rw [e] at hlt; simp at hlt)
      obtain ⟨x, hx⟩ : ∃ x, l[i]? = some x := ⟨_, List.getElem?_eq_getElem hlt⟩
      have hxf := hfit x (List.mem_of_getElem? hx)
      have g1 := hc i x hx
      obtain ⟨q0, q1, q2⟩ := wd_cells g1 (HM.kept.block b hb id)
      have kr := fun w' => wd_right x hxf w'
      have hxh := Lib.hid hx
      obtain ⟨r, hr⟩ : ∃ r, x.right = r := ⟨_, rfl⟩
      rw [hr] at kr
      have hrh := Lib.hid hr
      have hcs : r = false ∨ (r = true ∧ (decide ((0 : Int) < (i : Int)) = false ∧ decide (0 < i) = false)) ∨ (r = true ∧ ∃ y i0, l[i0]? = some y ∧ i0 + 1 = i) := by
        cases r with
        | false => exact .inl rfl
        | true =>
          by_cases h0 : i = 0
          · exact .inr (.inl ⟨rfl, by simp; omega, by simp; omega⟩)
          · exact .inr (.inr ⟨rfl, l[i - 1], i - 1, List.getElem?_eq_getElem (by omega), by omega⟩)
      have hnx : x.right = true → (∀ i0 y, i0 + 1 = i → l[i0]? = some y → y.place x < 0 ∧ y.joins x = false) → ∀ k, k < i + 1 → goodAt l k := by
        intro h1 h2 k hk
        by_cases e : k = i
        · subst e
          intro x' hx'
          rw [hx] at hx'
          obtain rfl := Option.some.inj hx'
          exact ⟨h1, fun j y hj hy => h2 j y hj hy⟩
        · exact hg.out k (by omega)
      have hnxh := Lib.hid hnx
      have hfith := Lib.hid hfit
      have hch := Lib.hid hc
      clear hr hnx hx hc hic hfit hg
      obtain ⟨xk, xf, xt⟩ := x
      unfold wdV wdC textV at kr
      simp only at q0 q1 q2 kr
      unfold textV at q0
      have HA : St (fun _ => False) w _ [_] := HM.allocAt rfl #[.string ⟨xk.toArray⟩, .int .i64 xf, .int .i64 xt] 41
      go_upto_region 4 with (fail)
      obtain ⟨wb, hwb⟩ : ∃ wb, wr.alloc (.cells #[.string ⟨xk.toArray⟩, .int .i64 xf, .int .i64 xt] 41) = wb := ⟨_, rfl⟩
      obtain ⟨xb, hxb⟩ : ∃ xb, wr.heap.size = xb := ⟨_, rfl⟩
      rw [hwb, hxb] at HA
      try rw [hwb]
      try simp only [hxb]
      have HA2 : St (fun _ => False) w wb [Blk xb #[.string ⟨xk.toArray⟩, .int .i64 xf, .int .i64 xt] 41] := HA
      clear hwb hxb q0 q1 q2 HM HA
      rcases hcs with rfl | ⟨rfl, z1, z3⟩ | ⟨rfl, y, i0, hy, hii⟩
      · refine wp_calm (fun w' => St (fun _ => False) w w' [Blk xb #[.string ⟨xk.toArray⟩, .int .i64 xf, .int .i64 xt] 41]) (by kernel_rfl) (by kernel_rfl) (HA2.drew) ?_
        iterate 26 first
          | (apply calm_pass
             · rfl
             intro K hK
             go_simp
             refine hK _ ?_
             clear hK K)
          | (apply calm_step
             · rfl
             · intro w1 h1
               have d0 := h1.cell 0 0 rfl rfl
               have d1 := h1.cell 0 1 rfl rfl
               have d2 := h1.cell 0 2 rfl rfl
               first
                 | (go_simp
                    first
                      | rfl
                      | exact ⟨rfl, h1⟩
                      | (go_at_call 56; with_reducible exact St.callPast (kr w1) h1)
                   )
             intro K hK
             go_simp
             refine hK _ ?_
             clear hK K)
        refine calm_nil ?_
        intro w5 H5
        go_wp2
        go_ret
        have hno : stl l = false := stl_false.2 (fun h => by have := (h i _ hxh.out).1; rw [hrh.out] at this; cases this)
        rw [hno]
        exact ⟨rfl, H5.below (Nat.le_refl _) (fun _ h => h.elim)⟩
      · refine wp_calm (fun w' => St (fun _ => False) w w' [Blk xb #[.string ⟨xk.toArray⟩, .int .i64 xf, .int .i64 xt] 41]) (by kernel_rfl) (by kernel_rfl) (HA2.drew) ?_
        iterate 26 first
          | (apply calm_pass
             · rfl
             intro K hK
             go_simp
             refine hK _ ?_
             clear hK K)
          | (apply calm_step
             · rfl
             · intro w1 h1
               have d0 := h1.cell 0 0 rfl rfl
               have d1 := h1.cell 0 1 rfl rfl
               have d2 := h1.cell 0 2 rfl rfl
               first
                 | (go_simp
                    first
                      | rfl
                      | exact ⟨rfl, h1⟩
                      | (go_at_call 56; with_reducible exact St.callPast (kr w1) h1)
                   )
             intro K hK
             go_simp
             refine hK _ ?_
             clear hK K)
        refine calm_nil ?_
        intro w5 H5
        go_wp2
        go_roundw
        case rel => exact ⟨i + 1, by omega, by go_num, Lib.hid (hnxh.out hrh.out (fun i0 y h _ => by simp at z3; omega)), St.tail H5⟩
        case measure => simp [intOf]; omega
      · have hyf := hfith.out y (List.mem_of_getElem? hy)
        have g2 := hch.out i0 y hy
        have kp := fun w' => wd_place y ⟨xk, xf, xt⟩ w'
        have kj := fun w' => wd_joins y ⟨xk, xf, xt⟩ hyf hxf w'
        have hyx : Hid (∀ i1 y1, i1 + 1 = i → l[i1]? = some y1 → i1 = i0 ∧ y1 = y) := Lib.hid (fun i1 y1 h1 h2 => by
          obtain rfl : i1 = i0 := by omega
          rw [hy] at h2
          exact ⟨rfl, (Option.some.inj h2).symm⟩)
        have hyh := Lib.hid hy
        have hiih := Lib.hid hii
        obtain ⟨P, hP⟩ : ∃ P, y.place ⟨xk, xf, xt⟩ = P := ⟨_, rfl⟩
        obtain ⟨J, hJ⟩ : ∃ J, y.joins ⟨xk, xf, xt⟩ = J := ⟨_, rfl⟩
        rw [hP] at kp
        rw [hJ] at kj
        have hPh := Lib.hid hP
        have hJh := Lib.hid hJ
        have wi : IntKind.i64.wrap ((i : Int) - 1) = (i0 : Int) := by rw [IntKind.wrap_i64]; omega
        have z1 : decide ((0 : Int) < (i : Int)) = true := by simp; omega
        have z3 : decide (0 < i) = true := by simp; omega
        have z2 : (i0 : Int) < (l.length : Int) := by omega
        have z2' : i0 < l.length := by omega
        clear hii hy hP hJ
        obtain ⟨yk, yf, yt⟩ := y
        unfold wdV wdC textV at kp kj
        simp only at kp kj
        by_cases hp0 : 0 ≤ P
        · have hp1 : ¬ P < 0 := by omega
          refine wp_calm (fun w' => St (fun _ => False) w w' [Blk xb #[.string ⟨xk.toArray⟩, .int .i64 xf, .int .i64 xt] 41]) (by kernel_rfl) (by kernel_rfl) (HA2.drew) ?_
          iterate 26 first
            | (apply calm_pass
               · rfl
               intro K hK
               go_simp
               refine hK _ ?_
               clear hK K)
            | (apply calm_step
               · rfl
               · intro w1 h1
                 have d0 := h1.cell 0 0 rfl rfl
                 have d1 := h1.cell 0 1 rfl rfl
                 have d2 := h1.cell 0 2 rfl rfl
                 obtain ⟨p0, p1, p2⟩ := wd_cells g2 (h1.kept.block b hb id)
                 simp only at p0 p1 p2
                 unfold textV at p0
                 first
                   | (go_simp
                      first
                        | rfl
                        | exact ⟨rfl, h1⟩
                        | (go_at_call 56; with_reducible exact St.callPast (kr w1) h1)
                        | (go_at_call 60; with_reducible exact St.callPast (kp w1) h1)
                        | (go_at_call 23; with_reducible exact St.callPast (kj w1) h1)
                     )
               intro K hK
               go_simp
               refine hK _ ?_
               clear hK K)
          refine calm_nil ?_
          intro w5 H5
          go_wp2
          go_ret
          have hno : stl l = false := stl_false.2 (fun h => by
            have := ((h i _ hxh.out).2 i0 _ hiih.out hyh.out).1
            rw [hPh.out] at this
            omega)
          rw [hno]
          exact ⟨rfl, H5.below (Nat.le_refl _) (fun _ h => h.elim)⟩
        · have hp1 : P < 0 := by omega
          cases J with
          | true =>
            refine wp_calm (fun w' => St (fun _ => False) w w' [Blk xb #[.string ⟨xk.toArray⟩, .int .i64 xf, .int .i64 xt] 41]) (by kernel_rfl) (by kernel_rfl) (HA2.drew) ?_
            iterate 26 first
              | (apply calm_pass
                 · rfl
                 intro K hK
                 go_simp
                 refine hK _ ?_
                 clear hK K)
              | (apply calm_step
                 · rfl
                 · intro w1 h1
                   have d0 := h1.cell 0 0 rfl rfl
                   have d1 := h1.cell 0 1 rfl rfl
                   have d2 := h1.cell 0 2 rfl rfl
                   obtain ⟨p0, p1, p2⟩ := wd_cells g2 (h1.kept.block b hb id)
                   simp only at p0 p1 p2
                   unfold textV at p0
                   first
                     | (go_simp
                        first
                          | rfl
                          | exact ⟨rfl, h1⟩
                          | (go_at_call 56; with_reducible exact St.callPast (kr w1) h1)
                          | (go_at_call 60; with_reducible exact St.callPast (kp w1) h1)
                          | (go_at_call 23; with_reducible exact St.callPast (kj w1) h1)
                       )
                 intro K hK
                 go_simp
                 refine hK _ ?_
                 clear hK K)
            refine calm_nil ?_
            intro w5 H5
            go_wp2
            go_ret
            have hno : stl l = false := stl_false.2 (fun h => by
              have := ((h i _ hxh.out).2 i0 _ hiih.out hyh.out).2
              rw [hJh.out] at this
              cases this)
            rw [hno]
            exact ⟨rfl, H5.below (Nat.le_refl _) (fun _ h => h.elim)⟩
          | false =>
            refine wp_calm (fun w' => St (fun _ => False) w w' [Blk xb #[.string ⟨xk.toArray⟩, .int .i64 xf, .int .i64 xt] 41]) (by kernel_rfl) (by kernel_rfl) (HA2.drew) ?_
            iterate 26 first
              | (apply calm_pass
                 · rfl
                 intro K hK
                 go_simp
                 refine hK _ ?_
                 clear hK K)
              | (apply calm_step
                 · rfl
                 · intro w1 h1
                   have d0 := h1.cell 0 0 rfl rfl
                   have d1 := h1.cell 0 1 rfl rfl
                   have d2 := h1.cell 0 2 rfl rfl
                   obtain ⟨p0, p1, p2⟩ := wd_cells g2 (h1.kept.block b hb id)
                   simp only at p0 p1 p2
                   unfold textV at p0
                   first
                     | (go_simp
                        first
                          | rfl
                          | exact ⟨rfl, h1⟩
                          | (go_at_call 56; with_reducible exact St.callPast (kr w1) h1)
                          | (go_at_call 60; with_reducible exact St.callPast (kp w1) h1)
                          | (go_at_call 23; with_reducible exact St.callPast (kj w1) h1)
                       )
                 intro K hK
                 go_simp
                 refine hK _ ?_
                 clear hK K)
            refine calm_nil ?_
            intro w5 H5
            go_wp2
            go_roundw
            case rel => exact ⟨i + 1, by omega, by go_num, Lib.hid (hnxh.out hrh.out (fun i1 y1 h1 h2 => by obtain ⟨rfl, rfl⟩ := hyx.out i1 y1 h1 h2; rw [hPh.out, hJh.out]; exact ⟨hp1, rfl⟩)), St.tail H5⟩
            case measure => simp [intOf]; omega
    · obtain rfl : i = l.length := by omega
      have hyes : stl l = true := stl_true.2 (goodAt_last hg.out)
      have hyh := Lib.hid hyes
      clear hyes
      go_wp2
      go_ret
      rw [hyh.out]
      exact ⟨rfl, HM.below (Nat.le_refl _) (fun _ h => h.elim)⟩
end Go.Proofs.Ytoffcoegghigoaa
