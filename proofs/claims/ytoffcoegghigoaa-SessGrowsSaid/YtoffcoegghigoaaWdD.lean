/- slices.Clone and BinarySearchFunc at windows, with Place. -/
import Derived.Test.YtoffcoegghigoaaWdB
namespace Go.Proofs.Ytoffcoegghigoaa
open Go.RowKit

set_option maxHeartbeats 1000000 in
set_option maxRecDepth 100000 in
theorem wds_clone {v : Value} {l : List Wd} {w : World} (hv : WdsRO w v l) (hl : l.length ≤ 4398046511104) :
    Calls Try.prog 58 #[v] w fun e w' => ∃ v', e = .returned v' ∧ St (fun _ => False) w w' [Row 41 3 v' l.length (wds l)] := by
  obtain ⟨ad, cap, rfl, h0, hcell⟩ := hv.cells
  cases ad with
  | none =>
    obtain rfl := h0 rfl
    have hq := fun w => Lib.run_eql_slice_nil (P := Try.prog) w 39 41 none 0 cap 0 0 Try.underlying39
    go_enter Try.func58, Try.ntmps58
    go_wp2
    go_ret
    exact ⟨_, rfl, (St.nil _ w).row_nil 41 3⟩
  | some a =>
    have hnew : St (fun _ => False) w (w.alloc (.cells #[] 41)) [Row 41 3 (.slice (some ⟨w.heap.size, 0, none⟩) 0 0) 0 []] := by
      refine ⟨(Kept.refl _ _).alloc _, fun k => k = w.heap.size, ⟨?_, fun k => by simp [Value.ownBlock, eq_comm]⟩, fun k h => .inr (by omega), trivial⟩
      exact World.ownsRow_lit w #[] 0 (Nat.zero_le _) (by simp [maxLen]) rfl
    have hnews : ∀ p, some a = some p → ∀ j u, (wds l)[j]? = some u → (w.alloc (.cells #[] 41)).cell? (p.add j) = some u := fun p hp j u hj => Lib.cell?_alloc_some _ (hcell p hp j u hj)
    have hlen := wds_len l
    have hb : (0 + l.length) * 32 ≤ 140737488355328 := by omega
    have h1 := wds_one1 l
    clear hcell h0
    have hq := fun w => Lib.run_eql_slice_nil (P := Try.prog) w 39 41 (some a) l.length cap 0 0 Try.underlying39
    go_enter Try.func58, Try.ntmps58
    go_wp2_with (at_builtin; go_must (refine St.list_add hnew 0 rfl rfl (.tmp 5) (.tmp 6) 39 rfl Try.underlying39 Try.info41 (by decide) rfl (wds l) rfl hlen (by intro h; cases h) hnews h1 hb ?_; intro v' w1 H1 hz))
    go_ret
    exact ⟨v', rfl, by simpa using H1⟩

def FoundAt (k : Nat) (e : Ending) : Prop := ∃ bv, e = .returned (.tuple #[.int .i64 k, .bool bv])
theorem FoundAt.mk (k : Nat) (bv : Bool) : FoundAt k (.returned (.tuple #[.int .i64 k, .bool bv])) := ⟨bv, rfl⟩
def placeV : Value := .func (.func 60) #[] #[]
set_option maxHeartbeats 4000000 in
set_option maxRecDepth 100000 in
theorem wds_search {v : Value} {l : List Wd} {x : Wd} {w : World} {k : Nat} (hv : WdsRO w v l) (hl : l.length ≤ 4611686018427387904) (hk : k ≤ l.length)
    (hlo : ∀ (j : Nat) y, j < k → l[j]? = some y → y.place x < 0) (hhi : ∀ (j : Nat) y, k ≤ j → l[j]? = some y → 0 ≤ y.place x) :
    Calls Try.prog 59 #[v, wdV x, placeV] w fun e w' => FoundAt k e ∧ Below w.heap.size w w' := by
  obtain ⟨ao, cap, rfl, hcap, hfit, hic⟩ := hv
  obtain ⟨xk, xf, xt⟩ := x
  have H0 : St (fun _ => False) w _ [_] := (St.nil (fun _ => False) w).allocAt rfl #[.string ⟨xk.toArray⟩, .int .i64 xf, .int .i64 xt] 41
  have hloh := Lib.hid hlo
  have hhih := Lib.hid hhi
  have hich := Lib.hid hic
  clear hlo hhi hic
  unfold placeV wdV wdC textV
  simp only
  go_enter Try.func59, Try.ntmps59
  go_upto_region 1 with (fail)
  obtain ⟨wb, hwb⟩ : ∃ wb, w.alloc (.cells #[.string ⟨xk.toArray⟩, .int .i64 xf, .int .i64 xt] 41) = wb := ⟨_, rfl⟩
  obtain ⟨xb, hxb⟩ : ∃ xb, w.heap.size = xb := ⟨_, rfl⟩
  rw [hwb, hxb] at H0
  try rw [hwb]
  try simp only [hxb]
  have H1 : St (fun _ => False) w wb [Blk xb #[.string ⟨xk.toArray⟩, .int .i64 xf, .int .i64 xt] 41] := H0
  have hxbh := Lib.hid hxb
  clear hwb hxb H0
  go_upto_block 1 with (fail)
  go_loopw [9, 10, 11] (fun s u _ wr => ∃ (i j : Nat), s = .int .i64 i ∧ u = .int .i64 j ∧ i ≤ k ∧ k ≤ j ∧ j ≤ l.length ∧ St (fun _ => False) w wr [Blk xb #[.string ⟨xk.toArray⟩, .int .i64 xf, .int .i64 xt] 41]) (fun s u _ _ => (intOf u).toNat - (intOf s).toNat)
  case atStart => exact ⟨0, l.length, rfl, rfl, by omega, hk, by omega, H1⟩
  case round =>
    clear H1
    obtain ⟨i, j, rfl, rfl, hik, hkj, hjl, HM⟩ := hrel
    by_cases hlt : i < j
    · obtain ⟨b, o, rfl, hb, hc⟩ := hich.out (by intro e; rw [e] at hjl; simp at hjl; omega)
      have hhlt : i ≤ (i + j) / 2 ∧ (i + j) / 2 < j := by omega
      have wh : ((i : Int) + (j : Int)) / 2 = (((i + j) / 2 : Nat) : Int) := by omega
      obtain ⟨h, hh⟩ : ∃ h, (i + j) / 2 = h := ⟨_, rfl⟩
      rw [hh] at hhlt wh
      obtain ⟨z, hz⟩ : ∃ z, l[h]? = some z := ⟨_, List.getElem?_eq_getElem (by omega)⟩
      have g1 := hc h z hz
      have kp := fun w' => wd_place z ⟨xk, xf, xt⟩ w'
      have hhn : (h : Int) < (l.length : Int) := by omega
      have hhn' : h < l.length := by omega
      have hzh := Lib.hid hz
      obtain ⟨P, hP⟩ : ∃ P, z.place ⟨xk, xf, xt⟩ = P := ⟨_, rfl⟩
      rw [hP] at kp
      have hPh := Lib.hid hP
      clear hh hz hc hP
      obtain ⟨zk, zf, zt⟩ := z
      unfold wdV wdC textV at kp
      simp only at kp
      go_upto_region 5 with (fail)
      refine wp_calm (fun w' => St (fun _ => False) w w' [Blk xb #[.string ⟨xk.toArray⟩, .int .i64 xf, .int .i64 xt] 41]) (by kernel_rfl) (by kernel_rfl) (HM.drew) ?_
      iterate 8 first
        | (apply calm_pass
           · rfl
           intro K hK
           go_simp
           refine hK _ ?_
           clear hK K)
        | (apply calm_step
           · rfl
           · intro w1 h1
             have d0 := h1.cell 0 0 rfl rfl
             have d1 := h1.cell 0 1 rfl rfl
             have d2 := h1.cell 0 2 rfl rfl
             obtain ⟨p0, p1, p2⟩ := wd_cells g1 (h1.kept.block b hb id)
             unfold textV at p0
             simp only at p0 p1 p2
             first
               | (go_simp
                  first
                    | rfl
                    | exact ⟨rfl, h1⟩
                    | (go_at_call 60; with_reducible exact St.callPast (kp w1) h1)
                 )
           intro K hK
           go_simp
           refine hK _ ?_
           clear hK K)
      refine calm_nil ?_
      intro w2 H2
      clear kp HM
      by_cases hlt2 : P < 0
      · go_wp2
        go_roundw
        case rel =>
          refine ⟨h + 1, j, by go_num, rfl, ?_, by omega, hjl, H2⟩
          refine Classical.byContradiction fun hcc => ?_
          have := hhih.out h _ (by omega) hzh.out
          rw [hPh.out] at this
          omega
        case measure => simp [intOf]; omega
      · go_wp2
        go_roundw
        case rel =>
          refine ⟨i, h, rfl, by go_num, by omega, ?_, by omega, H2⟩
          refine Classical.byContradiction fun hcc => ?_
          have := hloh.out h _ (by omega) hzh.out
          rw [hPh.out] at this
          omega
        case measure => simp [intOf]; omega
    · obtain rfl : i = k := by omega
      obtain rfl : i = j := by omega
      by_cases hil : i < l.length
      · obtain ⟨b, o, rfl, hb, hc⟩ := hich.out (by intro e; rw [e] at hil; simp at hil)
        obtain ⟨z, hz⟩ : ∃ z, l[i]? = some z := ⟨_, List.getElem?_eq_getElem hil⟩
        have g1 := hc i z hz
        have kp := fun w' => wd_place z ⟨xk, xf, xt⟩ w'
        have hil' : (i : Int) < (l.length : Int) := by omega
        obtain ⟨P, hP⟩ : ∃ P, z.place ⟨xk, xf, xt⟩ = P := ⟨_, rfl⟩
        rw [hP] at kp
        clear hz hc hP
        obtain ⟨zk, zf, zt⟩ := z
        unfold wdV wdC textV at kp
        simp only at kp
        go_upto_region 8 with (fail)
        refine wp_calm (fun w' => St (fun _ => False) w w' [Blk xb #[.string ⟨xk.toArray⟩, .int .i64 xf, .int .i64 xt] 41]) (by kernel_rfl) (by kernel_rfl) (HM.drew) ?_
        iterate 16 first
          | (apply calm_pass
             · rfl
             intro K hK
             go_simp
             refine hK _ ?_
             clear hK K)
          | (apply calm_step
             · rfl
             · intro w1 h1
               have d0 := h1.cell 0 0 rfl rfl
               have d1 := h1.cell 0 1 rfl rfl
               have d2 := h1.cell 0 2 rfl rfl
               obtain ⟨p0, p1, p2⟩ := wd_cells g1 (h1.kept.block b hb id)
               unfold textV at p0
               simp only at p0 p1 p2
               first
                 | (go_simp
                    first
                      | rfl
                      | exact ⟨rfl, h1⟩
                      | (go_at_call 60; with_reducible exact St.callPast (kp w1) h1)
                   )
             intro K hK
             go_simp
             refine hK _ ?_
             clear hK K)
        refine calm_nil ?_
        intro w2 H2
        go_wp2
        go_ret2
        exact ⟨FoundAt.mk _ _, H2.below (Nat.le_refl _) (fun _ h => h.elim)⟩
      · have z1 : decide ((i : Int) < (l.length : Int)) = false := by simp; omega
        have z2 : decide (i < l.length) = false := by simp; omega
        go_upto_region 8 with (fail)
        refine wp_calm (fun w' => St (fun _ => False) w w' [Blk xb #[.string ⟨xk.toArray⟩, .int .i64 xf, .int .i64 xt] 41]) (by kernel_rfl) (by kernel_rfl) (HM.drew) ?_
        iterate 16 first
          | (apply calm_pass
             · rfl
             intro K hK
             go_simp
             refine hK _ ?_
             clear hK K)
          | (apply calm_step
             · rfl
             · intro w1 h1
               first
                 | (go_simp
                    first
                      | rfl
                      | exact ⟨rfl, h1⟩
                   )
             intro K hK
             go_simp
             refine hK _ ?_
             clear hK K)
        refine calm_nil ?_
        intro w2 H2
        go_wp2
        go_ret2
        exact ⟨FoundAt.mk _ _, H2.below (Nat.le_refl _) (fun _ h => h.elim)⟩
end Go.Proofs.Ytoffcoegghigoaa
