import Derived.Test.YtiglgfonhdfpmaaGreatOr3
import Derived.Lib.AppendZeros
import Derived.Laws.CopyRow
import Derived.LaidEql
/- The document's Place and Same of windows; the law's great. -/
set_option linter.unusedVariables false
set_option linter.unusedSimpArgs false
set_option maxHeartbeats 16000000
set_option maxRecDepth 100000
namespace Go.Proofs.YtiglgfonhdfpmaaGreat
open Go.RowKit
theorem ref_keys (a b : List UInt8) (w : World) : Calls Tryz.prog 211 #[.string ⟨a.toArray⟩, .string ⟨b.toArray⟩] w fun e w' => e = .returned (.int .i64 (Lib.compareBytes a b)) ∧ w' = w := by
 have h1 := less_cmp a b; have h2 := compare_lim a b; have h3 := cb_zero a b; obtain ⟨c, hc⟩ := zNm (Lib.compareBytes a b); rw [hc] at h1 h2 h3 ⊢; clear hc
 by_cases hn : c < 0
 · obtain rfl : c = -1 := by omega
   have z1 : Op.bytesLess a b = true := by rw [h1]; rfl
   clear h1 h3
   go_enter Tryz.func211, Tryz.ntmps211
   go_wp2; go_ret; exact ⟨rfl, rfl⟩
 · have z1 : Op.bytesLess a b = false := by rw [h1]; simp; omega
   by_cases h0 : c = 0
   · have e := h3.1 h0; subst e h0; clear h1 h3
     go_enter Tryz.func211, Tryz.ntmps211
     go_wp2; go_ret; exact ⟨rfl, rfl⟩
   · obtain rfl : c = 1 := by omega
     have z2 : (a == b) = false := by
      rw [beq_eq_false_iff_ne]; exact fun e => h0 (h3.2 e)
     have z3 : ¬ a = b := fun e => h0 (h3.2 e)
     clear h1 h3 h0
     go_enter Tryz.func211, Tryz.ntmps211
     go_wp2; go_ret; exact ⟨rfl, rfl⟩
theorem ref_order (a b : Int) (w : World) : Calls Tryz.prog 210 #[.int .i64 a, .int .i64 b] w fun e w' => e = .returned (.int .i64 (Lib.compareInt a b)) ∧ w' = w := by
 by_cases h1 : a < b
 · have hr := zH (show Lib.compareInt a b = -1 by unfold Lib.compareInt; rw [if_pos h1])
   have z1 : decide (a < b) = true := by simpa using h1
   go_enter Tryz.func210, Tryz.ntmps210
   go_wp2; go_ret; rw [hr.out]; exact ⟨rfl, rfl⟩
 · have z1 : decide (a < b) = false := by simpa using h1
   by_cases h2 : b < a
   · have hr := zH (show Lib.compareInt a b = 1 by unfold Lib.compareInt; rw [if_neg h1, if_pos h2])
     have z2 : decide (b < a) = true := by simpa using h2
     go_enter Tryz.func210, Tryz.ntmps210
     go_wp2; go_ret; rw [hr.out]; exact ⟨rfl, rfl⟩
   · have hr := zH (show Lib.compareInt a b = 0 by unfold Lib.compareInt; rw [if_neg h1, if_neg h2])
     have z2 : decide (b < a) = false := by simpa using h2
     go_enter Tryz.func210, Tryz.ntmps210
     go_wp2; go_ret; rw [hr.out]; exact ⟨rfl, rfl⟩
abbrev zbyP (a0) (a1) (a2) (a3) := (Blk a0 #[.int .i64 a1, .int .i64 a2, .int .i64 a3] 3 : SP)
theorem ref_place (x y : Wd) (w : World) : Calls Tryz.prog 180 #[wdV x, wdV y] w fun e w' => e = .returned (.int .i64 (x.place y)) ∧ Below w.heap.size w w' := by
 have hp := zH (place_or x y); have l1 := compare_lim x.key y.key; have l2 := compareI_lim x.frm y.frm; have l3 := compareI_lim x.to y.to; obtain ⟨xk, xf, xt⟩ := x; obtain ⟨yk, yf, yt⟩ := y; have H0 : zS w w [] := St.nil (fun _ => False) w
 have H1 : zS w _ [_] := H0.allocAt rfl #[.string ⟨xk.toArray⟩, .int .i64 xf, .int .i64 xt] 61; have H2 : zS w _ [_, _] := H1.allocAt (B := w.heap.size + 1) (Array.size_push _) #[.string ⟨yk.toArray⟩, .int .i64 yf, .int .i64 yt] 61; have k1 := fun w' => ref_keys xk yk w'
 have k2 := fun w' => ref_order xf yf w'
 have k3 := fun w' => ref_order xt yt w'
 simp only at hp l1 l2 l3 k1; obtain ⟨c1, hc1⟩ := zNm (Lib.compareBytes xk yk); obtain ⟨c2, hc2⟩ := zNm (Lib.compareInt xf yf); obtain ⟨c3, hc3⟩ := zNm (Lib.compareInt xt yt); rw [hc1] at l1; rw [hc2] at l2; rw [hc3] at l3; rw [hc1, hc2, hc3] at hp; simp only [hc1] at k1; simp only [hc2] at k2; simp only [hc3] at k3; clear hc1 hc2 hc3; unfold wdV wdC textV; simp only
 go_enter Tryz.func180, Tryz.ntmps180
 go_upto_region 1 with (fail)
 obtain ⟨b, hb⟩ := zNm w.heap.size; obtain ⟨b2, hb2⟩ := zNm (b + 1); obtain ⟨w2, hw2⟩ := zNm ((w.alloc (.cells #[.string ⟨xk.toArray⟩, .int .i64 xf, .int .i64 xt] 61)).alloc (.cells #[.string ⟨yk.toArray⟩, .int .i64 yf, .int .i64 yt] 61)); rw [hw2, hb, hb2] at H2; rw [hw2]; simp only [hb, hb2]; have H2 : zS w w2 [zcP b2 yk.toArray yf yt, zcP b xk.toArray xf xt] := H2; clear hb hb2 hw2 H0 H1; refine wp_script [(0, false), (1, false), (2, false), (3, false), (4, false), (5, false), (6, false), (7, false), (8, false), (9, false), (10, false), (11, false), (12, false), (13, false), (14, false), (17, false), (15, true), (16, false)] (Fam fun w' => zS w w' [zcP b2 yk.toArray yf yt, zcP b xk.toArray xf xt]) (fun w' => zS w w' [zcP b2 yk.toArray yf yt, zcP b xk.toArray xf xt]) (by kernel_rfl) (by rfl) (by kernel_rfl) (by kernel_rfl) H2.drew (Fam.st (fun _ h => h)) ?_
 iterate 16 first | (apply script_pass; rfl; rfl; intro K hK; go_simp; refine hK _ ?_; clear hK K) | (apply script_step; rfl; rfl; (focus (intro I hI w1 h1'; have h1 := hI.2 _ h1'; have d0 := h1.cell 0 0 rfl rfl; have d1 := h1.cell 0 1 rfl rfl; have d2 := h1.cell 0 2 rfl rfl; have e0 := h1.cell 1 0 rfl rfl; have e1 := h1.cell 1 1 rfl rfl; have e2 := h1.cell 1 2 rfl rfl; first | (go_simp; first | rfl | exact ⟨rfl, h1'⟩ | (go_at_call 211; with_reducible exact Fam.call0 h1' (k1 w1)) | (go_at_call 210; with_reducible exact Fam.call0 h1' (k2 w1)) | (go_at_call 210; with_reducible exact Fam.call0 h1' (k3 w1))))); intro K hK; go_simp; refine hK _ ?_; clear hK K)
 obtain ⟨V1, hV1⟩ := hide_rel (fun u I' => ∃ g2, u = .slice (some ⟨g2, 0, none⟩) 3 3 ∧ I' = fun w' => zS w w' [zbyP g2 c1 c2 c3, zcP b2 yk.toArray yf yt, zcP b xk.toArray xf xt])
 refine script_big V1 rfl rfl ?_ ?_
 · intro w1 h1
   go_simp
   exact ⟨_, (hV1.out _ _).2 ⟨_, rfl, rfl⟩, h1.alloc _ _⟩
 intro u I' hvI; obtain ⟨b3, rfl, rfl⟩ := (hV1.out _ _).1 hvI; clear hvI hV1; refine ⟨_, fun _ h => h, Fam.st (fun _ h => h.pick [1, 2]), ?_⟩
 intro K hK
 go_simp
 refine hK _ ?_; clear hK K
 iterate 1 first | (apply script_pass; rfl; rfl; intro K hK; go_simp; refine hK _ ?_; clear hK K) | (apply script_step; rfl; rfl; (focus (intro I hI w1 h1'; have h1 := hI.2 _ h1'; first | (go_simp; first | rfl | exact ⟨rfl, h1'⟩))); intro K hK; go_simp; refine hK _ ?_; clear hK K)
 refine script_nil ?_; intro w4 H4; have H5 : zS w w4 [zbyP b3 c1 c2 c3] := H4.pick [0]
 obtain ⟨ad, cap, hvv, _, hint, hcell⟩ := ints_blk (l := [c1, c2, c3]) (H5.blk 0 rfl) (by
  intro z hz; simp only [List.mem_cons, List.not_mem_nil, or_false] at hz
  omega)
 clear hvv hcell H4 H2 k1 k2 k3
 go_upto_block 1 with (fail)
 go_loopw [6, 24] (fun _ j wr => ∃ (i : Nat), i ≤ 3 ∧ j = .int .i64 i ∧ Hid (∀ y ∈ [c1, c2, c3].take i, y = 0) ∧ zS w wr [zbyP b3 c1 c2 c3]) (fun _ j _ => 3 - (intOf j).toNat)
 case atStart => exact ⟨0, by omega, rfl, zH (by simp), H5⟩
 case round =>
  clear H5; obtain ⟨i, hi, rfl, hz, HM⟩ := hrel
  by_cases hlt : i < 3
  · obtain ⟨x, hx⟩ : ∃ x, [c1, c2, c3][i]? = some x := ⟨_, List.getElem?_eq_getElem hlt⟩
    have c0 : wr.cell? ⟨b3, i, none⟩ = some (.int .i64 x) := HM.cell 0 i rfl (by
     have : (#[Value.int .i64 c1, .int .i64 c2, .int .i64 c3] : Array Value) = ([c1, c2, c3].map (Value.int .i64)).toArray := rfl; rw [this, List.getElem?_toArray, List.getElem?_map, hx]
     rfl)
    have hxh := zH hx; have hlt' : (i : Int) < 3 := by omega
    clear hx hint
    by_cases h0 : x = 0
    · subst h0; go_wp2; go_roundw
      case rel =>
       refine ⟨i + 1, by omega, by go_num, zH ?_, HM⟩
       rw [take_snoc' hxh.out]; intro y hy; rcases List.mem_append.1 hy with hy | hy
       · exact hz.out y hy
       · exact List.mem_singleton.1 hy
      case measure => simp [intOf]; omega
    · have hr := zH (orI_zero hz.out hxh.out h0); have z0 : (x != 0) = true := by simpa using h0
      have z1 : (x == 0) = false := by simpa using h0
      go_wp2; go_ret; rw [← hp.out, hr.out]; exact ⟨rfl, HM.below (Nat.le_refl _) (fun _ h => h.elim)⟩
  · obtain rfl : i = 3 := by omega
    have hr := zH (orI_all (l := [c1, c2, c3]) (by have := hz.out; simpa using this))
    go_wp2; go_ret; rw [← hp.out, hr.out]; exact ⟨rfl, HM.below (Nat.le_refl _) (fun _ h => h.elim)⟩
end Go.Proofs.YtiglgfonhdfpmaaGreat
namespace Go.Proofs.YtiglgfonhdfpmaaGreat
open Go.RowKit
def FoundAt (k : Nat) (e : Ending) : Prop := ∃ bv, e = .returned (.tuple #[.int .i64 k, .bool bv])
theorem FoundAt.mk (k : Nat) (bv : Bool) : FoundAt k (.returned (.tuple #[.int .i64 k, .bool bv])) := ⟨bv, rfl⟩
def placeV : Value := .func (.func 77) #[] #[]
theorem wds_search {v : Value} {l : List Wd} {x : Wd} {w : World} {k : Nat} (hv : WdsRO w v l) (hl : l.length ≤ 4611686018427387904) (hk : k ≤ l.length)
    (hlo : ∀ (j : Nat) y, j < k → l[j]? = some y → y.place x < 0) (hhi : ∀ (j : Nat) y, k ≤ j → l[j]? = some y → 0 ≤ y.place x) :
    Calls Tryz.prog 247 #[v, wdV x, placeV] w fun e w' => FoundAt k e ∧ Below w.heap.size w w' := by
 obtain ⟨ao, cap, rfl, hcap, hfit, hic⟩ := hv; obtain ⟨xk, xf, xt⟩ := x; have H0 : zS w _ [_] := (St.nil (fun _ => False) w).allocAt rfl #[.string ⟨xk.toArray⟩, .int .i64 xf, .int .i64 xt] 61
 have hloh := zH hlo; have hhih := zH hhi; have hich := zH hic; clear hlo hhi hic; unfold placeV wdV wdC textV; simp only
 go_enter Tryz.func247, Tryz.ntmps247
 go_upto_region 1 with (fail)
 obtain ⟨wb, hwb⟩ := zNm (w.alloc (.cells #[.string ⟨xk.toArray⟩, .int .i64 xf, .int .i64 xt] 61)); obtain ⟨xb, hxb⟩ := zNm w.heap.size; rw [hwb, hxb] at H0; (try rw [hwb]); (try simp only [hxb]); have H1 : zS w wb [zcP xb xk.toArray xf xt] := H0; have hxbh := zH hxb; clear hwb hxb H0
 go_upto_block 1 with (fail)
 go_loopw [9, 10, 11] (fun s u _ wr => ∃ (i j : Nat), s = .int .i64 i ∧ u = .int .i64 j ∧ i ≤ k ∧ k ≤ j ∧ j ≤ l.length ∧ zS w wr [zcP xb xk.toArray xf xt]) (fun s u _ _ => (intOf u).toNat - (intOf s).toNat)
 case atStart => exact ⟨0, l.length, rfl, rfl, by omega, hk, by omega, H1⟩
 case round =>
  clear H1; obtain ⟨i, j, rfl, rfl, hik, hkj, hjl, HM⟩ := hrel
  by_cases hlt : i < j
  · obtain ⟨b, o, rfl, hb, hc⟩ := hich.out (by intro e; rw [e] at hjl; simp at hjl; omega)
    have hhlt : i ≤ (i + j) / 2 ∧ (i + j) / 2 < j := by omega
    have wh : ((i : Int) + (j : Int)) / 2 = (((i + j) / 2 : Nat) : Int) := by omega
    obtain ⟨h, hh⟩ := zNm ((i + j) / 2); rw [hh] at hhlt wh; obtain ⟨z, hz⟩ : ∃ z, l[h]? = some z := ⟨_, List.getElem?_eq_getElem (by omega)⟩
    have g1 := hc h z hz; have kp := fun w' => wd_place z ⟨xk, xf, xt⟩ w'
    have hhn : (h : Int) < (l.length : Int) := by omega
    have hhn' : h < l.length := by omega
    have hzh := zH hz; obtain ⟨P, hP⟩ := zNm (z.place ⟨xk, xf, xt⟩); rw [hP] at kp; have hPh := zH hP; clear hh hz hc hP; obtain ⟨zk, zf, zt⟩ := z; unfold wdV wdC textV at kp; simp only at kp; go_upto_region 5 with (fail)
    refine wp_calm (fun w' => zS w w' [zcP xb xk.toArray xf xt]) (by kernel_rfl) (by kernel_rfl) (HM.drew) ?_
    iterate 8 first | (apply calm_pass; rfl; intro K hK; go_simp; refine hK _ ?_; clear hK K) | (apply calm_step; rfl; (focus (intro w1 h1; have d0 := h1.cell 0 0 rfl rfl; have d1 := h1.cell 0 1 rfl rfl; have d2 := h1.cell 0 2 rfl rfl; obtain ⟨p0, p1, p2⟩ := wd_cells g1 (h1.kept.block b hb id); unfold textV at p0; simp only at p0 p1 p2; first | (go_simp; first | rfl | exact ⟨rfl, h1⟩ | (go_at_call 77; with_reducible exact St.callPast (kp w1) h1)))); intro K hK; go_simp; refine hK _ ?_; clear hK K)
    refine calm_nil ?_; intro w2 H2; clear kp HM
    by_cases hlt2 : P < 0
    · go_wp2; go_roundw
      case rel =>
       refine ⟨h + 1, j, by go_num, rfl, ?_, by omega, hjl, H2⟩
       refine Classical.byContradiction fun hcc => ?_
       have := hhih.out h _ (by omega) hzh.out
       rw [hPh.out] at this
       omega
      case measure => simp [intOf]; omega
    · go_wp2; go_roundw
      case rel =>
       refine ⟨i, h, rfl, by go_num, by omega, ?_, by omega, H2⟩
       refine Classical.byContradiction fun hcc => ?_
       have := hloh.out h _ (by omega) hzh.out
       rw [hPh.out] at this
       omega
      case measure => simp [intOf]; omega
  · obtain rfl : i = k := by omega
    obtain rfl : i = j := by omega
    by_cases hil : i < l.length
    · obtain ⟨b, o, rfl, hb, hc⟩ := hich.out (by intro e; rw [e] at hil; simp at hil)
      obtain ⟨z, hz⟩ : ∃ z, l[i]? = some z := ⟨_, List.getElem?_eq_getElem hil⟩; have g1 := hc i z hz; have kp := fun w' => wd_place z ⟨xk, xf, xt⟩ w'
      have hil' : (i : Int) < (l.length : Int) := by omega
      obtain ⟨P, hP⟩ := zNm (z.place ⟨xk, xf, xt⟩); rw [hP] at kp; clear hz hc hP; obtain ⟨zk, zf, zt⟩ := z; unfold wdV wdC textV at kp; simp only at kp; go_upto_region 8 with (fail)
      refine wp_calm (fun w' => zS w w' [zcP xb xk.toArray xf xt]) (by kernel_rfl) (by kernel_rfl) (HM.drew) ?_
      iterate 16 first | (apply calm_pass; rfl; intro K hK; go_simp; refine hK _ ?_; clear hK K) | (apply calm_step; rfl; (focus (intro w1 h1; have d0 := h1.cell 0 0 rfl rfl; have d1 := h1.cell 0 1 rfl rfl; have d2 := h1.cell 0 2 rfl rfl; obtain ⟨p0, p1, p2⟩ := wd_cells g1 (h1.kept.block b hb id); unfold textV at p0; simp only at p0 p1 p2; first | (go_simp; first | rfl | exact ⟨rfl, h1⟩ | (go_at_call 77; with_reducible exact St.callPast (kp w1) h1)))); intro K hK; go_simp; refine hK _ ?_; clear hK K)
      refine calm_nil ?_; intro w2 H2; go_wp2
      go_ret2
      exact ⟨FoundAt.mk _ _, H2.below (Nat.le_refl _) (fun _ h => h.elim)⟩
    · have z1 : decide ((i : Int) < (l.length : Int)) = false := by simp; omega
      have z2 : decide (i < l.length) = false := by simp; omega
      go_upto_region 8 with (fail)
      refine wp_calm (fun w' => zS w w' [zcP xb xk.toArray xf xt]) (by kernel_rfl) (by kernel_rfl) (HM.drew) ?_
      iterate 16 first | (apply calm_pass; rfl; intro K hK; go_simp; refine hK _ ?_; clear hK K) | (apply calm_step; rfl; (focus (intro w1 h1; first | (go_simp; first | rfl | exact ⟨rfl, h1⟩))); intro K hK; go_simp; refine hK _ ?_; clear hK K)
      refine calm_nil ?_; intro w2 H2; go_wp2
      go_ret2
      exact ⟨FoundAt.mk _ _, H2.below (Nat.le_refl _) (fun _ h => h.elim)⟩
end Go.Proofs.YtiglgfonhdfpmaaGreat
namespace Go.Proofs.YtiglgfonhdfpmaaGreat
open Go.RowKit
section
variable {P : Program} {S : Nat → Prop} {w0 w : World} {l : List SP}
theorem run_copy_any (w : World) (dT sT ty elem : TypeId) (g o dLen dCap : Nat) (a : Addr) (sLen sCap size : Nat) (vs : List Value)
    (hu : P.underlying dT = some (.slice elem)) (hs : (P.info? elem).map (·.size) = some size)
    (hn : vs.length = Nat.min sLen dLen * size) (hsrc : ∀ j v, vs[j]? = some v → w.cell? (a.add j) = some v) (hc : mayCells w g o vs.length = true) (h1 : ∀ v ∈ vs, v.oneCell' = true) :
    (Builtin.copy_ #[dT, sT] ty #[.slice (some ⟨g, o, none⟩) dLen dCap, .slice (some a) sLen sCap]).run P w = .ok (goInt (Nat.min sLen dLen)) (w.setCells g o vs) := by
 have hl := run_loadCells_list (P := P) w a vs hsrc; have hth := mayCells_there hc; have hst := run_storeCells_cells (P := P) g o vs 0 w (fun j hj => (hth j (by simpa using hj)).1) (fun j hj => (hth j (by simpa using hj)).2) h1
 simp only [Nat.add_zero] at hst
 cases hq : P.info? elem with
 | none => simp [hq] at hs
 | some i =>
  have hi : i.size = size := by simpa [hq] using hs
  simp [Builtin.copy_, run_underlying hu, Builtin.lenOf, Builtin.firstCells, sizeOf, typeInfo, hq, hi, ← hn, hl, hst]
theorem setCells_size (g : Nat) : ∀ (vs : List Value) (o : Nat) (w : World), (w.setCells g o vs).heap.size = w.heap.size
 | [], _, _ => rfl
 | v :: r, o, w => by show ((w.setCell _ v).setCells g (o + 1) r).heap.size = _; rw [setCells_size g r]; simp
theorem St.list_copyK (H : St S w0 w l) (i : Nat) {b : Nat} {cs : List Value} {t : TypeId} (hi : l[i]? = some (Blk b cs.toArray t))
    {ops : Array Oper} {rest : List Oper} {o : Oper} {a : Act} {Q : Exit → Act → World → Prop} (hgd : o.guard = none) (x y : Operand) (dT : TypeId)
    (ho : o.op = .call { callee := .builtin .copy, args := #[x, y], argTypes := #[dT, dT] }) {elem : TypeId} {size : Nat} (hu : P.underlying dT = some (.slice elem)) (hs : (P.info? elem).map (·.size) = some size)
    {off dLen dCap sLen sCap : Nat} {ad : Addr} (hx : a.eval x = .slice (some ⟨b, off, none⟩) dLen dCap) (hy : a.eval y = .slice (some ad) sLen sCap) (vs : List Value)
    (hn : vs.length = Nat.min sLen dLen * size) (hsrc : ∀ j v, vs[j]? = some v → w.cell? (ad.add j) = some v) (h1 : ∀ v ∈ vs, v.oneCell' = true) (hfit : off + vs.length ≤ cs.length)
    (h : ∀ w', St S w0 w' (l.set i (Blk b (splice cs off vs).toArray t)) → w.heap.size ≤ w'.heap.size → wpList P ops Q rest (a.put o.dst (goInt (Nat.min sLen dLen))) w') :
    wpList P ops Q (o :: rest) a w := by
 have hr := run_copy_any (P := P) w dT dT o.type elem b off dLen dCap ad sLen sCap size vs hu hs hn hsrc (mayCells_blk (H.blk i hi) (by simpa using hfit)) h1
 have h2 := St.setCells i vs off cs w l H hi hfit; refine wpList_plain hgd fun _ hK => ?_
 unfold Oper.wp execOp; simp only [ho, resolve, invoke, builtin, Sem.run_bind, Sem.run_pure, Result.andThen_ok, List.map_toArray, List.map_cons, List.map_nil, hx, hy, hr]; exact hK _ _ (h _ h2 (by rw [setCells_size]; exact Nat.le_refl _))
theorem run_append_zeros (w : World) (t tn ty e : TypeId) (i : TypeInfo) (z : Value) (kn : IntKind) (ht : P.underlying t = some (.slice e)) (htn : P.underlying tn = some (.int kn)) (hi : P.info? e = some i) (hz : i.zero = some z)
    (k m cap : Nat) (g : Nat) (vs : List Value) (hv : vs.length = k * i.size) (hsrc : ∀ j v, vs[j]? = some v → w.cell? ⟨g, j, none⟩ = some v) (h0 : 0 < m) (hs : 0 < i.size) (hcap : cap < k + m) (h63 : k + m ≤ 9223372036854775807) (h48 : ((k + m) + (k + m) / 4 + 192) * i.bytes ≤ 281474976710656) :
    (Builtin.append_ #[t, tn] ty #[.slice (some ⟨g, 0, none⟩) k cap, .int .i64 m]).run P w =
     .ok (.slice (some ⟨w.heap.size, 0, none⟩) (k + m) (grownCap w (k + m) cap e)) (w.drew.alloc (.cells (vs.toArray ++ Builtin.zeroCells z.cells m ++ Builtin.zeroCells z.cells (grownCap w (k + m) cap e - (k + m))) e)) := by
 have hw : IntKind.i64.wrap (m : Int) = m := by rw [IntKind.wrap_i64]; omega
 have h48' : ¬ (281474976710656 < Builtin.nextslicecap (k + m) cap * i.bytes) := by have := growslice_fits_wide (bytes := i.bytes) hcap h48; omega
 have hmb : m * i.bytes ≤ 281474976710656 := Nat.le_trans (Nat.mul_le_mul_right _ (by omega)) h48
 have h48i : ¬ (281474976710656 < (m : Int) * (i.bytes : Int)) := by
  rw [← Int.natCast_mul]
  omega
 have hneg : ¬ ((m : Int) < 0) := by omega
 have hns : ¬ (m * i.size = 0) := Nat.mul_ne_zero (by omega) (by omega)
 have hc2 : ¬ (k + m ≤ cap) := by omega
 have h63' : ¬ (9223372036854775807 < (k : Int) + (m : Int)) := by omega
 have hl := run_loadCells_list (P := P) w.drew ⟨g, 0, none⟩ vs (fun j v hj => by rw [Addr.add_lit, Nat.zero_add]; exact hsrc j v hj)
 rw [hv] at hl
 simp [Builtin.append_, run_underlying ht, run_underlying htn, sizeOf, typeInfo, zeroValue, hi, hz, asInt, asIntOf, hw, hneg, hns, h63', h48', h48i, hc2, Question.forced, Builtin.firstCells, hl, newRow, grownCap]
theorem St.list_zeros (H : St S w0 w l) (p : Nat) {g n cap : Nat} {e : TypeId} {size : Nat} {xs : List Value} (hp : l[p]? = some (Row e size (.slice (some ⟨g, 0, none⟩) n cap) n xs))
    {ops : Array Oper} {rest : List Oper} {o : Oper} {a : Act} {Q : Exit → Act → World → Prop} (hgd : o.guard = none) (x y : Operand) (t tn : TypeId)
    (ho : o.op = .call { callee := .builtin .append, args := #[x, y], argTypes := #[t, tn] }) {kn : IntKind} {z : Value} {bytes : Nat} (ht : P.underlying t = some (.slice e)) (htn : P.underlying tn = some (.int kn))
    (hinfo : (P.info? e).map (fun i => (i.zero, i.size, i.bytes)) = some (some z, size, bytes)) (hzs : z.cells.size = size ∧ 0 < size)
    {k m nm : Nat} (hnm : k + m = nm) (hx : a.eval x = .slice (some ⟨g, 0, none⟩) k cap) (hy : a.eval y = .int .i64 m) (hk : k ≤ n) (h0 : 0 < m) (hcap : cap < nm) (h63 : nm ≤ 9223372036854775807) (h48 : (nm + nm / 4 + 192) * bytes ≤ 281474976710656)
    (h : ∀ G C Z w', St S w0 w' (Blk G (xs.take (k * size) ++ Z).toArray e :: l) → (xs.take (k * size) ++ Z).length = C * size → nm ≤ C → C ≤ maxLen → w.heap.size ≤ w'.heap.size → wpList P ops Q rest (a.put o.dst (.slice (some ⟨G, 0, none⟩) nm C)) w') :
    wpList P ops Q (o :: rest) a w := by
 obtain ⟨ti, hti, hz, hsz, hby⟩ := info_parts hinfo; subst hsz hby hnm; have hro := H.row p hp
 have hvl : (xs.take (k * ti.size)).length = k * ti.size := by
  rw [List.length_take, hro.1]; have := Nat.mul_le_mul_right ti.size hk
  omega
 have hr := run_append_zeros (P := P) w t tn o.type e ti z kn ht htn hti hz k m cap g (xs.take (k * ti.size)) hvl (fun j v hj => by
  have hlt := (List.getElem?_eq_some_iff.1 hj).1; rw [List.getElem?_take] at hj
  split at hj
  · exact own_cell hro hj
  · cases hj) h0 hzs.2 hcap h63 h48
 have hge := grownCap_ge w (k + m) cap e; have hcm : grownCap w (k + m) cap e ≤ maxLen := grownCap_le_maxLen w (k + m) cap e (by simpa [maxLen] using h63)
 have h2 := (H.drew.alloc ((xs.take (k * ti.size)).toArray ++ Builtin.zeroCells z.cells m ++ Builtin.zeroCells z.cells (grownCap w (k + m) cap e - (k + m))) e); refine wpList_plain hgd fun _ hK => ?_
 unfold Oper.wp execOp; simp only [ho, resolve, invoke, builtin, Sem.run_bind, Sem.run_pure, Result.andThen_ok, List.map_toArray, List.map_cons, List.map_nil, hx, hy, hr]; refine hK _ _ (h _ (grownCap w (k + m) cap e) ((Builtin.zeroCells z.cells m).toList ++ (Builtin.zeroCells z.cells (grownCap w (k + m) cap e - (k + m))).toList) _ ?_ ?_ hge hcm ?_)
 · have e : ((xs.take (k * ti.size)).toArray ++ Builtin.zeroCells z.cells m ++ Builtin.zeroCells z.cells (grownCap w (k + m) cap e - (k + m))) = (xs.take (k * ti.size) ++ ((Builtin.zeroCells z.cells m).toList ++ (Builtin.zeroCells z.cells (grownCap w (k + m) cap e - (k + m))).toList)).toArray := by
    apply Array.ext'
    simp
   rw [← e]; exact h2
 · simp only [List.length_append, hvl, Array.length_toList, size_zeroCells, hzs.1, ← Nat.add_mul]
   congr 1
   omega
 · simp
theorem run_apart (w : World) {t r e : TypeId} {size : Nat} {g g2 o o2 n c n2 c2 : Nat} {ca cb : Array Value} {ta tb : TypeId} (hu : P.underlying t = some (.slice e)) (hs : (P.info? e).map (·.size) = some size)
    (hne : g ≠ g2) (ha : w.heap[g]? = some (.cells ca ta (0, 0))) (hb : w.heap[g2]? = some (.cells cb tb (0, 0))) :
    (Extern.SlicesOverlaps.overlaps #[t, t] #[r] #[.slice (some ⟨g, o, none⟩) n c, .slice (some ⟨g2, o2, none⟩) n2 c2]).run P w = .ok (.bool false) w := by
 cases hq : P.info? e with
 | none => simp [hq] at hs
 | some i =>
  conv =>
   lhs
   arg 2
   whnf
  show Sem.run P (Sem.program _) w = _
  rw [show ∀ k : Program → Sem Value, Sem.run P (Sem.program k) w = Sem.run P (k P) w from fun _ => rfl]
  simp only [Sem.bind]; have hb0 : ∀ (d : TypeDesc) (f : TypeDesc → Sem Value), Sem.bind (pure d) f = f d := fun _ _ => rfl
  by_cases h1 : n = 0 ∨ n2 = 0 ∨ i.size = 0
  · simp [hu, hb0, Go.sizeOf, typeInfo, hq, h1]
  · simp [hu, hb0, Go.sizeOf, typeInfo, hq, h1, hne, World.frozen?, ha, hb, noView, viewAt, World.shape?, mayBeOne, stringish]
end
end Go.Proofs.YtiglgfonhdfpmaaGreat
namespace Go.Proofs.YtiglgfonhdfpmaaGreat
open Go.RowKit
theorem splice_mid {A B C V : List Value} {a : Nat} (ha : A.length = a) (hb : B.length = V.length) : splice (A ++ (B ++ C)) a V = A ++ (V ++ C) := by
 subst ha; unfold splice; rw [List.take_append_of_le_length (Nat.le_refl _), List.take_length, List.drop_append, List.drop_of_length_le (by omega), List.nil_append, Nat.add_sub_cancel_left, List.drop_append, List.drop_of_length_le (by omega), List.nil_append, hb, Nat.sub_self, List.drop_zero]
 try rw [List.append_assoc]
theorem cut_two {Z : List Value} {c d : Nat} (h : c + d ≤ Z.length) : ∃ Z1 Z2 Z3, Z = Z1 ++ (Z2 ++ Z3) ∧ Z1.length = c ∧ Z2.length = d := by
 refine ⟨Z.take c, (Z.drop c).take d, (Z.drop c).drop d, ?_, by rw [List.length_take]; omega, by rw [List.length_take, List.length_drop]; omega⟩
 rw [List.take_append_drop, List.take_append_drop]
theorem ins_new {T Z X D : List Value} {a b c : Nat} (hT : T.length = a) (hb : a + X.length = b) (hc : b + D.length = c) (hZ : c ≤ (T ++ Z).length) : (splice (splice (T ++ Z) a X) b D).take c = T ++ (X ++ D) ∧ (splice (splice (T ++ Z) a X) b D).length = (T ++ Z).length := by
 rw [List.length_append] at hZ; obtain ⟨Z1, Z2, Z3, rfl, h1, h2⟩ := cut_two (Z := Z) (c := X.length) (d := D.length) (by omega)
 rw [splice_mid hT h1, ← List.append_assoc, splice_mid (by rw [List.length_append]; omega) h2]
 refine ⟨?_, by simp; omega⟩
 rw [← List.append_assoc, List.take_append_of_le_length (by simp; omega), List.take_of_length_le (by simp; omega), List.append_assoc]
theorem ins_old {T R X D : List Value} {a b c : Nat} (hT : T.length = a) (hb : a + X.length = b) (hc : b + D.length = c) (hR : c ≤ (T ++ (D ++ R)).length) : (splice (splice (T ++ (D ++ R)) b D) a X).take c = T ++ (X ++ D) ∧ (splice (splice (T ++ (D ++ R)) b D) a X).length = (T ++ (D ++ R)).length := by
 have hl : (T ++ (D ++ R)).length = T.length + (D ++ R).length := List.length_append; obtain ⟨Z1, Z2, Z3, h0, h1, h2⟩ := cut_two (Z := D ++ R) (c := X.length) (d := D.length) (by omega)
 rw [h0, ← List.append_assoc, splice_mid (by rw [List.length_append]; omega) h2, List.append_assoc, splice_mid hT h1]
 refine ⟨?_, by simp; omega⟩
 rw [← List.append_assoc, ← List.append_assoc, List.take_append_of_le_length (by simp; omega), List.take_of_length_le (by simp; omega), List.append_assoc]
theorem blk_add {w : World} {g : Nat} {cs : Array Value} {t : TypeId} (h : w.heap[g]? = some (.cells cs t (0, 0))) : ∀ ad, some (⟨g, 0, none⟩ : Addr) = some ad → ∀ j u, cs.toList[j]? = some u → w.cell? (ad.add j) = some u := by
 intro ad e j u hj; cases e; rw [Addr.add_lit, Nat.zero_add]; exact cell_blk' h (by simpa using hj)
theorem wds_cut (l : List Wd) (k : Nat) : wds l = wds (l.take k) ++ wds (l.drop k) := by rw [← wds_app, List.take_append_drop]
theorem overlaps_apart {w : World} {g g2 o o2 n c n2 c2 : Nat} {ca cb : Array Value} {ta tb : TypeId} (hne : g ≠ g2) (ha : w.heap[g]? = some (.cells ca ta (0, 0))) (hb : w.heap[g2]? = some (.cells cb tb (0, 0))) :
    (callFunc 281 #[.slice (some ⟨g, o, none⟩) n c, .slice (some ⟨g2, o2, none⟩) n2 c2]).run Tryz.prog w = .ok (.value (.bool false)) w := by
 rw [run_callFunc_extern Tryz.func281 (by kernel_rfl) (by kernel_rfl) (by kernel_rfl) (e := Extern.SlicesOverlaps.overlaps #[145, 145] #[4]) (by kernel_rfl),
  run_apart w (t := 145) (e := 61) (size := 3) Tryz.underlying145 (by kernel_rfl) hne ha hb]
 rfl
abbrev zblP (a0) (a1) (a2) := (Row 61 3 a1 a2 a0 : SP)
theorem wds_insert {v : Value} {l : List Wd} {x : Wd} {k g2 : Nat} {w : World} {S : Nat → Prop} (hk : k ≤ l.length) (hl : l.length + 1 ≤ 4398046511104) (H : Sep w [zblP (wds l) v l.length, Blk g2 (wdC x) 61] S) :
    Calls Tryz.prog 248 #[v, .int .i64 k, .slice (some ⟨g2, 0, none⟩) 1 1] w fun e w' => ∃ v', e = .returned v' ∧ St S w w' [Row 61 3 v' (l.length + 1) (wds (l.take k ++ x :: l.drop k)), Blk g2 (wdC x) 61] := by
 have H0 := St.refl H; clear H; have hlT : (wds (l.take k)).length = k * 3 := by rw [wds_len, List.length_take]; omega
 have hlD : (wds (l.drop k)).length = (l.length - k) * 3 := by rw [wds_len, List.length_drop]
 have hlL := wds_len l; have hcut0 := wds_cut l k; have hTk0 : (wds l).take (k * 3) = wds (l.take k) := by rw [hcut0, List.take_append_of_le_length (by omega), List.take_of_length_le (by omega)]
 have hres0 : wds (l.take k ++ x :: l.drop k) = wds (l.take k) ++ ((wdC x).toList ++ wds (l.drop k)) := by rw [wds_app]; simp [wds]
 have h1 : ∀ u ∈ (wdC x).toList, u.oneCell' = true := by have := wds_one1 [x]; simpa [wds] using this
 have h1d := wds_one1 (l.drop k); obtain ⟨res, hr⟩ := zNm (wds (l.take k ++ x :: l.drop k)); obtain ⟨T, hT⟩ := zNm (wds (l.take k)); obtain ⟨D, hD⟩ := zNm (wds (l.drop k)); obtain ⟨L, hL⟩ := zNm (wds l); obtain ⟨n, hn⟩ := zNm l.length; rw [hr, hT, hD] at hres0; rw [hT, hD, hL] at hcut0; rw [hT] at hlT; rw [hL, hT] at hTk0; rw [hD, hn] at hlD; rw [hD] at h1d; rw [hL] at hlL H0; rw [hn] at hl hk H0 hlL ⊢; rw [hr]; have hres := zH hres0; have hcut := zH hcut0; have hTk := zH hTk0; have hlLh := zH hlL; clear hr hT hD hL hres0 hcut0 hTk0 hlL hn; have hsp := own_shape (H0.row 0 rfl); have hadd := blk_add (H0.blk 1 rfl)
 by_cases hkn : k = n
 · subst hkn; have hD0 : D = [] := List.eq_nil_of_length_eq_zero (by omega)
   have hresA := zH (show res = L ++ (wdC x).toList by rw [hres.out, hcut.out, hD0]; simp)
   have hb : (k + 1) * 32 ≤ 140737488355328 := by omega
   rcases hsp with ⟨rfl, rfl⟩ | ⟨g, cap, rfl, hc, hg⟩
   · go_enter Tryz.func248, Tryz.ntmps248
     go_wp2_with (at_builtin; go_must (refine St.list_add H0 0 rfl rfl (.tmp 23) (.tmp 24) 145 rfl Tryz.underlying145 Tryz.info61 (by decide) rfl (wdC x).toList rfl rfl (by intro h; cases h) hadd h1 hb ?_; intro v' w1 H1 hz))
     go_ret; rw [hresA.out]; exact ⟨v', rfl, H1⟩
   · have hc1 : (k : Int) ≤ (cap : Int) := by omega
     go_enter Tryz.func248, Tryz.ntmps248
     go_wp2_with (at_builtin; go_must (refine St.list_add H0 0 rfl rfl (.tmp 23) (.tmp 24) 145 rfl Tryz.underlying145 Tryz.info61 (by decide) rfl (wdC x).toList rfl rfl (by intro h; cases h) hadd h1 hb ?_; intro v' w1 H1 hz))
     all_goals
      go_ret; rw [hresA.out]; exact ⟨v', rfl, H1⟩
 · have hkl : k < n := by omega
   rcases hsp with ⟨rfl, hz0⟩ | ⟨g, cap, rfl, hc, hg⟩
   · omega
   obtain ⟨n1, hn1⟩ := zNm (n + 1); obtain ⟨k1, hk1⟩ := zNm (k + 1); have hw1 : IntKind.i64.wrap ((n : Int) + 1) = (n1 : Int) := by rw [IntKind.wrap_i64]; omega
   have hw2 : IntKind.i64.wrap ((k : Int) + 1) = (k1 : Int) := by rw [IntKind.wrap_i64]; omega
   have z1 : ((k : Int) == (n : Int)) = false := by simp; omega
   have z1' : (k == n) = false := by simp; omega
   have c1 : (n : Int) ≤ (cap : Int) := by omega
   have c2 : (k : Int) ≤ (n : Int) := by omega
   have c3 : (k : Int) ≤ (cap : Int) := by omega
   have c3' : k ≤ cap := by omega
   have c4 : (k : Int) ≤ (n1 : Int) := by omega
   have c4' : k ≤ n1 := by omega
   have c5 : (k1 : Int) ≤ (n1 : Int) := by omega
   have c5' : k1 ≤ n1 := by omega
   have n1c : ¬ cap = k := by omega
   by_cases hcap : cap < n1
   · obtain ⟨d, hd⟩ : ∃ d : Nat, k + d = n1 := ⟨n1 - k, by omega⟩
     have hw3 : IntKind.i64.wrap ((n1 : Int) - (k : Int)) = (d : Int) := by rw [IntKind.wrap_i64]; omega
     have z2 : decide ((cap : Int) < (n1 : Int)) = true := by simp; omega
     go_enter Tryz.func248, Tryz.ntmps248
     go_upto_region 10 with (at_builtin; go_must (refine St.list_zeros H0 0 rfl rfl (.tmp 34) (.tmp 39) 145 3 rfl Tryz.underlying145 Tryz.underlying3 Tryz.info61 (by decide) (k := k) (m := d) hd rfl rfl hk (by omega) hcap (by omega) (by omega) ?_; intro G C Z w1 H1 hZ hC hCm hz))
     rw [hTk.out] at H1 hZ; have n2c : ¬ C = k := by omega
     have n3c : ¬ C = k1 := by omega
     have c6 : (n1 : Int) ≤ (C : Int) := by omega
     have c7 : (k : Int) ≤ (C : Int) := by omega
     have c7' : k ≤ C := by omega
     have c8 : (k1 : Int) ≤ (C : Int) := by omega
     have c8' : k1 ≤ C := by omega
     have hmin : Nat.min 1 (n1 - k) = 1 := by show min 1 (n1 - k) = 1; omega
     have hX : (wdC x).toList.length = Nat.min 1 (n1 - k) * 3 := by rw [hmin]; exact (rfl : #[textV x.key, Value.int .i64 x.frm, .int .i64 x.to].toList.length = 3)
     have hZl : (T ++ Z).length = C * 3 := hZ; go_upto_region 11 with ((with_reducible show Go.wpList _ _ _ (Oper.mk (some 45) _ _ _ _ _ :: _) _ _); go_must (refine St.list_copyK H1 0 rfl rfl (.tmp 43) (.tmp 44) 145 rfl (elem := 61) (size := 3) Tryz.underlying145 (by kernel_rfl) rfl rfl (wdC x).toList hX (blk_add (H1.blk 2 rfl) _ rfl) h1 (by rw [hZl]; show k * 3 + 3 ≤ _; omega) ?_; intro w2 H2 hz2))
     clear H1 hadd hz
     have hZ2 : (splice (T ++ Z) (k * 3) (wdC x).toList).length = C * 3 := by
      unfold splice; have e3 : (wdC x).toList.length = 3 := rfl; simp only [List.length_append, List.length_take, List.length_drop, e3] at hZl ⊢
      omega
     have hminD : Nat.min (n - k) (n1 - k1) = n - k := by show min (n - k) (n1 - k1) = n - k; omega
     refine wp_calm_tail 8 (fun w' => St S w w' [Blk G (splice (T ++ Z) (k * 3) (wdC x).toList).toArray 61, Row 61 3 (.slice (some ⟨g, 0, none⟩) n cap) n L, Blk g2 (wdC x) 61]) (by kernel_rfl) (by kernel_rfl) (H2.drew) ?_
     simp only [List.take_succ_cons, List.take_zero, List.drop_succ_cons, List.drop_zero]
     iterate 8 first | (apply calm_pass; rfl; intro K hK; go_simp; refine hK _ ?_; clear hK K) | (apply calm_step; rfl; (focus (intro w1 h1; first | (go_simp; first | rfl | exact ⟨rfl, h1⟩))); intro K hK; go_simp; refine hK _ ?_; clear hK K)
     refine calm_nil ?_; intro w3 H3; have hcp := fun j u (hj : D[j]? = some u) => own_cell (H3.row 1 rfl) (show L[k * 3 + j]? = some u by rw [hcut.out, List.getElem?_append_right (by omega), hlT, Nat.add_sub_cancel_left]; exact hj)
     go_wp2_with ((with_reducible show Go.wpList _ _ _ (Oper.mk (some 54) _ _ _ _ _ :: _) _ _); go_must (refine St.list_copyK H3 0 rfl rfl (.tmp 50) (.tmp 53) 145 rfl (elem := 61) (size := 3) Tryz.underlying145 (by kernel_rfl) rfl rfl D (by rw [hminD]; exact hlD) (fun j u hj => by rw [Addr.add_mid]; exact hcp j u hj) h1d (by rw [hZ2, hlD]; omega) ?_; intro w4 H4 hz4))
     go_ret; have hfin := ins_new (T := T) (Z := Z) (X := (wdC x).toList) (D := D) (a := k * 3) (b := k1 * 3) (c := n1 * 3) hlT (by show k * 3 + 3 = k1 * 3; omega) (by rw [hlD]; omega) (by rw [hZl]; omega)
     have H5 := H4.blk_row 0 (e := 61) (size := 3) (cap := C) (n := n1) (xs := res) rfl hC hCm (by rw [hfin.2, hZl]) (by rw [hfin.1, hres.out])
     exact ⟨_, rfl, H5.pick [0, 2]⟩
   · obtain ⟨g', cap', R, hv, hnc, hcm, hxl, hcs, HB⟩ := H0.row_blk 0 rfl (by omega)
     obtain ⟨rfl, rfl⟩ : g = g' ∧ cap = cap' := by injection hv with h1 _ h2; injection h1 with h1; injection h1 with h1; exact ⟨h1, h2⟩
     rw [hcut.out] at HB hcs; have HB : St S w w [Blk g (T ++ D ++ R).toArray 61, Blk g2 (wdC x) 61] := HB; rw [List.append_assoc] at HB hcs; clear hv hxl H0 hadd; have z2 : decide ((cap : Int) < (n1 : Int)) = false := by simp; omega
     have z2' : decide (cap < n1) = false := by simp; omega
     have c6 : (n1 : Int) ≤ (cap : Int) := by omega
     have c6' : n1 ≤ cap := by omega
     have c8 : (k1 : Int) ≤ (cap : Int) := by omega
     have c8' : k1 ≤ cap := by omega
     have n3c : ¬ cap = k1 := by omega
     have hne : g2 ≠ g := fun e => by
      subst e; obtain ⟨S1, hs1, hs2, S2, hs3, hs4, _⟩ := HB.sep; exact (hs4 g2 ((hs3.2 g2).2 rfl)).2 ((hs1.2 g2).2 rfl)
     have hov := fun n' c' o2 n2 c2 => overlaps_apart (w := w) (o := 0) (n := n') (c := c') (o2 := o2) (n2 := n2) (c2 := c2) hne (HB.blk 1 rfl) (HB.blk 0 rfl)
     have hminD : Nat.min (n1 - k) (n1 - k1) = n - k := by show min (n1 - k) (n1 - k1) = n - k; omega
     have hmin : Nat.min 1 (n1 - k) = 1 := by show min 1 (n1 - k) = 1; omega
     have hX : (wdC x).toList.length = Nat.min 1 (n1 - k) * 3 := by rw [hmin]; exact (rfl : #[textV x.key, Value.int .i64 x.frm, .int .i64 x.to].toList.length = 3)
     go_enter Tryz.func248, Tryz.ntmps248
     go_upto_region 15 with (fail)
     refine wp_calm_tail 8 (fun w' => St S w w' [Blk g (T ++ (D ++ R)).toArray 61, Blk g2 (wdC x) 61]) (by kernel_rfl) (by kernel_rfl) (HB.drew) ?_
     simp only [List.take_succ_cons, List.take_zero, List.drop_succ_cons, List.drop_zero]
     iterate 8 first | (apply calm_pass; rfl; intro K hK; go_simp; refine hK _ ?_; clear hK K) | (apply calm_step; rfl; (focus (intro w1 h1; first | (go_simp; first | rfl | exact ⟨rfl, h1⟩))); intro K hK; go_simp; refine hK _ ?_; clear hK K)
     refine calm_nil ?_; intro w3 H3; have hcp := fun j u (hj : D[j]? = some u) => cell_blk' (H3.blk 0 rfl) (show (T ++ (D ++ R)).toArray[k * 3 + j]? = some u by rw [List.getElem?_toArray, List.getElem?_append_right (by omega), hlT, Nat.add_sub_cancel_left, List.getElem?_append_left (List.getElem?_eq_some_iff.1 hj).1]; exact hj)
     go_upto_region 16 with ((with_reducible show Go.wpList _ _ _ (Oper.mk (some 77) _ _ _ _ _ :: _) _ _); go_must (refine St.list_copyK H3 0 rfl rfl (.tmp 73) (.tmp 76) 145 rfl (elem := 61) (size := 3) Tryz.underlying145 (by kernel_rfl) rfl rfl D (by rw [hminD]; exact hlD) (fun j u hj => by rw [Addr.add_mid]; exact hcp j u hj) h1d (by rw [hcs, hlD]; omega) ?_; intro w4 H4 hz4))
     have hsl : (splice (T ++ (D ++ R)) (k1 * 3) D).length = cap * 3 := by
      rw [← hcs]; unfold splice; simp only [List.length_append, List.length_take, List.length_drop] at hcs ⊢
      omega
     go_wp2_with ((with_reducible show Go.wpList _ _ _ (Oper.mk (some 82) _ _ _ _ _ :: _) _ _); go_must (refine St.list_copyK H4 0 rfl rfl (.tmp 80) (.tmp 81) 145 rfl (elem := 61) (size := 3) Tryz.underlying145 (by kernel_rfl) rfl rfl (wdC x).toList hX (blk_add (H4.blk 1 rfl) _ rfl) h1 (by rw [hsl]; show k * 3 + 3 ≤ _; omega) ?_; intro w5 H5 hz5))
     go_ret; have hfin := ins_old (T := T) (R := R) (X := (wdC x).toList) (D := D) (a := k * 3) (b := k1 * 3) (c := n1 * 3) hlT (by show k * 3 + 3 = k1 * 3; omega) (by rw [hlD]; omega) (by rw [hcs]; omega)
     exact ⟨_, rfl, H5.blk_row 0 (e := 61) (size := 3) (cap := cap) (n := n1) (xs := res) rfl c6' hcm (by rw [hfin.2, hcs]) (by rw [hfin.1, hres.out])⟩
end Go.Proofs.YtiglgfonhdfpmaaGreat
namespace Go.Proofs.YtiglgfonhdfpmaaGreat
open Go.RowKit
def insP : List Wd → Wd → List Wd
 | [], w => [w]
 | y :: r, w => if w.place y < 0 then y :: insP r w else w :: y :: r
def srtP (l : List Wd) : List Wd := l.foldl insP []
theorem srtP_snoc (l : List Wd) (x : Wd) : srtP (l ++ [x]) = insP (srtP l) x := by simp [srtP]
theorem insP_len (r : List Wd) (x : Wd) : (insP r x).length = r.length + 1 := by
 induction r with
 | nil => rfl
 | cons y r ih => rw [insP]; split <;> simp [ih]
theorem srtP_len (l : List Wd) : (srtP l).length = l.length := by
 refine snoc_ind (p := fun l => (srtP l).length = l.length) rfl (fun l x ih => ?_) l
 rw [srtP_snoc, insP_len, ih]; simp
theorem row_partW {w : World} {g k oc i : Nat} {e : TypeId} {O P q : List Wd} (h : w.ownsRow 0 e 3 (.slice (some ⟨g, 0, none⟩) k oc) k (wds O)) (hO : O = P ++ q) (hP : P.length = i) :
    (∀ (j : Nat) u, (wds P)[j]? = some u → w.cell? ⟨g, j, none⟩ = some u) ∧ (∀ (j : Nat) u, (wds q)[j]? = some u → w.cell? ⟨g, i * 3 + j, none⟩ = some u) := by
 subst hO; rw [wds_app] at h; have hl : (wds P).length = i * 3 := by rw [wds_len, hP]
 refine ⟨fun j u hu => own_cell h ?_, fun j u hu => own_cell h ?_⟩
 · rw [List.getElem?_append_left (List.getElem?_eq_some_iff.1 hu).1]; exact hu
 · rw [List.getElem?_append_right (by omega), hl, Nat.add_sub_cancel_left]; exact hu
abbrev zkP (a0) (a1) (a2) (a3) := (Row 61 3 (.slice (some ⟨a1, 0, none⟩) a2 a3) a2 a0 : SP)
abbrev zqP (a0) (a1) (a2) (a3) := (Row 61 3 (.slice a1 a2 a3) a2 a0 : SP)
abbrev zcfP (a0) := (Row 61 3 (.slice none 0 0) 0 a0 : SP)
theorem ref_wsorted {v : Value} {l : List Wd} (w : World) (hv : WdsRO w v l) (hl : l.length ≤ 4398046511104) :
    Calls Tryz.prog 235 #[v] w fun e w' => ∃ v', e = .returned v' ∧ zS w w' [zblP (wds (srtP l).reverse) v' l.length] := by
 obtain ⟨ao, cap, rfl, hcap, hfit, hic⟩ := hv; have hich := zH hic; clear hfit hic
 go_enter Tryz.func235, Tryz.ntmps235
 have H4 : zS w w [zcfP (wds [])] := (St.nil _ w).row_nil 61 3
 go_upto_block 1 with (fail)
 go_loopw [3, 10] (fun u j wr => ∃ (k : Nat) (r0 : List Wd), k ≤ l.length ∧ j = .int .i64 k ∧ r0.length = k ∧ Hid (r0 = srtP (l.take k)) ∧ zS w wr [zblP (wds r0.reverse) u k]) (fun _ j _ => l.length - (intOf j).toNat)
 case atStart => exact ⟨0, [], by omega, rfl, rfl, zH rfl, H4⟩
 case round =>
  clear H4; obtain ⟨k, r0, hk, rfl, hr0l, hr0, HM⟩ := hrel
  by_cases hkl : k < l.length
  · obtain ⟨b, o, rfl, hb, hc⟩ := hich.out (by intro e; rw [e] at hkl; simp at hkl)
    obtain ⟨x, hx⟩ : ∃ x, l[k]? = some x := ⟨_, List.getElem?_eq_getElem hkl⟩; obtain ⟨q0, q1, q2⟩ := wd_cells (hc k x hx) (HM.kept.block b hb id); have hn := zH (show srtP (l.take (k + 1)) = insP r0 x by rw [take_snoc' hx, srtP_snoc, hr0.out])
    obtain ⟨oa, oc, rfl, hoc, hoa⟩ := slice_form' (HM.row 0 rfl)
    have hob : oa = none ∨ ∃ g, oa = some ⟨g, 0, none⟩ := by
     rcases own_shape (HM.row 0 rfl) with ⟨h, _⟩ | ⟨g, cap, h, _⟩
     · injection h with h1 h2 h3
       exact .inl h1
     · injection h with h1 h2 h3
       exact .inr ⟨g, h1⟩
    have hobh := zH hob; clear hob hx hr0 hc; have kp := fun (y : Wd) w' => ref_place x y w'
    obtain ⟨xk, xf, xt⟩ := x; simp only at q0 q1 q2; unfold textV at q0; have HA : zS w _ [_, _] := HM.allocAt rfl #[.string ⟨xk.toArray⟩, .int .i64 xf, .int .i64 xt] 61; go_upto_region 5 with (fail)
    obtain ⟨wb, hwb⟩ := zNm (wr.alloc (.cells #[.string ⟨xk.toArray⟩, .int .i64 xf, .int .i64 xt] 61)); obtain ⟨xb, hxb⟩ := zNm wr.heap.size; rw [hwb, hxb] at HA; (try rw [hwb]); (try simp only [hxb]); have HA2 : zS w wb [zcP xb xk.toArray xf xt, zqP (wds r0.reverse) oa k oc] := HA; clear hwb hxb q0 q1 q2 HM HA
    go_upto_block 3 with (fail)
    go_loopw [6] (fun s wr => ∃ (i : Nat) (r q : List Wd), s = .int .i64 i ∧ r.length = i ∧ i + q.length = k ∧ Hid (r0 = q.reverse ++ r) ∧ Hid (insP r0 ⟨xk, xf, xt⟩ = q.reverse ++ insP r ⟨xk, xf, xt⟩) ∧ zS w wr [zcP xb xk.toArray xf xt, zqP (wds r0.reverse) oa k oc]) (fun s _ => (intOf s).toNat)
    case atStart => exact ⟨k, r0, [], rfl, hr0l, by simp, zH rfl, zH rfl, HA2⟩
    case round =>
     clear HA2; obtain ⟨i, r, q, rfl, hri, hiq, hq, hI, HM⟩ := hrel
     have hcs : (∃ y r', r = y :: r' ∧ Wd.place ⟨xk, xf, xt⟩ y < 0) ∨ ((∀ y r', r = y :: r' → ¬ Wd.place ⟨xk, xf, xt⟩ y < 0) ∧ insP r ⟨xk, xf, xt⟩ = ⟨xk, xf, xt⟩ :: r) := by
      cases r with
      | nil => exact .inr ⟨fun _ _ h => by simp at h, rfl⟩
      | cons y r =>
       by_cases h : Wd.place ⟨xk, xf, xt⟩ y < 0
       · exact .inl ⟨y, r, rfl, h⟩
       · refine .inr ⟨fun _ _ e => by obtain ⟨rfl, rfl⟩ := List.cons.inj e; exact h, ?_⟩
         rw [insP, if_neg h]
     rcases hcs with ⟨y, r', rfl, hlt2⟩ | ⟨hst, hins⟩
     · obtain ⟨i0, rfl⟩ : ∃ i0, i = i0 + 1 := ⟨r'.length, by simp at hri; omega⟩
       have hri' : r'.length = i0 := by simp at hri; omega
       have hOy : r0.reverse[i0]? = some y := by
        rw [hq.out, List.reverse_append, List.reverse_reverse, List.reverse_cons, List.append_assoc, List.getElem?_append_right (by simp; omega)]
        simp [hri']
       obtain ⟨go, rfl⟩ := hoa (by omega)
       have hI2 := zH (show insP r0 ⟨xk, xf, xt⟩ = (y :: q).reverse ++ insP r' ⟨xk, xf, xt⟩ by rw [hI.out, insP, if_pos hlt2]; simp)
       have hq2 := zH (show r0 = (y :: q).reverse ++ r' by rw [hq.out]; simp)
       obtain ⟨i, hi⟩ := zNm (i0 + 1); have wi : IntKind.i64.wrap ((i : Int) - 1) = (i0 : Int) := by rw [IntKind.wrap_i64]; omega
       have z1 : decide ((0 : Int) < (i : Int)) = true := by simp; omega
       have z3 : decide (0 < i) = true := by simp; omega
       have z2 : (i0 : Int) < (k : Int) := by omega
       have z2' : i0 < k := by omega
       have hih := zH hi; have hiq2 : i0 + (q.length + 1) = k := by omega
       simp only [hi] at hri hiq ⊢; clear hri hq hI hiq hi; have kc := kp y; obtain ⟨P, hP⟩ := zNm (Wd.place ⟨xk, xf, xt⟩ y); rw [hP] at kc hlt2; clear hP; obtain ⟨yk, yf, yt⟩ := y; unfold wdV wdC textV at kc; simp only at kc; go_upto_region 6 with (fail)
       refine wp_calm (fun w' => zS w w' [zcP xb xk.toArray xf xt, zkP (wds r0.reverse) go k oc]) (by kernel_rfl) (by kernel_rfl) (HM.drew) ?_
       iterate 12 first | (apply calm_pass; rfl; intro K hK; go_simp; refine hK _ ?_; clear hK K) | (apply calm_step; rfl; (focus (intro w1 h1; obtain ⟨q0, q1, q2⟩ := row_wds (h1.row 1 rfl) hOy; have d0 := h1.cell 0 0 rfl rfl; have d1 := h1.cell 0 1 rfl rfl; have d2 := h1.cell 0 2 rfl rfl; simp only at q0 q1 q2; unfold textV at q0; first | (go_simp; first | rfl | exact ⟨rfl, h1⟩ | (go_at_call 180; with_reducible exact St.callPast (kc w1) h1)))); intro K hK; go_simp; refine hK _ ?_; clear hK K)
       refine calm_nil ?_; intro w5 H5; go_wp2; go_roundw
       case rel =>
        refine ⟨i0, r', _ :: q, by go_num, hri', by simp; omega, hq2, hI2, H5⟩
       case measure => have := hih.out; simp [intOf]; omega
     · have hres := zH (show (insP r0 ⟨xk, xf, xt⟩).reverse = (r.reverse ++ [⟨xk, xf, xt⟩]) ++ q by rw [hI.out, hins]; simp)
       have hO : r0.reverse = r.reverse ++ q := by rw [hq.out]; simp
       have hcs2 : (decide ((0 : Int) < (i : Int)) = false ∧ decide (0 < i) = false) ∨ (∃ y i0, r.reverse[i0]? = some y ∧ i0 + 1 = i ∧ ¬ Wd.place ⟨xk, xf, xt⟩ y < 0) := by
        cases r with
        | nil => exact .inl ⟨by simp at hri ⊢; omega, by simp at hri ⊢; omega⟩
        | cons y r => exact .inr ⟨y, r.length, by simp, by simpa using hri, hst y r rfl⟩
       have hOh := zH hO; clear hst hins hI hq hO; obtain ⟨O, hO⟩ := zNm r0.reverse; simp only [hO] at HM hOh ⊢; have hOl : O.length = k := by rw [← hO, List.length_reverse, hr0l]
       have hrh := zH (show r.reverse.length = i by rw [List.length_reverse, hri])
       have hn2 := zH (show (srtP (l.take (k + 1))).reverse = (r.reverse ++ [⟨xk, xf, xt⟩]) ++ q by rw [hn.out, hres.out])
       have hn3 := zH (show (srtP (l.take (k + 1))).length = k + 1 by rw [srtP_len, List.length_take]; omega)
       clear hO hres hri; obtain ⟨P, hP⟩ := zNm r.reverse; rw [hP] at hOh hcs2 hrh hn2; clear hP hn hr0l
       have hcs3 : (oa = none ∧ decide ((0 : Int) < (i : Int)) = false ∧ decide (0 < i) = false) ∨ (∃ g, oa = some ⟨g, 0, none⟩ ∧ decide ((0 : Int) < (i : Int)) = false ∧ decide (0 < i) = false) ∨ (∃ y i0, P[i0]? = some y ∧ i0 + 1 = i ∧ ¬ Wd.place ⟨xk, xf, xt⟩ y < 0) := by
        rcases hcs2 with ⟨z1, z3⟩ | h
        · rcases hobh.out with h | ⟨g, h⟩
          · exact .inl ⟨h, z1, z3⟩
          · exact .inr (.inl ⟨g, h, z1, z3⟩)
        · exact .inr (.inr h)
       clear hcs2; rcases hcs3 with ⟨rfl, z1, z3⟩ | ⟨go, rfl, z1, z3⟩ | ⟨y, i0, hy, hi, hlt2⟩
       case' inr.inl =>
        have hk0 : k = 0 := by
         by_cases h : k = 0
         · exact h
         · obtain ⟨g, h2⟩ := hoa h; exact absurd h2 (by simp)
        have hk0h := zH hk0; clear hk0; go_upto_region 6 with (fail)
        refine wp_calm (fun w' => zS w w' [zcP xb xk.toArray xf xt, Row 61 3 (.slice none k oc) k (wds O)]) (by kernel_rfl) (by kernel_rfl) (HM.drew) ?_
        iterate 12 first | (apply calm_pass; rfl; intro K hK; go_simp; refine hK _ ?_; clear hK K) | (apply calm_step; rfl; (focus (intro w1 h1; first | (go_simp; first | rfl | exact ⟨rfl, h1⟩))); intro K hK; go_simp; refine hK _ ?_; clear hK K)
        refine calm_nil ?_; intro w5 H5; go_upto_region 8 with (fail)
       case' inr.inr.inl =>
        go_upto_region 6 with (fail)
        refine wp_calm (fun w' => zS w w' [zcP xb xk.toArray xf xt, zkP (wds O) go k oc]) (by kernel_rfl) (by kernel_rfl) (HM.drew) ?_
        iterate 12 first | (apply calm_pass; rfl; intro K hK; go_simp; refine hK _ ?_; clear hK K) | (apply calm_step; rfl; (focus (intro w1 h1; first | (go_simp; first | rfl | exact ⟨rfl, h1⟩))); intro K hK; go_simp; refine hK _ ?_; clear hK K)
        refine calm_nil ?_; intro w5 H5; go_upto_region 8 with (fail)
       case' inr.inr.inr =>
        obtain ⟨go, rfl⟩ := hoa (by omega)
        have hOy : O[i0]? = some y := by rw [hOh.out, List.getElem?_append_left (by rw [hrh.out]; omega)]; exact hy
        have wi : IntKind.i64.wrap ((i : Int) - 1) = (i0 : Int) := by rw [IntKind.wrap_i64]; omega
        have z1 : decide ((0 : Int) < (i : Int)) = true := by simp; omega
        have z3 : decide (0 < i) = true := by simp; omega
        have z2 : (i0 : Int) < (k : Int) := by omega
        have z2' : i0 < k := by omega
        clear hi hy; have kc := kp y; obtain ⟨P', hP'⟩ := zNm (Wd.place ⟨xk, xf, xt⟩ y); rw [hP'] at kc hlt2; clear hP'; obtain ⟨yk, yf, yt⟩ := y; unfold wdV wdC textV at kc; simp only at kc; go_upto_region 6 with (fail)
        refine wp_calm (fun w' => zS w w' [zcP xb xk.toArray xf xt, zkP (wds O) go k oc]) (by kernel_rfl) (by kernel_rfl) (HM.drew) ?_
        iterate 12 first | (apply calm_pass; rfl; intro K hK; go_simp; refine hK _ ?_; clear hK K) | (apply calm_step; rfl; (focus (intro w1 h1; obtain ⟨q0, q1, q2⟩ := row_wds (h1.row 1 rfl) hOy; have d0 := h1.cell 0 0 rfl rfl; have d1 := h1.cell 0 1 rfl rfl; have d2 := h1.cell 0 2 rfl rfl; simp only at q0 q1 q2; unfold textV at q0; first | (go_simp; first | rfl | exact ⟨rfl, h1⟩ | (go_at_call 180; with_reducible exact St.callPast (kc w1) h1)))); intro K hK; go_simp; refine hK _ ?_; clear hK K)
        refine calm_nil ?_; intro w5 H5; go_upto_region 8 with (fail)
       all_goals
        have hio : (i : Int) ≤ (oc : Int) := by omega
        have hio' : i ≤ oc := by omega
        have hik : (i : Int) ≤ (k : Int) := by omega
        have hik' : i ≤ k := by omega
        have HB : zS w _ [_, _, _] := H5.allocAt rfl #[] 61; have HB := HB.blk_row 0 (e := 61) (size := 3) (cap := 0) (n := 0) (cs := []) (xs := wds []) rfl (Nat.le_refl _) (Nat.zero_le _) rfl rfl; have hip := hrh.out; have hlP : (wds P).length = i * 3 := by rw [wds_len, hip]
        clear hip; have HB : zS w (w5.alloc (.cells #[] 61)) [_, _, _] := HB; go_upto_region 9 with (at_builtin; go_must (refine St.list_add HB 0 rfl rfl (.tmp 30) (.tmp 33) 145 rfl Tryz.underlying145 Tryz.info61 (by decide) rfl (wds P) rfl hlP (by first | (intro h; cases h; done) | (intro _; have := hk0h.out; omega)) (by first | (intro ad h; simp at h; done) | (intro ad h jj u hu; cases h; have h0 := (row_partW (HB.row 2 rfl) hOh.out hrh.out).1 jj u hu; rw [← Nat.zero_add jj] at h0; rw [Addr.add_mid]; exact h0)) (wds_one1 _) (by omega) ?_; intro v7 w7 H7 hz7))
        have H7 : zS w w7 [_, _, _] := H7; rw [Nat.zero_add] at H7; have d0 := H7.cell 1 0 rfl rfl; have d1 := H7.cell 1 1 rfl rfl; have d2 := H7.cell 1 2 rfl rfl; go_upto_region 10 with (at_builtin; go_must (refine St.list_app (H7.skip _) 0 rfl rfl (.tmp 35) (.tmp 37) 145 rfl Tryz.underlying145 Tryz.info61 (by decide) rfl [.string ⟨xk.toArray⟩, .int .i64 xf, .int .i64 xt] rfl rfl (new_cells #[.string ⟨xk.toArray⟩, .int .i64 xf, .int .i64 xt] _) (by simp [Value.oneCell']) (by omega) (by omega) ?_; intro g8 cap8 w8 H8 hz8))
        have H8 : zS w w8 [_, _, _] := H8; have hlq : (wds q).length = (k - i) * 3 := by rw [wds_len]; omega
        clear d0 d1 d2 H7
        go_wp2_with (at_builtin; go_must (refine St.list_add H8 0 rfl rfl (.tmp 39) (.tmp 42) 145 rfl Tryz.underlying145 Tryz.info61 (by decide) rfl (wds q) rfl hlq (by first | (intro h; split at h <;> cases h; done) | (intro _; have := hk0h.out; omega)) (by first | (intro ad h; simp at h; done) | (intro ad h jj u hu; have hlt := (List.getElem?_eq_some_iff.1 hu).1; rw [if_neg (by omega)] at h; cases h; have h0 := (row_partW (H8.row 2 rfl) hOh.out hrh.out).2 jj u hu; rw [Addr.add_mid]; exact h0)) (wds_one1 _) (by omega) ?_; intro v9 w9 H9 hz9))
        go_roundw
        case rel =>
         have H9 : zS w w9 [_, _, _] := H9; refine ⟨k + 1, srtP (l.take (k + 1)), by omega, by go_num, hn3.out, zH rfl, ?_⟩
         rw [hn2.out, wds_app, wds_app, wds_one]; have e1 : k + 1 = i + 1 + (k - i) := by omega
         rw [e1]; exact H9.pick [0]
        case measure => simp [intOf]; omega
  · obtain rfl : k = l.length := by omega
    rw [List.take_length] at hr0; obtain ⟨ua, uc, rfl, _, _⟩ := slice_form' (HM.row 0 rfl); go_wp2; go_ret; rw [← hr0.out]; exact ⟨_, rfl, HM⟩
end Go.Proofs.YtiglgfonhdfpmaaGreat
namespace Go.Proofs.YtiglgfonhdfpmaaGreat
open Go.RowKit
theorem results_tct {P : Program} {fn : Func} {a t c : Tmp} {ty : TypeId} (h : fn.results = #[.tmp a, .cell t ty, .tmp c]) {tmps : Array Value} {w : World} {b : Nat} {cs : List Value} {d : TypeDesc} (ht : tmps.getD t undef = .pointer (some ⟨b, 0, none⟩)) (hr : w.rangeAt b 0 cs)
    (hu : P.underlying ty = some d) (hd : d.isRow = true) (hi : (P.info? ty).map (·.size) = some cs.length) : (results fn tmps).run P w = .ok (.tuple #[tmps.getD a undef, .agg cs.toArray, tmps.getD c undef]) w := by
 have h2 := run_loadVar_mid (P := P) w b 0 ty cs d hr hu hd hi; have h3 : tmps[t]?.getD undef = .pointer (some ⟨b, 0, none⟩) := by simpa using ht
 simp [results, h, h3, asAddr, h2]
theorem blk_range {w : World} {g : Nat} {t : TypeId} {f : Nat × Nat} {cs : List Value} (h : w.heap[g]? = some (.cells cs.toArray t f)) : w.rangeAt g 0 cs := fun j u hj => by rw [Nat.zero_add, cell_blk h]; simpa using hj
theorem blk_apart' {S : Nat → Prop} {w0 w : World} {L : List SP} {a b : Nat} {ca cb : Array Value} {ta tb : TypeId} (H : St S w0 w (Blk a ca ta :: Blk b cb tb :: L)) : ¬ a = b := fun e => by
 subst e; obtain ⟨S1, hs1, hs2, S2, hs3, hs4, _⟩ := H.sep; exact (hs4 a ((hs3.2 a).2 rfl)).2 ((hs1.2 a).2 rfl)
theorem takeF_mono (l : List Wd) (x : Wd) (i : Nat) : (takeF (l.take i) x).out.length ≤ i ∧ (takeF (l.take i) x).gave.length ≤ i := by
 have := takeF_len (l.take i) x; rw [List.length_take] at this
 omega
theorem wdC_one1 (x : Wd) : ∀ u ∈ (wdC x).toList, u.oneCell' = true := by have := wds_one1 [x]; simpa [wds] using this
theorem outOf_fits {l : List Wd} {x : Wd} (h : ∀ y ∈ l, y.fits) : ∀ y ∈ outOf l x, y.fits := fun y hy => h y (List.mem_filter.1 hy).1
theorem insW_len (l : List Wd) (b : Wd) : (insW l b).length = l.length + 1 := by
 have := posW_le l b
 simp [insW]
 omega
abbrev ztP (a0) := (Blk a0 #[.string ⟨#[]⟩, .int .i64 0, .int .i64 0] 61 : SP)
abbrev zxP (a0) (a1) (a2) (a3) := (Row 3 1 (.slice a1 a2 a3) a2 a0 : SP)
abbrev zceP (a0) := (Row 3 1 (.slice none 0 0) 0 a0 : SP)
theorem sess_take {v : Value} {l : List Wd} {x : Wd} (w : World) (hv : WdsRO w v l) (hl : l.length + 1 ≤ 4398046511104) (hx : x.fits) (hset : stl l = true) (hxr : x.right = true) :
    Calls Tryz.prog 193 #[v, wdV x] w fun e w' => ∃ v' vg, e = .returned (.tuple #[v', wdV (becOf l x), vg]) ∧ zS w w' [Row 61 3 v' (tookW l x).length (wds (tookW l x)), Row 3 1 vg (takeF l x).gave.length (intCells (takeF l x).gave)] := by
 have kset := fun w' (hk : Kept (fun _ => False) w w') => sess_settled w' (hv.later hk) (by omega)
 have kr := fun w' => wd_right x hx w'
 have hpair := zH (stl_pair.1 (stl_true.1 hset)).2; rw [hset] at kset; rw [hxr] at kr; obtain ⟨ao, cap, rfl, hcap, hfit, hic⟩ := hv; have hich := zH hic; have hfith := zH hfit; have hxfh := zH hx; have hxrh := zH hxr; clear hset hxr hic hfit hx; obtain ⟨xk, xf, xt⟩ := x; have H1 : zS w _ [_] := (St.nil (fun _ => False) w).allocAt rfl #[.string ⟨xk.toArray⟩, .int .i64 xf, .int .i64 xt] 61
 have H2 : zS w _ [_, _] := H1.allocAt (B := w.heap.size + 1) (Array.size_push _) #[.string ⟨#[]⟩, .int .i64 0, .int .i64 0] 61; unfold wdV wdC textV at kr; simp only at kr; unfold wdV wdC textV; simp only; obtain ⟨bec, hbec⟩ := zNm (becOf l ⟨xk, xf, xt⟩); obtain ⟨res, hres⟩ := zNm (tookW l ⟨xk, xf, xt⟩); obtain ⟨gv, hgv⟩ := zNm ((takeF l ⟨xk, xf, xt⟩).gave); rw [hbec, hres, hgv]; have hbech := zH hbec; have hresh := zH hres; have hgvh := zH hgv; clear hbec hres hgv
 go_enter Tryz.func193, Tryz.ntmps193
 go_upto_region 1 with (fail)
 obtain ⟨bx, hbx⟩ := zNm w.heap.size; obtain ⟨br, hbr⟩ := zNm (bx + 1); obtain ⟨w2, hw2⟩ := zNm ((w.alloc (.cells #[.string ⟨xk.toArray⟩, .int .i64 xf, .int .i64 xt] 61)).alloc (.cells #[.string ⟨#[]⟩, .int .i64 0, .int .i64 0] 61)); rw [hw2, hbx, hbr] at H2; rw [hw2]; simp only [hbx, hbr]; have H3 : zS w w2 [ztP br, zcP bx xk.toArray xf xt] := H2; clear hbx hbr hw2 H1 H2
 go_upto_region 3 with (first
  | (go_at_call 78; go_must (refine (St.callPast (kset _ H3.kept) H3).mono ?_; rintro e w3 ⟨rfl, H5⟩; have d0 := H5.cell 1 0 rfl rfl; have d1 := H5.cell 1 1 rfl rfl; have d2 := H5.cell 1 2 rfl rfl))
  | (go_at_call 146; go_must (refine (St.callPast (kr _) H5).mono ?_; rintro e w4 ⟨rfl, H4⟩)))
 clear d0 d1 d2 H5 H3 kset kr; have d0 := H4.cell 1 0 rfl rfl; have d1 := H4.cell 1 1 rfl rfl; have d2 := H4.cell 1 2 rfl rfl; have H6 : zS w _ [_, _, _] := H4.allocAt rfl #[.string ⟨xk.toArray⟩, .int .i64 xf, .int .i64 xt] 61; go_upto_region 6 with (fail)
 obtain ⟨bb, hbb⟩ := zNm w4.heap.size; obtain ⟨w5, hw5⟩ := zNm (w4.alloc (.cells #[.string ⟨xk.toArray⟩, .int .i64 xf, .int .i64 xt] 61)); rw [hw5, hbb] at H6; rw [hw5]; (try simp only [hbb]); have H7 : zS w w5 [zcfP (wds []), zceP (intCells []), Blk bb (wdC ⟨xk, xf, xt⟩) 61, ztP br, zcP bx xk.toArray xf xt] := (H6.row_nil 3 1).row_nil 61 3; clear hbb hw5 H6 H4 d0 d1 d2
 go_upto_block 1 with (fail)
 go_loopw [7, 8, 10, 28] (fun u g _ j wr => ∃ (i : Nat) (s : TakeS), i ≤ l.length ∧ j = .int .i64 i ∧ Hid (s = takeF (l.take i) ⟨xk, xf, xt⟩) ∧ zS w wr [zblP (wds s.out) u s.out.length, Row 3 1 g s.gave.length (intCells s.gave), Blk bb (wdC s.became) 61, ztP br, zcP bx xk.toArray xf xt]) (fun _ _ _ j _ => l.length - (intOf j).toNat)
 case atStart => exact ⟨0, ⟨[], [], ⟨xk, xf, xt⟩, 0⟩, by omega, rfl, zH rfl, H7⟩
 case round =>
  clear H7; obtain ⟨i, s, hi, rfl, hs, HM⟩ := hrel; have hln := takeF_mono l ⟨xk, xf, xt⟩ i; rw [← hs.out] at hln
  by_cases hlt : i < l.length
  · obtain ⟨b, o, rfl, hb, hc⟩ := hich.out (by intro e; rw [e] at hlt; simp at hlt)
    obtain ⟨y, hy⟩ : ∃ y, l[i]? = some y := ⟨_, List.getElem?_eq_getElem hlt⟩; have hyf := hfith.out y (List.mem_of_getElem? hy); obtain ⟨q0, q1, q2⟩ := wd_cells (hc i y hy) (HM.kept.block b hb id); have kj := fun w' => wd_joins y ⟨xk, xf, xt⟩ hyf hxfh.out w'
    have hsn : takeF (l.take (i + 1)) ⟨xk, xf, xt⟩ = takeStep ⟨xk, xf, xt⟩ s y := by rw [take_snoc' hy, takeF_snoc, hs.out]
    have hsi : s.n = i := by rw [hs.out, takeF_n, List.length_take]; omega
    obtain ⟨J, hJ⟩ := zNm (y.joins ⟨xk, xf, xt⟩); rw [hJ] at kj; unfold takeStep at hsn; rw [hJ, hsi] at hsn; have hsnh := zH hsn; clear hJ hsn hsi hy hc hyf hs; obtain ⟨so, sg, ⟨sk, sf, st⟩, sn⟩ := s; obtain ⟨yk, yf, yt⟩ := y; unfold wdV wdC textV at kj; unfold wdC textV at HM; simp only at q0 q1 q2 kj hsnh hln HM; unfold textV at q0; have HA : zS w _ [_, _, _, _, _, _] := HM.allocAt rfl #[.string ⟨yk.toArray⟩, .int .i64 yf, .int .i64 yt] 61; go_upto_region 9 with (fail)
    obtain ⟨wb, hwb⟩ := zNm (wr.alloc (.cells #[.string ⟨yk.toArray⟩, .int .i64 yf, .int .i64 yt] 61)); obtain ⟨yb, hyb⟩ := zNm wr.heap.size; rw [hwb, hyb] at HA; (try rw [hwb]); (try simp only [hyb]); have HA2 : zS w wb [zcP yb yk.toArray yf yt, zblP (wds so) u7 so.length, Row 3 1 u8 sg.length (intCells sg), zcP bb sk.toArray sf st, ztP br, zcP bx xk.toArray xf xt] := HA; clear hwb hyb q0 q1 q2 HM HA; have d0 := HA2.cell 0 0 rfl rfl; have d1 := HA2.cell 0 1 rfl rfl; have d2 := HA2.cell 0 2 rfl rfl; have e0 := HA2.cell 5 0 rfl rfl; have e1 := HA2.cell 5 1 rfl rfl; have e2 := HA2.cell 5 2 rfl rfl
    cases J with
    | false =>
     go_wp2_with (first
      | (go_at_call 147; go_must (refine (St.callPast (kj _) HA2).mono ?_; rintro e w3 ⟨rfl, H3⟩; have d0 := H3.cell 0 0 rfl rfl; have d1 := H3.cell 0 1 rfl rfl; have d2 := H3.cell 0 2 rfl rfl))
      | (at_builtin; go_must (refine St.list_app (H3.skip _) 1 rfl rfl (.tmp 37) (.tmp 39) 145 rfl Tryz.underlying145 Tryz.info61 (by decide) rfl [.string ⟨yk.toArray⟩, .int .i64 yf, .int .i64 yt] rfl rfl (new_cells #[.string ⟨yk.toArray⟩, .int .i64 yf, .int .i64 yt] _) (by simp [Value.oneCell']) (by omega) (by omega) ?_; intro g5 cap5 w6 H6 hz6)))
     go_roundw
     case rel =>
      refine ⟨i + 1, _, by omega, by go_num, zH hsnh.out.symm, ?_⟩
      try rw [if_neg (by simp)]
      have H7 : zS w w6 [_, _, _, _, _, _] := H6; simp only [wds_app, wds_one, List.length_append, List.length_singleton]; exact H7.pick [1, 2, 3, 4, 5]
     case measure => simp [intOf]; omega
    | true =>
     go_upto_region 12 with (first
      | (go_at_call 147; go_must (refine (St.callPast (kj _) HA2).mono ?_; rintro e w3 ⟨rfl, H3⟩; have d0 := H3.cell 0 0 rfl rfl; have d1 := H3.cell 0 1 rfl rfl; have d2 := H3.cell 0 2 rfl rfl))
      | (at_builtin; go_must (refine St.list_app (H3.skip _) 2 rfl rfl (.tmp 41) (.tmp 43) 33 rfl Tryz.underlying33 Tryz.info3 (by decide) rfl [.int .i64 i] rfl rfl (new_cells #[.int .i64 i] _) (by simp [Value.oneCell']) (by omega) (by omega) ?_; intro g5 cap5 w6 H6 hz6)))
     have H7 : zS w w6 [zcP yb yk.toArray yf yt, zblP (wds so) u7 so.length, Row 3 1 (.slice (some ⟨g5, 0, none⟩) (sg.length + 1) cap5) (sg.length + 1) (intCells sg ++ [.int .i64 i]), zcP bb sk.toArray sf st, ztP br, zcP bx xk.toArray xf xt] := H6; clear d0 d1 d2 e0 e1 e2 H6 H3 HA2; have d1 := H7.cell 0 1 rfl rfl; have d2 := H7.cell 0 2 rfl rfl; have e1 := H7.cell 3 1 rfl rfl; have e2 := H7.cell 3 2 rfl rfl; have p1 := H7.free 3 1 rfl; have p2 := H7.free 3 2 rfl; have hne : ¬ yb = bb := blk_apart' (H7.pick [0, 3]); have hne2 : ¬ bb = yb := fun e => hne e.symm
     have H8 := ((H7.set 3 rfl 1 (.int .i64 (min sf yf))).set 3 rfl 2 (.int .i64 (max st yt)))
     go_region
     go_wp2; go_roundw
     case rel =>
      refine ⟨i + 1, _, by omega, by go_num, zH hsnh.out.symm, ?_⟩
      (try rw [if_pos rfl]); (try simp only [if_true]); simp only [grow, List.length_append, List.length_singleton]; have ei : intCells (sg ++ [(i : Int)]) = intCells sg ++ [.int .i64 i] := by simp [intCells]
      rw [ei]; exact H8.drew.pick [1, 2, 3, 4, 5]
     case measure => simp [intOf]; omega
  · obtain rfl : i = l.length := by omega
    rw [List.take_length] at hs; have hso : s.out = outOf l ⟨xk, xf, xt⟩ := by rw [hs.out, takeF_out]
    have hsb : s.became = bec := by rw [hs.out, takeF_bec, hbech.out]
    have hsg : s.gave = gv := by rw [hs.out, hgvh.out]
    obtain ⟨O, sg, B0, sn⟩ := s; simp only at hso hsb hsg HM hln; subst hsb hsg; have hOf : ∀ y ∈ O, y.fits := by rw [hso]; exact outOf_fits hfith.out
    have hOp : O.Pairwise aheadW := by rw [hso]; exact out_pair hpair.out _
    have hrO : insW O B0 = res := by rw [← hresh.out, hso, ← hbech.out]; rfl
    obtain ⟨k, hk⟩ := zNm (posW O B0); have hkle : k ≤ O.length := by rw [← hk]; exact posW_le _ _
    have hrl : res.length = O.length + 1 := by rw [← hrO, insW_len]
    have ks := fun w' v' hv' => wds_search (w := w') (v := v') (l := O) (x := B0) (k := k) hv' (by omega) hkle (fun j y hj hy => posW_lo (by rw [hk]; exact hj) hy) (fun j y hj hy => posW_hi hOp (by rw [hk]; exact hj) hy)
    have ki := fun S' w' v' g2 K' => wds_insert (w := w') (v := v') (l := O) (x := B0) (k := k) (g2 := g2) (S := S') hkle (by omega) K'
    have hrO2 : O.take k ++ B0 :: O.drop k = res := by rw [← hrO, insW, hk]
    rw [hrO2, ← hrl] at ki; obtain ⟨ua, uc, rfl, huc, _⟩ := slice_form' (HM.row 0 rfl); obtain ⟨ga, gc, rfl, hgc, _⟩ := slice_form' (HM.row 1 rfl); have ks2 := ks _ _ (wds_own (HM.row 0 rfl) hOf); have hOfh := zH hOf; clear hrl hso hOp hrO hk ks hrO2 hpair hich hresh hbech hgvh hs hOf; obtain ⟨bk, bf, bt⟩ := B0; unfold wdV placeV wdC textV at ks2; unfold wdC textV at HM ki; simp only at ks2 HM ki; have d0 := HM.cell 2 0 rfl rfl; have d1 := HM.cell 2 1 rfl rfl; have d2 := HM.cell 2 2 rfl rfl; go_upto_region 15 with (go_at_call 247; go_must (refine ks2.mono ?_; rintro e w6 ⟨⟨bv, rfl⟩, hb6⟩))
    have H6 : zS w w6 [zqP (wds O) ua O.length uc, zxP (intCells sg) ga sg.length gc, zcP bb bk.toArray bf bt, ztP br] := (HM.past hb6).pick [0, 1, 2, 3]; clear HM hb6 ks2 d0 d1 d2; refine wp_script [(0, false), (1, false), (2, false), (5, false), (6, false), (3, true), (4, true), (7, false), (8, true), (9, false)] (Fam fun w' => zS w w' [zcP bb bk.toArray bf bt]) (fun w' => zS w w' [zqP (wds O) ua O.length uc, zxP (intCells sg) ga sg.length gc, zcP bb bk.toArray bf bt, ztP br]) (by kernel_rfl) (by rfl) (by kernel_rfl) (by kernel_rfl) H6.drew (Fam.st (fun _ h => h.pick [2])) ?_
    iterate 5 first | (apply script_pass; rfl; rfl; intro K hK; go_simp; refine hK _ ?_; clear hK K) | (apply script_step; rfl; rfl; (focus (intro I hI w1 h1'; have h1 := hI.2 _ h1'; have d0 := h1.cell 0 0 rfl rfl; have d1 := h1.cell 0 1 rfl rfl; have d2 := h1.cell 0 2 rfl rfl; first | (go_simp; first | rfl | exact ⟨rfl, h1'⟩))); intro K hK; go_simp; refine hK _ ?_; clear hK K)
    obtain ⟨V1, hV1⟩ := hide_rel (fun u I' => ∃ g2, u = .slice (some ⟨g2, 0, none⟩) 1 1 ∧ I' = fun w' => zS w w' [zqP (wds O) ua O.length uc, zxP (intCells sg) ga sg.length gc, zcP bb bk.toArray bf bt, ztP br, zcP g2 bk.toArray bf bt])
    obtain ⟨V2, hV2⟩ := hide_rel (fun u I' => ∃ v', u = v' ∧ I' = fun w' => zS w w' [zblP (wds res) v' res.length, zxP (intCells sg) ga sg.length gc, zcP bb bk.toArray bf bt, ztP br])
    refine script_big V1 rfl rfl ?_ ?_
    · intro w1 h1
      go_simp
      exact ⟨_, (hV1.out _ _).2 ⟨_, rfl, rfl⟩, (h1.alloc _ _).pick [1, 2, 3, 4, 0]⟩
    intro u I' hvI; obtain ⟨g2, rfl, rfl⟩ := (hV1.out _ _).1 hvI; clear hvI hV1; refine ⟨_, fun _ h => h, Fam.st (fun _ h => h.pick [2]), ?_⟩
    intro K hK
    go_simp
    refine hK _ ?_; clear hK K; refine script_big V2 rfl rfl ?_ ?_
    · intro w1 h1; obtain ⟨S1, K1, G1⟩ := St.call (l1 := [_, _]) (h1.pick [0, 4, 1, 2, 3]); have ki2 := ki S1 w1 _ g2 K1
      go_simp
      refine ki2.mono ?_; rintro e w7 ⟨v', rfl, H7⟩; have H8 : zS w w7 [_, _, _, _, _] := G1 _ _ H7; exact ⟨_, rfl, _, (hV2.out _ _).2 ⟨v', rfl, rfl⟩, H8.pick [0, 2, 3, 4]⟩
    intro u I' hvI; obtain ⟨v', rfl, rfl⟩ := (hV2.out _ _).1 hvI; clear hvI hV2; refine ⟨_, fun _ h => h, Fam.st (fun _ h => h.pick [2]), ?_⟩
    intro K hK
    go_simp
    refine hK _ ?_; clear hK K
    iterate 1 first | (apply script_pass; rfl; rfl; intro K hK; go_simp; refine hK _ ?_; clear hK K) | (apply script_step; rfl; rfl; (focus (intro I hI w1 h1'; have h1 := hI.2 _ h1'; first | (go_simp; first | rfl | exact ⟨rfl, h1'⟩))); intro K hK; go_simp; refine hK _ ?_; clear hK K)
    obtain ⟨V3, hV3⟩ := hide_rel (fun uu I' => uu = undef ∧ I' = fun w' => zS w w' [zblP (wds res) u res.length, zxP (intCells sg) ga sg.length gc, zcP bb bk.toArray bf bt, zcP br bk.toArray bf bt])
    refine script_big V3 rfl rfl ?_ ?_
    · intro w1 h1; have p0 := h1.cell 3 0 rfl rfl; have p1 := h1.cell 3 1 rfl rfl; have p2 := h1.cell 3 2 rfl rfl; have f0 := h1.free 3 0 rfl; have f1 := h1.free 3 1 rfl; have f2 := h1.free 3 2 rfl
      go_simp
      exact ⟨_, (hV3.out _ _).2 ⟨rfl, rfl⟩, ((h1.set 3 rfl 0 _).set 3 rfl 1 _).set 3 rfl 2 _⟩
    intro u2 I' hvI; obtain ⟨rfl, rfl⟩ := (hV3.out _ _).1 hvI; clear hvI hV3; refine ⟨_, fun _ h => h, Fam.st (fun _ h => h.pick [2]), ?_⟩
    intro K hK
    go_simp
    refine hK _ ?_; clear hK K
    iterate 1 first | (apply script_pass; rfl; rfl; intro K hK; go_simp; refine hK _ ?_; clear hK K) | (apply script_step; rfl; rfl; (focus (intro I hI w1 h1'; have h1 := hI.2 _ h1'; first | (go_simp; first | rfl | exact ⟨rfl, h1'⟩))); intro K hK; go_simp; refine hK _ ?_; clear hK K)
    refine script_nil ?_; intro w9 H9; go_wp2
    try simp only [Exit.inBlock, Exit.then]
    refine bodyPost_ret (results_tct rfl rfl (blk_range (cs := [.string ⟨bk.toArray⟩, .int .i64 bf, .int .i64 bt]) (H9.blk 3 rfl)) Tryz.underlying61 rfl (by kernel_rfl)) rfl ?_
    exact ⟨u, .slice ga sg.length gc, rfl, H9.pick [0, 1]⟩
end Go.Proofs.YtiglgfonhdfpmaaGreat
