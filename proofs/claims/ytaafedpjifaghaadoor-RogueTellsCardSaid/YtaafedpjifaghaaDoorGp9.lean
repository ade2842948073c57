import Derived.Test.YtaafedpjifaghaaDoorGp4
import Derived.Test.YtaafedpjifaghaaDoorGp8
import Derived.Lib.AtoiAllCases
import Derived.Lib.SlBytesConst
/- The walk of the rogue's unhex. No condition but a moderate length. -/
set_option linter.unusedVariables false
set_option linter.unusedSimpArgs false
namespace Go.Proofs.YtaafedpjifaghaaDoor
open Go.RowKit

theorem lib_indexByte (c : UInt8) (w : World) : Calls Tryd.prog 60 #[.string ⟨#[48, 49, 50, 51, 52, 53, 54, 55, 56, 57, 97, 98, 99, 100, 101, 102]⟩, .int .u8 (c.toNat : Nat)] w fun e w' => e = .returned (.int .i64 (Lib.indexByte digitsB.data.toList c)) ∧ w' = w := by
  have h := sh_strings_IndexByte digitsB (c.toNat : Int) w
  have e : (c.toNat : Int).toNat.toUInt8 = c := by simp
  rw [e] at h
  exact h
theorem came_at {P : Program} {I : World → Prop} {a : Act} {o : Oper} {w : World} {x : Operand} {t : TypeId} {k : IntKind} {l : List UInt8} (m : Nat) {c : UInt8} (ho : o.op = .index t x (.const (.int k (m : Int)))) (hx : a.eval x = .string ⟨l.toArray⟩) (hm : l[m]? = some c) (hu : P.underlying t = some .string) (h : I w) :
    CameTo P I (.int .u8 (c.toNat : Nat)) ((execOp a.eval o).run P w) := by
  have hlt : m < l.length := (List.getElem?_eq_some_iff.1 hm).1
  have hs : (⟨l.toArray⟩ : ByteArray).size = l.length := by simp [ByteArray.size]
  unfold execOp
  simp only [ho]
  rw [show a.eval (.const (.int k (m : Int))) = .int k (m : Int) from rfl, hx]
  have hr : (Instr.index t (.string ⟨l.toArray⟩) (.int k (m : Int))).run P w = .ok (.int .u8 (c.toNat : Nat)) w := by
    rw [run_index_string w t ⟨l.toArray⟩ k m hu, dif_pos ⟨by omega, by rw [hs]; omega⟩]
    have : (⟨l.toArray⟩ : ByteArray)[m]'(by rw [hs]; exact hlt) = c := (List.getElem?_eq_some_iff.1 hm).2
    simp only [Int.toNat_natCast, this]
  rw [Sem.run_bind, hr]
  exact ⟨rfl, h⟩
theorem hexVal_le (c : UInt8) : hexVal c ≤ 15 := by
  have key : ∀ r : Fin 256, hexVal (UInt8.ofNat r.val) ≤ 15 := by decide +kernel
  have := key ⟨c.toNat, c.toNat_lt⟩
  simpa using this
theorem hexVal_max (c : UInt8) : max (Lib.indexByte digitsB.data.toList c) 0 = (hexVal c : Int) := by
  have e : Lib.indexByte digitsB.data.toList c = Lib.indexByte [48, 49, 50, 51, 52, 53, 54, 55, 56, 57, 97, 98, 99, 100, 101, 102] c := rfl
  unfold hexVal
  rw [e]
  omega
theorem text_drop2 (a b : UInt8) (r : List UInt8) : (⟨(a :: b :: r).toArray⟩ : ByteArray).extract 2 (⟨(a :: b :: r).toArray⟩ : ByteArray).size = ⟨r.toArray⟩ := by
  apply ByteArray.ext
  rw [ByteArray.data_extract]
  apply Array.ext'
  rw [Array.toList_extract, List.extract_eq_take_drop]
  simp [ByteArray.size]
set_option maxHeartbeats 2000000 in
set_option maxRecDepth 100000 in
theorem rogue_unhex {l : List UInt8} {w : World} (hl : l.length ≤ 1000000000) :
    Calls Tryd.prog 41 #[.string ⟨l.toArray⟩] w fun e w' => ∃ v, e = .returned v ∧ St (fun _ => False) w w' [Row 5 1 v (unhexM 128 l).length (bvs (unhexM 128 l))] := by
  have H0 : St (fun _ => False) w w [Row 5 1 (.slice none 0 0) 0 (bvs [])] := (St.nil _ w).row_nil _ _
  go_enter Tryd.func41, Tryd.ntmps41
  go_upto_block 1 with (fail)
  go_loopw [0, 3, 4, 5] (fun s x _ _ wr => ∃ (i : Nat) (r out : List UInt8), i ≤ 128 ∧ s = .string ⟨r.toArray⟩ ∧ r.length ≤ 1000000000 ∧ out.length = i ∧ Hid (unhexM 128 l = out ++ unhexM (128 - i) r) ∧ St (fun _ => False) w wr [Row 5 1 x i (bvs out)]) (fun s _ _ _ _ => match s with | .string x => x.size | _ => 0)
  case atStart => exact ⟨0, l, [], by omega, rfl, hl, rfl, Lib.hid rfl, H0⟩
  case round =>
    clear H0
    obtain ⟨i, r, out, hi, rfl, hrl, hol, hun, HL⟩ := hrel
    obtain ⟨ao, cp, rfl, _, _⟩ := slice_form' (HL.row 0 rfl)
    match r, hrl, hun with
    | [], _, hun =>
      have e : unhexM 128 l = out := by rw [hun.out]; cases (128 - i) <;> simp [unhexM]
      have eh := Lib.hid e
      clear e
      go_wp2
      go_ret
      rw [eh.out, hol]
      exact ⟨_, rfl, HL⟩
    | [a], _, hun =>
      have e : unhexM 128 l = out := by rw [hun.out]; cases (128 - i) <;> simp [unhexM]
      have eh := Lib.hid e
      clear e
      go_wp2
      go_ret
      rw [eh.out, hol]
      exact ⟨_, rfl, HL⟩
    | a :: b :: r, hrl, hun =>
      have hz : (⟨(a :: b :: r).toArray⟩ : ByteArray).size = r.length + 2 := by simp [ByteArray.size]
      have hz2 : (⟨r.toArray⟩ : ByteArray).size = r.length := by simp [ByteArray.size]
      have hx2 := text_drop2 a b r
      rw [hz] at hx2
      simp only [List.length_cons] at hrl
      obtain ⟨s0, hs0⟩ : ∃ s0 : ByteArray, ⟨(a :: b :: r).toArray⟩ = s0 := ⟨_, rfl⟩
      rw [hs0] at hz hx2 ⊢
      have hs0h := Lib.hid hs0
      clear hs0
      by_cases hlt : i < 128
      · obtain ⟨k, hk⟩ : ∃ k, 128 - i = k + 1 := ⟨128 - i - 1, by omega⟩
        have hnx := Lib.hid (show unhexM 128 l = (out ++ [UInt8.ofNat (16 * hexVal a + hexVal b)]) ++ unhexM (128 - (i + 1)) r by
          rw [hun.out, hk, show 128 - (i + 1) = k by omega, unhexM]
          simp)
        have hil : (i : Int) < 128 := by omega
        have ha := hexVal_le a
        have hb := hexVal_le b
        clear hun hk
        go_upto_region 4 with (fail)
        have e1 : s0 = ⟨(a :: b :: r).toArray⟩ := hs0h.out.symm
        refine wp_calm (fun w' => St (fun _ => False) w w' [Row 5 1 (.slice ao i cp) i (bvs out)]) (by kernel_rfl) (by kernel_rfl) (HL.drew) ?_
        iterate 8 first
          | (apply calm_pass
             · rfl
             intro K hK
             go_simp
             refine hK _ ?_
             clear hK K)
          | (apply calm_step
             · rfl
             · intro w1 h1
               first
                 | (refine came_at 0 (l := a :: b :: r) rfl (by rw [← e1]; rfl) rfl Tryd.underlying9 h1)
                 | (refine came_at 1 (l := a :: b :: r) rfl (by rw [← e1]; rfl) rfl Tryd.underlying9 h1)
                 | (go_simp
                    first
                      | rfl
                      | exact ⟨rfl, h1⟩
                      | (go_at_call 60; with_reducible exact St.callSame' (lib_indexByte a w1) h1)
                      | (go_at_call 60; with_reducible exact St.callSame' (lib_indexByte b w1) h1)
                   )
             intro K hK
             go_simp
             refine hK _ ?_
             clear hK K)
        refine calm_nil ?_
        intro w2 H2
        have hma := hexVal_max a
        have hmb := hexVal_max b
        obtain ⟨xa, hxa⟩ : ∃ x, Lib.indexByte digitsB.data.toList a = x := ⟨_, rfl⟩
        obtain ⟨xb, hxb⟩ : ∃ x, Lib.indexByte digitsB.data.toList b = x := ⟨_, rfl⟩
        rw [hxa] at hma
        rw [hxb] at hmb
        try rw [hxa]
        try rw [hxb]
        obtain ⟨na, hna⟩ : ∃ n, hexVal a = n := ⟨_, rfl⟩
        obtain ⟨nb, hnb⟩ : ∃ n, hexVal b = n := ⟨_, rfl⟩
        rw [hna] at hma ha hnx
        rw [hnb] at hmb hb hnx
        clear hxa hxb hna hnb
        have w1 : IntKind.i64.wrap (16 * (na : Int)) = 16 * (na : Int) := by rw [IntKind.wrap_i64]; omega
        have w2' : IntKind.i64.wrap (16 * (na : Int) + (nb : Int)) = 16 * (na : Int) + (nb : Int) := by rw [IntKind.wrap_i64]; omega
        have w3 : (16 * (na : Int) + (nb : Int)) % 256 = 16 * (na : Int) + (nb : Int) := by omega
        have hbv : bvs [UInt8.ofNat (16 * na + nb)] = [.int .u8 (16 * (na : Int) + (nb : Int))] := by
          simp only [bvs, bv, List.map_cons, List.map_nil, UInt8.toNat_ofNat']
          rw [show (16 * na + nb) % 2 ^ 8 = 16 * na + nb by omega]
          congr 2
        have hone : ∀ u ∈ ([.int .u8 (16 * (na : Int) + (nb : Int))] : List Value), u.oneCell' = true := by rw [← hbv]; exact one_bvs
        go_upto_region 3 with (at_builtin; go_must (refine St.list_add (H2.skip _) 0 rfl rfl (.tmp 22) (.tmp 30) 38 rfl Tryd.underlying38 Tryd.info5 (by decide) rfl [.int .u8 (16 * (na : Int) + (nb : Int))] rfl rfl (fun h => by cases h) (fun ad had => by cases had; exact new_cells #[.int .u8 (16 * (na : Int) + (nb : Int))] _) hone (by omega) ?_; intro v5 w5 H5 hz5))
        subst e1
        clear hma hmb w1 w2' w3 hs0h hone H2
        go_wp2
        go_roundw
        case rel => exact ⟨i + 1, r, out ++ [UInt8.ofNat (16 * na + nb)], by omega, rfl, by omega, by simp [hol], hnx, by rw [bvs_append, hbv]; exact H5⟩
        case measure => simp only [hz, hz2]; omega
      · obtain rfl : i = 128 := by omega
        have e : unhexM 128 l = out := by rw [hun.out]; simp [unhexM]
        have eh := Lib.hid e
        clear e
        go_wp2
        go_ret
        rw [eh.out, hol]
        exact ⟨_, rfl, HL⟩

end Go.Proofs.YtaafedpjifaghaaDoor

/- The walks of the rogue's Parse: its closure, slices.IndexFunc at words. Conditions: the words of the text lie there. -/
set_option linter.unusedVariables false
set_option linter.unusedSimpArgs false
namespace Go.Proofs.YtaafedpjifaghaaDoor
open Go.RowKit

theorem split_ne (l : List UInt8) : Lib.split l [32] ≠ [] := by
  intro h
  have := split_len l
  rw [h] at this
  simp at this
theorem splitK_le (sep : List UInt8) : ∀ (k : Nat) (s : List UInt8), ∀ x ∈ Lib.splitK sep 0 k s, x.length ≤ s.length
  | 0, s, x, hx => by rw [Lib.splitK] at hx; rw [List.mem_singleton.1 hx]; exact Nat.le_refl _
  | k + 1, s, x, hx => by
    unfold Lib.splitK at hx
    split at hx
    · rw [List.mem_singleton.1 hx]; exact Nat.le_refl _
    · rcases List.mem_cons.1 hx with rfl | hx
      · simp; omega
      · have := splitK_le sep k _ x hx
        simp at this
        omega
theorem split_le {l x : List UInt8} (h : x ∈ Lib.split l [32]) : x.length ≤ l.length := splitK_le _ _ _ x h
theorem txt_eq (a b : List UInt8) : ((⟨a.toArray⟩ : ByteArray) == ⟨b.toArray⟩) = (a == b) := by
  show (a.toArray == b.toArray) = (a == b)
  simp
def findV (wb : Nat) : Value := .func (.func 38) #[] #[.pointer (some ⟨wb, 0, none⟩)]
set_option maxHeartbeats 1000000 in
set_option maxRecDepth 100000 in
theorem rogue_isName {wb g n : Nat} (x : List UInt8 × List UInt8) {W0 : List UInt8} {w : World} (hn : 0 < n) (hw : w.cell? ⟨wb, 0, none⟩ = some (.slice (some ⟨g, 0, none⟩) n n)) (h0 : w.cell? ⟨g, 0, none⟩ = some (.string ⟨W0.toArray⟩)) (hwb : wb < w.heap.size) (hg : g < w.heap.size) :
    Calls Tryd.prog 38 #[.agg #[.string ⟨x.1.toArray⟩, .string ⟨x.2.toArray⟩], .pointer (some ⟨wb, 0, none⟩)] w fun e w' => e = .returned (.bool (x.1 == W0)) ∧ Below w.heap.size w w' := by
  have H0 : St (fun _ => False) w (w.alloc (.cells #[.string ⟨x.1.toArray⟩, .string ⟨x.2.toArray⟩] 77)) [_] := (St.nil (fun _ => False) w).alloc _ 77
  have hte := txt_eq x.1 W0
  have c0 : (w.alloc (.cells #[.string ⟨x.1.toArray⟩, .string ⟨x.2.toArray⟩] 77)).cell? ⟨w.heap.size, 0, none⟩ = some (.string ⟨x.1.toArray⟩) := H0.cell 0 0 rfl rfl
  have hn2 : (0 : Int) < (n : Int) := by omega
  go_enter Tryd.func38, Tryd.ntmps38
  go_upto_region 1 with (fail)
  go_region
  go_wp2
  go_ret
  exact ⟨rfl, (H0.drew.below (by omega) (fun _ h => h.elim))⟩


theorem kind_at {w : List (List UInt8)} {k : Nat} (hk : k < 8) (hall : ∀ j, j < k → ((wordsM.getD j ([], [])).1 == w.getD 0 []) = false) (h : ((wordsM.getD k ([], [])).1 == w.getD 0 []) = true) : kindM w = k := by
  unfold kindM
  have hlen : wordsM.length = 8 := rfl
  have : wordsM.findIdx? (fun x => x.1 == w.getD 0 []) = some k := by
    rw [List.findIdx?_eq_some_iff_getElem]
    refine ⟨by omega, by simpa [List.getD_eq_getElem?_getD, List.getElem?_eq_getElem (show k < wordsM.length by omega)] using h, fun j hj => ?_⟩
    have := hall j hj
    rw [List.getD_eq_getElem?_getD, List.getElem?_eq_getElem (show j < wordsM.length by omega)] at this
    simpa using this
  rw [this]
theorem kind_none {w : List (List UInt8)} (hall : ∀ j, j < 8 → ((wordsM.getD j ([], [])).1 == w.getD 0 []) = false) : kindM w = -1 := by
  unfold kindM
  have hlen : wordsM.length = 8 := rfl
  have : wordsM.findIdx? (fun x => x.1 == w.getD 0 []) = none := by
    rw [List.findIdx?_eq_none_iff]
    intro x hx
    obtain ⟨j, hj, rfl⟩ := List.mem_iff_getElem.1 hx
    have := hall j (by omega)
    rw [List.getD_eq_getElem?_getD, List.getElem?_eq_getElem hj] at this
    simpa using this
  rw [this]
set_option maxHeartbeats 1000000 in
set_option maxRecDepth 100000 in
theorem rogue_find {gw wb g n : Nat} {W : List (List UInt8)} {w : World} (hn : 0 < n) (hw : w.cell? ⟨wb, 0, none⟩ = some (.slice (some ⟨g, 0, none⟩) n n)) (h0 : w.cell? ⟨g, 0, none⟩ = some (.string ⟨(W.getD 0 []).toArray⟩)) (hwb : wb < w.heap.size) (hg : g < w.heap.size)
    (hb : w.heap[gw]? = some (.cells wordCells.toArray 77 (0, 0))) :
    Calls Tryd.prog 36 #[.slice (some ⟨gw, 0, none⟩) 8 8, findV wb] w fun e w' => e = .returned (.int .i64 (kindM W)) ∧ Below w.heap.size w w' := by
  have H0 : St (fun _ => False) w w [] := St.nil _ w
  obtain ⟨W0, hW0⟩ : ∃ x, W.getD 0 [] = x := ⟨_, rfl⟩
  have hgw := blk_lt hb
  have hbh := Lib.hid hb
  have hwh := Lib.hid hw
  have h0h := Lib.hid h0
  have hW0h := Lib.hid hW0
  clear hb hw h0 hW0
  unfold findV
  go_enter Tryd.func36, Tryd.ntmps36
  go_upto_block 1 with (fail)
  go_loopw [5, 8] (fun _ j wr => ∃ (k : Nat), k ≤ 8 ∧ j = .int .i64 k ∧ Hid (∀ i, i < k → ((wordsM.getD i ([], [])).1 == W0) = false) ∧ St (fun _ => False) w wr []) (fun _ j _ => 8 - (intOf j).toNat)
  case atStart => exact ⟨0, by omega, rfl, Lib.hid (fun i hi => absurd hi (by omega)), H0⟩
  case round =>
    clear H0
    obtain ⟨k, hk, rfl, hall, HM⟩ := hrel
    by_cases hkl : k < 8
    · obtain ⟨hw0, hw1⟩ := word_at k hkl
      obtain ⟨nm, hnm⟩ : ∃ x, (wordsM.getD k ([], [])).1 = x := ⟨_, rfl⟩
      obtain ⟨pt, hpt⟩ : ∃ x, (wordsM.getD k ([], [])).2 = x := ⟨_, rfl⟩
      rw [hnm] at hw0
      rw [hpt] at hw1
      unfold textV at hw0 hw1
      have hgr : wr.heap[gw]? = w.heap[gw]? := HM.kept.block gw hgw id
      have hB := hgr.trans hbh.out
      have q0 := cell_blk' hB hw0
      have q1 := cell_blk' hB hw1
      have cw : wr.cell? ⟨wb, 0, none⟩ = some (.slice (some ⟨g, 0, none⟩) n n) := by
        have := HM.kept.block wb hwb id
        have h := hwh.out
        unfold World.cell? at h ⊢
        rw [this]
        exact h
      have cg : wr.cell? ⟨g, 0, none⟩ = some (.string ⟨W0.toArray⟩) := by
        have := HM.kept.block g hg id
        have h := h0h.out
        rw [hW0h.out] at h
        unfold World.cell? at h ⊢
        rw [this]
        exact h
      have kr := rogue_isName (nm, pt) hn cw cg (Nat.lt_of_lt_of_le hwb HM.kept.size) (Nat.lt_of_lt_of_le hg HM.kept.size)
      have hki : (k : Int) < 8 := by omega
      have hnmh := Lib.hid hnm
      obtain ⟨ct, hcv⟩ : ∃ ct, (nm == W0) = ct := ⟨_, rfl⟩
      simp only [hcv] at kr
      have hcvh := Lib.hid hcv
      clear hw0 hw1 hgr hB hnm hpt hcv cw cg
      cases ct with
      | false =>
        go_wp2_with (go_at_call 38; go_must (refine (St.callPast kr HM).mono ?_; rintro e w3 ⟨rfl, H3⟩))
        go_roundw
        case rel =>
          refine ⟨k + 1, by omega, by go_num, Lib.hid fun i hi => ?_, H3⟩
          rcases Nat.lt_or_ge i k with h | h
          · exact hall.out i h
          · obtain rfl : i = k := by omega
            rw [hnmh.out]
            exact hcvh.out
        case measure => simp [intOf]; omega
      | true =>
        go_wp2_with (go_at_call 38; go_must (refine (St.callPast kr HM).mono ?_; rintro e w3 ⟨rfl, H3⟩))
        go_ret
        have := kind_at (w := W) hkl (by rw [hW0h.out]; exact hall.out) (by rw [hW0h.out, hnmh.out]; exact hcvh.out)
        exact ⟨by rw [this]; rfl, H3.below (Nat.le_refl _) (fun _ h => h.elim)⟩
    · obtain rfl : k = 8 := by omega
      go_wp2
      go_ret
      have := kind_none (w := W) (by rw [hW0h.out]; exact hall.out)
      exact ⟨by rw [this]; rfl, HM.below (Nat.le_refl _) (fun _ h => h.elim)⟩

end Go.Proofs.YtaafedpjifaghaaDoor

/- The walk of the rogue's Parse. Conditions: the text's length; the library's variables hold what its text lays. -/
set_option linter.unusedVariables false
set_option linter.unusedSimpArgs false
namespace Go.Proofs.YtaafedpjifaghaaDoor
open Go.RowKit

/-- A result that lies in a block of the call's own, and one beside it. -/
theorem results_ct {P : Program} {fn : Func} {t c : Tmp} {ty : TypeId} (h : fn.results = #[.cell t ty, .tmp c]) {tmps : Array Value} {w : World} {b : Nat} {cs : List Value} {d : TypeDesc} (ht : tmps.getD t undef = .pointer (some ⟨b, 0, none⟩)) (hr : w.rangeAt b 0 cs)
    (hu : P.underlying ty = some d) (hd : d.isRow = true) (hi : (P.info? ty).map (·.size) = some cs.length) : (results fn tmps).run P w = .ok (.tuple #[.agg cs.toArray, tmps.getD c undef]) w := by
  have h2 := run_loadVar_mid (P := P) w b 0 ty cs d hr hu hd hi
  have h3 : tmps[t]?.getD undef = .pointer (some ⟨b, 0, none⟩) := by simpa using ht
  simp [results, h, h3, asAddr, h2]
theorem blk_range' {w : World} {g : Nat} {t : TypeId} {f : Nat × Nat} {cs : List Value} (h : w.heap[g]? = some (.cells cs.toArray t f)) : w.rangeAt g 0 cs := fun j u hj => by rw [Nat.zero_add, cell_blk h]; simpa using hj
theorem atoiM_bounds (l : List UInt8) : -9223372036854775808 ≤ atoiM l ∧ atoiM l ≤ 9223372036854775807 := by
  unfold atoiM
  split
  · exact Lib.atoiAll_bounds (by assumption)
  · exact Lib.atoiSat_bounds l
  · omega
theorem mv_set (v : Mv) (x : Value) (c : UInt8) (n : Int) : (mvCells v x).setIfInBounds (partAt c) (.int .i64 n) = mvCells (v.setPart c n) x := by
  unfold partAt Mv.setPart mvCells
  split
  · rfl
  · split <;> rfl
theorem split_blk {l : List UInt8} (hl : l.length < 4294967281) {w : World} (hv : Vars w) :
    Calls Tryd.prog 35 #[.string ⟨l.toArray⟩, .string ⟨#[32]⟩] w fun e w' => ∃ g, e = .returned (.slice (some ⟨g, 0, none⟩) (Lib.split l [32]).length (Lib.split l [32]).length) ∧
      St (fun _ => False) w w' [Blk g (texts (Lib.split l [32])).toArray 9] := by
  obtain ⟨m, hm⟩ := hv.maxl
  have hs : (⟨l.toArray⟩ : ByteArray).size < 4294967281 := by simpa [ByteArray.size] using hl
  refine (sh_strings_Split ⟨l.toArray⟩ ⟨#[32]⟩ m w hs ((World.var?_cell (by kernel_rfl) hm 0).trans rfl) (by decide)).mono ?_
  rintro e w' ⟨rfl, rfl⟩
  rw [split_len, split_texts]
  exact ⟨_, rfl, (St.nil (fun _ => False) w).allocAt rfl (texts (Lib.split l [32])).toArray 9⟩
theorem texts_cell {l : List (List UInt8)} {k : Nat} (h : k < l.length) : (texts l).toArray[k]? = some (.string ⟨(l.getD k []).toArray⟩) := by
  simp [texts, textV, List.getElem?_eq_getElem h]
theorem getD_in' {l : List (List UInt8)} {k : Nat} (h : k < l.length) : l.getD k [] ∈ l := by
  rw [List.getD_eq_getElem?_getD, List.getElem?_eq_getElem h]
  exact List.getElem_mem h
theorem unhex_len : ∀ (n : Nat) (l : List UInt8), (unhexM n l).length ≤ n
  | 0, _ => by simp [unhexM]
  | n + 1, [] => by simp [unhexM]
  | n + 1, [_] => by simp [unhexM]
  | n + 1, a :: b :: r => by
    have := unhex_len n r
    simp only [unhexM, List.length_cons]
    omega
def parsedM (l : List UInt8) : Mv := (parseM l).getD ⟨0, 0, 0, 0, []⟩
theorem kind_le (W : List (List UInt8)) : -1 ≤ kindM W ∧ kindM W < 8 := by
  unfold kindM
  cases h : wordsM.findIdx? (fun x => x.1 == W.getD 0 []) with
  | none => simp
  | some k =>
    have : wordsM.length = 8 := rfl
    rw [List.findIdx?_eq_some_iff_getElem] at h
    obtain ⟨h, _⟩ := h
    simp only
    omega
/-- The numbers of a move are ints. -/
def Mv.fits (v : Mv) : Prop := (-9223372036854775808 ≤ v.at' ∧ v.at' ≤ 9223372036854775807) ∧ (-9223372036854775808 ≤ v.to ∧ v.to ≤ 9223372036854775807) ∧ (-9223372036854775808 ≤ v.n ∧ v.n ≤ 9223372036854775807)
theorem fits_set {v : Mv} (h : v.fits) (c : UInt8) {n : Int} (hn : -9223372036854775808 ≤ n ∧ n ≤ 9223372036854775807) : (v.setPart c n).fits := by
  unfold Mv.setPart
  split
  · exact ⟨hn, h.2.1, h.2.2⟩
  · split
    · exact ⟨h.1, hn, h.2.2⟩
    · exact ⟨h.1, h.2.1, hn⟩
theorem set_more (v : Mv) (c : UInt8) (n : Int) : (v.setPart c n).kind = v.kind ∧ (v.setPart c n).b = v.b := by
  unfold Mv.setPart
  split
  · exact ⟨rfl, rfl⟩
  · split <;> exact ⟨rfl, rfl⟩
theorem rogue_words' (w : World) : Calls Tryd.prog 37 #[] w fun e w' => ∃ gw, e = .returned (.slice (some ⟨gw, 0, none⟩) 8 8) ∧ St (fun _ => False) w w' [Blk gw wordCells.toArray 77] :=
  (rogue_words w).mono fun _ _ h => ⟨_, h.1, h.2 ▸ (St.nil (fun _ => False) w).allocAt rfl wordCells.toArray 77⟩
theorem St.callPastEx {α : Type} {S : Nat → Prop} {w w' : World} {L : List SP} {P : Program} {fid : Nat} {args : Array Value} {p : α → Ending → Prop} (hc : Calls P fid args w' fun e w2 => ∃ x, p x e ∧ Below w'.heap.size w' w2) (H : St S w w' L) :
    Calls P fid args w' fun e w2 => ∃ x, p x e ∧ St S w w2 L := hc.mono fun _ _ h => by
  obtain ⟨x, h1, h2⟩ := h
  exact ⟨x, h1, H.past h2⟩
set_option maxHeartbeats 4000000 in
set_option maxRecDepth 100000 in
theorem rogue_parse {l : List UInt8} {w : World} (hl : l.length ≤ 1000000000) (hVar : Vars w) :
    Calls Tryd.prog 18 #[.string ⟨l.toArray⟩] w fun e w' => ∃ x, e = .returned (.tuple #[.agg (mvCells (parsedM l) x), .bool (parseM l).isSome]) ∧ St (fun _ => False) w w' [Row 5 1 x (parsedM l).b.length (bvs (parsedM l).b)] := by
  have hne := split_ne l
  have hle : ∀ x ∈ Lib.split l [32], x.length ≤ l.length := fun x h => split_le h
  have hpa : parseM l = if kindM (Lib.split l [32]) < 0 then none else if textM (preM (Lib.split l [32])) = l then some (preM (Lib.split l [32])) else none := rfl
  have hcnt := split_len l
  have hcl := Lib.countB_le ⟨#[32]⟩ (by decide) l.length ⟨l.toArray⟩ (by simp [ByteArray.size])
  have ks := fun (w' : World) (hv : Vars w') => split_blk (show l.length < 4294967281 by omega) hv
  obtain ⟨W, hW⟩ : ∃ W, Lib.split l [32] = W := ⟨_, rfl⟩
  rw [hW] at hne hle hpa hcnt ks
  obtain ⟨N, hN⟩ : ∃ N, W.length = N := ⟨_, rfl⟩
  have hN0 : 0 < N := by rw [← hN]; exact List.length_pos_iff.2 hne
  have hNb : N ≤ l.length + 1 := by rw [← hN, hcnt]; exact Nat.succ_le_succ hcl
  rw [hN] at ks
  have hNh := Lib.hid hN
  have hleh := Lib.hid hle
  have hpah := Lib.hid hpa
  clear hne hle hpa hcnt hcl hW hN
  obtain ⟨rb, hrb⟩ : ∃ g, w.heap.size = g := ⟨_, rfl⟩
  have H0 : St (fun _ => False) w (w.alloc (.cells #[.int .i64 0, .int .i64 0, .int .i64 0, .int .i64 0, .slice none 0 0] 40)) [Blk rb #[.int .i64 0, .int .i64 0, .int .i64 0, .int .i64 0, .slice none 0 0] 40] := (St.nil _ w).allocAt hrb _ _
  go_enter Tryd.func18, Tryd.ntmps18
  go_upto_region 1 with (fail)
  obtain ⟨wa, hwa⟩ : ∃ wa, w.alloc (.cells #[.int .i64 0, .int .i64 0, .int .i64 0, .int .i64 0, .slice none 0 0] 40) = wa := ⟨_, rfl⟩
  rw [hwa] at H0
  rw [hwa]
  try rw [hrb]
  clear hwa
  obtain ⟨mb, hmb⟩ : ∃ g, wa.heap.size = g := ⟨_, rfl⟩
  have H1 : St (fun _ => False) w (wa.alloc (.cells #[.int .i64 0, .int .i64 0, .int .i64 0, .int .i64 0, .slice none 0 0] 40)) [Blk mb #[.int .i64 0, .int .i64 0, .int .i64 0, .int .i64 0, .slice none 0 0] 40, Blk rb #[.int .i64 0, .int .i64 0, .int .i64 0, .int .i64 0, .slice none 0 0] 40] := H0.allocAt hmb _ _
  go_upto_region 2 with (fail)
  obtain ⟨wb1, hwb1⟩ : ∃ wb, wa.alloc (.cells #[.int .i64 0, .int .i64 0, .int .i64 0, .int .i64 0, .slice none 0 0] 40) = wb := ⟨_, rfl⟩
  rw [hwb1] at H1
  rw [hwb1]
  try rw [hmb]
  clear hwb1 H0 hmb
  go_upto_region 3 with (go_at_call 35; go_must (refine (ks _ (hVar.st H1)).mono ?_; rintro e w2 ⟨g, rfl, H2⟩))
  obtain ⟨wb, hwb⟩ : ∃ g, w2.heap.size = g := ⟨_, rfl⟩
  have H3 : St (fun _ => False) w (w2.alloc (.cells #[.slice (some ⟨g, 0, none⟩) N N] 64)) [Blk wb #[.slice (some ⟨g, 0, none⟩) N N] 64, Blk g (texts W).toArray 9, Blk mb #[.int .i64 0, .int .i64 0, .int .i64 0, .int .i64 0, .slice none 0 0] 40, Blk rb #[.int .i64 0, .int .i64 0, .int .i64 0, .int .i64 0, .slice none 0 0] 40] := (H1.call0 H2).allocAt hwb _ _
  obtain ⟨w3, hw3⟩ : ∃ w3, w2.alloc (.cells #[.slice (some ⟨g, 0, none⟩) N N] 64) = w3 := ⟨_, rfl⟩
  rw [hw3] at H3
  rw [hw3]
  try rw [hwb]
  clear hw3 hwb H2 H1
  have kf := fun (w4 : World) (gw : Nat) (H4 : St (fun _ => False) w w4 [Blk gw wordCells.toArray 77, Blk wb #[.slice (some ⟨g, 0, none⟩) N N] 64, Blk g (texts W).toArray 9, Blk mb #[.int .i64 0, .int .i64 0, .int .i64 0, .int .i64 0, .slice none 0 0] 40, Blk rb #[.int .i64 0, .int .i64 0, .int .i64 0, .int .i64 0, .slice none 0 0] 40]) => rogue_find (gw := gw) (W := W) hN0 (H4.cell 1 0 rfl rfl) (H4.cell 2 0 rfl (texts_cell (by rw [hNh.out]; exact hN0))) (blk_lt (H4.blk 1 rfl)) (blk_lt (H4.blk 2 rfl)) (H4.blk 0 rfl)
  have f0 := H3.free 2 0 rfl
  have m0 := H3.cell 2 0 rfl rfl
  go_upto_region 4 with (first
    | (go_at_call 37; go_must (refine (rogue_words' _).mono ?_; rintro e w4 ⟨gw, rfl, H4⟩; have H4 := H3.call0 H4; have kf := kf _ _ H4; unfold findV at kf; clear f0 m0))
    | (go_at_call 36; go_must (refine (St.callPast kf H4).mono ?_; rintro e w5 ⟨rfl, H5⟩; have m0 := H5.cell 3 0 rfl rfl; have f0 := H5.free 3 0 rfl)))
  have H6 : St (fun _ => False) w _ [Blk wb #[.slice (some ⟨g, 0, none⟩) N N] 64, Blk g (texts W).toArray 9, Blk mb (mvCells ⟨kindM W, 0, 0, 0, []⟩ (.slice none 0 0)) 40, Blk rb #[.int .i64 0, .int .i64 0, .int .i64 0, .int .i64 0, .slice none 0 0] 40] := (H5.set 3 rfl 0 (.int .i64 (kindM W))).pick [1, 2, 3, 4]
  clear m0 f0 H5 H4 kf H3 ks
  obtain ⟨w6, hw6⟩ : ∃ w6, w5.setCell ⟨mb, 0, none⟩ (.int .i64 (kindM W)) = w6 := ⟨_, rfl⟩
  rw [hw6] at H6
  rw [hw6]
  clear hw6
  have m0 : w6.cell? ⟨mb, 0, none⟩ = some (.int .i64 (kindM W)) := H6.cell 2 0 rfl rfl
  obtain ⟨hk1, hk2⟩ := kind_le W
  by_cases hneg : kindM W < 0
  · have e1 := hpah.out
    rw [if_pos hneg] at e1
    have e2 : parsedM l = ⟨0, 0, 0, 0, []⟩ := by unfold parsedM; rw [e1]; rfl
    have e1h := Lib.hid e1
    have e2h := Lib.hid e2
    have z1 : decide (kindM W < 0) = true := by simpa using hneg
    clear e1 e2 hneg
    have r0 := H6.free 3 0 rfl
    have r1 := H6.free 3 1 rfl
    have r2 := H6.free 3 2 rfl
    have r3 := H6.free 3 3 rfl
    have r4 := H6.free 3 4 rfl
    have x0 : w6.cell? ⟨rb, 0, none⟩ = some (.int .i64 0) := H6.cell 3 0 rfl rfl
    have x1 : w6.cell? ⟨rb, 1, none⟩ = some (.int .i64 0) := H6.cell 3 1 rfl rfl
    have x2 : w6.cell? ⟨rb, 2, none⟩ = some (.int .i64 0) := H6.cell 3 2 rfl rfl
    have x3 : w6.cell? ⟨rb, 3, none⟩ = some (.int .i64 0) := H6.cell 3 3 rfl rfl
    have x4 : w6.cell? ⟨rb, 4, none⟩ = some (.slice none 0 0) := H6.cell 3 4 rfl rfl
    have HR := ((((H6.set 3 rfl 0 (.int .i64 0)).set 3 rfl 1 (.int .i64 0)).set 3 rfl 2 (.int .i64 0)).set 3 rfl 3 (.int .i64 0)).set 3 rfl 4 (.slice none 0 0)
    go_wp2
    try simp only [Exit.inBlock, Exit.then]
    refine bodyPost_ret (results_ct rfl rfl (blk_range' (cs := [.int .i64 0, .int .i64 0, .int .i64 0, .int .i64 0, .slice none 0 0]) (HR.blk 3 rfl)) Tryd.underlying40 rfl (by kernel_rfl)) rfl ?_
    rw [e1h.out, e2h.out]
    exact ⟨.slice none 0 0, rfl, (HR.drop (l1 := [_, _, _, _])).row_nil _ _⟩
  · obtain ⟨k, hk⟩ := Int.eq_ofNat_of_zero_le (show 0 ≤ kindM W by omega)
    have hk8 : k < 8 := by omega
    have hpr : preM W = let v := fillM W (wordsM.getD k ([], [])).2 0 ⟨k, 0, 0, 0, []⟩
        if (k : Int) = 0 ∧ W.length = 3 then { v with b := unhexM 128 (W.getD 2 []) } else v := by
      unfold preM
      rw [hk]
      rfl
    have e1 := hpah.out
    rw [if_neg hneg] at e1
    have e1h := Lib.hid e1
    have hprh := Lib.hid hpr
    rw [hk] at m0 H6
    clear e1 hpr hneg hpah hk1 hk2 hk
    have z1 : decide ((k : Int) < 0) = false := by simp
    have hki : (k : Int) < 8 := by omega
    obtain ⟨hw0, hw1⟩ := word_at k hk8
    obtain ⟨hpa, hpl, _⟩ := word_parts k hk8
    obtain ⟨pt, hpt⟩ : ∃ x, (wordsM.getD k ([], [])).2 = x := ⟨_, rfl⟩
    rw [hpt] at hw1 hpa hpl hprh
    unfold textV at hw1
    clear hpt hw0
    go_upto_region 6 with (fail)
    clear m0
    refine wp_script [(1, false), (2, false), (0, true), (3, false), (4, false), (5, false), (6, true)] (Fam fun w' => St (fun _ => False) w w' [Blk mb (mvCells ⟨k, 0, 0, 0, []⟩ (.slice none 0 0)) 40]) (fun w' => St (fun _ => False) w w' [Blk mb (mvCells ⟨k, 0, 0, 0, []⟩ (.slice none 0 0)) 40, Blk wb #[.slice (some ⟨g, 0, none⟩) N N] 64, Blk g (texts W).toArray 9, Blk rb #[.int .i64 0, .int .i64 0, .int .i64 0, .int .i64 0, .slice none 0 0] 40]) (by kernel_rfl) (by rfl) (by kernel_rfl) (by kernel_rfl) (H6.pick [2, 0, 1, 3]).drew (Fam.st (fun _ h => h.pick [0])) ?_
    iterate 2 first
      | (apply script_pass
         · rfl
         · rfl
         intro K hK
         go_simp
         refine hK _ ?_
         clear hK K)
      | (apply script_step
         · rfl
         · rfl
         · intro I hI w1 h1'
           have h1 := hI.2 _ h1'
           have c0 : w1.cell? ⟨mb, 0, none⟩ = some (.int .i64 k) := h1.cell 0 0 rfl rfl
           first
             | (go_simp
                first
                  | rfl
                  | exact ⟨rfl, h1'⟩
               )
         intro K hK
         go_simp
         refine hK _ ?_
         clear hK K)
    refine script_alone rfl rfl ?_
    intro V hV w1 h1
    go_simp
    refine (rogue_words' w1).mono ?_
    rintro e w2 ⟨gw, rfl, H2⟩
    have H3 : St (fun _ => False) w w2 [Blk gw wordCells.toArray 77, Blk mb (mvCells ⟨k, 0, 0, 0, []⟩ (.slice none 0 0)) 40, Blk wb #[.slice (some ⟨g, 0, none⟩) N N] 64, Blk g (texts W).toArray 9, Blk rb #[.int .i64 0, .int .i64 0, .int .i64 0, .int .i64 0, .slice none 0 0] 40] := h1.call0 H2
    refine ⟨_, rfl, fun w' => St (fun _ => False) w w' [Blk gw wordCells.toArray 77, Blk mb (mvCells ⟨k, 0, 0, 0, []⟩ (.slice none 0 0)) 40, Blk wb #[.slice (some ⟨g, 0, none⟩) N N] 64, Blk g (texts W).toArray 9, Blk rb #[.int .i64 0, .int .i64 0, .int .i64 0, .int .i64 0, .slice none 0 0] 40], hV _ _ _ (fun I hI => Fam.mono (fun w' h => St.pick (l := [Blk gw wordCells.toArray 77, Blk mb (mvCells ⟨k, 0, 0, 0, []⟩ (.slice none 0 0)) 40]) h [1]) I hI) (Fam.st (B := fun w' => St (fun _ => False) w w' [Blk gw wordCells.toArray 77, Blk mb (mvCells ⟨k, 0, 0, 0, []⟩ (.slice none 0 0)) 40]) (fun _ h => h.pick [0, 1])) ?_, H3⟩
    intro K hK
    go_simp
    refine hK _ ?_
    clear hK K hV V
    clear H2 H3 h1 w1 w2
    iterate 3 first
      | (apply script_pass
         · rfl
         · rfl
         intro K hK
         go_simp
         refine hK _ ?_
         clear hK K)
      | (apply script_step
         · rfl
         · rfl
         · intro I hI w1 h1'
           have h1 := hI.2 _ h1'
           have r1 : w1.cell? ⟨gw, k * 2 + 1, none⟩ = some (.string ⟨pt.toArray⟩) := cell_blk' (h1.blk 0 rfl) hw1
           first
             | (go_simp
                first
                  | rfl
                  | exact ⟨rfl, h1'⟩
               )
         intro K hK
         go_simp
         refine hK _ ?_
         clear hK K)
    refine script_alone rfl rfl ?_
    intro V hV w1 h1
    go_simp
    obtain ⟨it, hit⟩ : ∃ g, w1.heap.size = g := ⟨_, rfl⟩
    have H3 : St (fun _ => False) w _ [ObjAt it (.stringIter ⟨pt.toArray⟩ 0), Blk gw wordCells.toArray 77, Blk mb (mvCells ⟨k, 0, 0, 0, []⟩ (.slice none 0 0)) 40, Blk wb #[.slice (some ⟨g, 0, none⟩) N N] 64, Blk g (texts W).toArray 9, Blk rb #[.int .i64 0, .int .i64 0, .int .i64 0, .int .i64 0, .slice none 0 0] 40] := h1.allocObj hit _
    simp only [hit]
    refine ⟨fun w' => St (fun _ => False) w w' [ObjAt it (.stringIter ⟨pt.toArray⟩ 0), Blk gw wordCells.toArray 77, Blk mb (mvCells ⟨k, 0, 0, 0, []⟩ (.slice none 0 0)) 40, Blk wb #[.slice (some ⟨g, 0, none⟩) N N] 64, Blk g (texts W).toArray 9, Blk rb #[.int .i64 0, .int .i64 0, .int .i64 0, .int .i64 0, .slice none 0 0] 40], hV _ _ _ (fun _ h => h) (Fam.st (fun _ h => h.pick [1, 2])) ?_, H3⟩
    intro K hK
    go_simp
    refine hK _ ?_
    clear hK K hV V
    clear H3 h1 hit w1
    refine script_nil ?_
    intro w7 H7
    have H7 : St (fun _ => False) w w7 [ObjAt it (.stringIter ⟨pt.toArray⟩ 0), Blk mb (mvCells ⟨k, 0, 0, 0, []⟩ (.slice none 0 0)) 40, Blk wb #[.slice (some ⟨g, 0, none⟩) N N] 64, Blk g (texts W).toArray 9, Blk rb #[.int .i64 0, .int .i64 0, .int .i64 0, .int .i64 0, .slice none 0 0] 40] := H7.pick [0, 2, 3, 4, 5]
    clear kf H4 H6
    go_upto_block 1 with (fail)
    go_loopw [6, 7] (fun _ _ wr => ∃ (j : Nat) (va vt vn : Int), j ≤ pt.length ∧ (Mv.mk k va vt vn []).fits ∧ Hid (fillM W (pt.drop j) j ⟨k, va, vt, vn, []⟩ = fillM W pt 0 ⟨k, 0, 0, 0, []⟩) ∧
      St (fun _ => False) w wr [ObjAt it (.stringIter ⟨pt.toArray⟩ j), Blk mb (mvCells ⟨k, va, vt, vn, []⟩ (.slice none 0 0)) 40, Blk wb #[.slice (some ⟨g, 0, none⟩) N N] 64, Blk g (texts W).toArray 9, Blk rb #[.int .i64 0, .int .i64 0, .int .i64 0, .int .i64 0, .slice none 0 0] 40]) (fun _ _ wr => pt.length - wr.iterPos it)
    case atStart => exact ⟨0, 0, 0, 0, by omega, by unfold Mv.fits; simp, Lib.hid rfl, H7⟩
    case round =>
      clear H7
      obtain ⟨j, va, vt, vn, hj, hfit, hfil, HL⟩ := hrel
      obtain ⟨S0, hk, hk'⟩ := HL.sep.get 0 rfl
      have hip := Lib.hid (show wr.iterPos it = j by simp [World.iterPos, hk])
      have hsz : (⟨pt.toArray⟩ : ByteArray).size = pt.length := by simp [ByteArray.size]
      by_cases hlt : j < pt.length
      · obtain ⟨c, hc⟩ : ∃ c, pt[j]? = some c := ⟨_, List.getElem?_eq_getElem hlt⟩
        have hca := hpa c (List.mem_of_getElem? hc)
        have hjs : j < (⟨pt.toArray⟩ : ByteArray).size := by rw [hsz]; exact hlt
        have hb := txt_byte hc hjs
        have hnext : ∀ ty, (Instr.next (.pointer (some ⟨it, 0, none⟩)) true ty).run Tryd.prog wr = .ok (.tuple #[.bool true, .int .i64 j, .int .i32 (c.toNat : Nat)]) (wr.iterAt it ⟨pt.toArray⟩ (j + 1)) := fun ty => by
          have := Lib.run_next_ascii_at (P := Tryd.prog) wr it ⟨pt.toArray⟩ j ty hk hjs (by rw [hb]; exact hca)
          rw [hb] at this
          exact this
        have H2 := HL.iterNext (j + 1)
        have hdrop : pt.drop j = c :: pt.drop (j + 1) := by
          rw [List.drop_eq_getElem_cons hlt, (List.getElem?_eq_some_iff.1 hc).2]
        rw [hdrop] at hfil
        have hfil2 := Lib.hid hfil.out
        clear hfil hdrop hc hb
        go_upto_region 8 with (fail)
        obtain ⟨w2, hw2⟩ : ∃ w2, wr.iterAt it ⟨pt.toArray⟩ (j + 1) = w2 := ⟨_, rfl⟩
        rw [hw2] at H2
        rw [hw2]
        clear hw2 hnext HL hk hk' S0
        have g0 : w2.cell? ⟨wb, 0, none⟩ = some (.slice (some ⟨g, 0, none⟩) N N) := H2.cell 2 0 rfl rfl
        have hjl : j ≤ 2 := by omega
        have hwj : IntKind.i64.wrap ((j : Int) + 1) = (j : Int) + 1 := by rw [IntKind.wrap_i64]; omega
        by_cases hin : j + 1 < N
        · have z2 : decide ((j : Int) + 1 < (N : Int)) = true := by simp; omega
          have hstep := Lib.hid (show fillM W (pt.drop (j + 1)) (j + 1) ((⟨k, va, vt, vn, []⟩ : Mv).setPart c (atoiM (W.getD (j + 1) []))) = fillM W pt 0 ⟨k, 0, 0, 0, []⟩ by
            rw [← hfil2.out]
            conv => rhs; rw [fillM]
            rw [if_pos (by rw [hNh.out]; exact hin)])
          have hx := hleh.out _ (getD_in' (l := W) (by rw [hNh.out]; exact hin))
          have hab := atoiM_bounds (W.getD (j + 1) [])
          have hxc := texts_cell (l := W) (k := j + 1) (by rw [hNh.out]; exact hin)
          obtain ⟨X, hX⟩ : ∃ X, W.getD (j + 1) [] = X := ⟨_, rfl⟩
          rw [hX] at hstep hx hab hxc
          have hset := mv_set ⟨k, va, vt, vn, []⟩ (.slice none 0 0) c (atoiM X)
          have hsf := fits_set hfit c hab
          obtain ⟨hsk, hsb⟩ := set_more ⟨k, va, vt, vn, []⟩ c (atoiM X)
          obtain ⟨q, hq⟩ : ∃ q, atoiM X = q := ⟨_, rfl⟩
          have kt := fun (w' : World) (hv : Vars w') => lib_atoi (l := X) (by omega) hv
          rw [hq] at hset hsf hsk hsb hstep kt
          obtain ⟨⟨k', va', vt', vn', bb'⟩, hv'⟩ : ∃ v', (⟨k, va, vt, vn, []⟩ : Mv).setPart c q = v' := ⟨_, rfl⟩
          rw [hv'] at hset hsf hsk hsb hstep
          simp only at hsk hsb
          subst hsk hsb
          have hpc := mv_part ⟨k, va, vt, vn, []⟩ (.slice none 0 0) c
          clear hX hq hv' hfil2
          go_upto_region 10 with (fail)
          have g1 := hxc
          have z3 : (j : Int) + 1 < (N : Int) := by omega
          have z4 : (0 : Int) ≤ (j : Int) + 1 := by omega
          clear g0
          refine wp_script [(0, false), (2, false), (3, false), (4, false), (5, false), (6, false), (1, true), (7, true), (8, false), (9, false), (10, false), (11, false), (12, true)] (Fam fun w' => St (fun _ => False) w w' [Blk wb #[.slice (some ⟨g, 0, none⟩) N N] 64, Blk g (texts W).toArray 9]) (fun w' => St (fun _ => False) w w' [ObjAt it (.stringIter ⟨pt.toArray⟩ (j + 1)), Blk mb (mvCells ⟨k, va, vt, vn, []⟩ (.slice none 0 0)) 40, Blk wb #[.slice (some ⟨g, 0, none⟩) N N] 64, Blk g (texts W).toArray 9, Blk rb #[.int .i64 0, .int .i64 0, .int .i64 0, .int .i64 0, .slice none 0 0] 40]) (by kernel_rfl) (by rfl) (by kernel_rfl) (by kernel_rfl) H2.drew (Fam.st (fun _ h => h.pick [2, 3])) ?_
          iterate 6 first
            | (apply script_pass
               · rfl
               · rfl
               intro K hK
               go_simp
               refine hK _ ?_
               clear hK K)
            | (apply script_step
               · rfl
               · rfl
               · intro I hI w1 h1'
                 have h1 := hI.2 _ h1'
                 have g0 : w1.cell? ⟨wb, 0, none⟩ = some (.slice (some ⟨g, 0, none⟩) N N) := h1.cell 0 0 rfl rfl
                 have g2 : w1.cell? ⟨g, j + 1, none⟩ = some (.string ⟨X.toArray⟩) := cell_blk' (h1.blk 1 rfl) g1
                 first
                   | (go_simp
                      first
                        | rfl
                        | exact ⟨rfl, h1'⟩
                     )
               intro K hK
               go_simp
               refine hK _ ?_
               clear hK K)
          refine script_alone rfl rfl ?_
          intro V hV w1 h1
          go_simp
          refine (rogue_part mb c w1).mono ?_
          rintro e w2 ⟨rfl, rfl⟩
          refine ⟨_, rfl, fun w' => St (fun _ => False) w w' [ObjAt it (.stringIter ⟨pt.toArray⟩ (j + 1)), Blk mb (mvCells ⟨k, va, vt, vn, []⟩ (.slice none 0 0)) 40, Blk wb #[.slice (some ⟨g, 0, none⟩) N N] 64, Blk g (texts W).toArray 9, Blk rb #[.int .i64 0, .int .i64 0, .int .i64 0, .int .i64 0, .slice none 0 0] 40], hV _ _ _ (fun _ h => h) (Fam.st (fun _ h => h.pick [2, 3])) ?_, h1⟩
          intro K hK
          go_simp
          refine hK _ ?_
          clear hK K hV V
          clear h1 w2
          refine script_alone rfl rfl ?_
          intro V hV w1 h1
          go_simp
          refine (St.callPastEx (kt w1 (hVar.st h1)) h1).mono ?_
          rintro e w2 ⟨er, rfl, H3⟩
          refine ⟨_, rfl, fun w' => St (fun _ => False) w w' [ObjAt it (.stringIter ⟨pt.toArray⟩ (j + 1)), Blk mb (mvCells ⟨k, va, vt, vn, []⟩ (.slice none 0 0)) 40, Blk wb #[.slice (some ⟨g, 0, none⟩) N N] 64, Blk g (texts W).toArray 9, Blk rb #[.int .i64 0, .int .i64 0, .int .i64 0, .int .i64 0, .slice none 0 0] 40], hV _ _ _ (fun _ h => h) (Fam.st (fun _ h => h.pick [2, 3])) ?_, H3⟩
          intro K hK
          go_simp
          refine hK _ ?_
          clear hK K hV V
          clear H3 h1 w1 w2
          iterate 4 first
            | (apply script_pass
               · rfl
               · rfl
               intro K hK
               go_simp
               refine hK _ ?_
               clear hK K)
            | (apply script_step
               · rfl
               · rfl
               · intro I hI w1 h1'
                 have h1 := hI.2 _ h1'
                 first
                   | (go_simp
                      first
                        | rfl
                        | exact ⟨rfl, h1'⟩
                     )
               intro K hK
               go_simp
               refine hK _ ?_
               clear hK K)
          refine script_alone rfl rfl ?_
          intro V hV w1 h1
          have c0 : w1.cell? ⟨mb, partAt c, none⟩ = some _ := cell_blk' (h1.blk 1 rfl) hpc
          have f0 := h1.free 1 (partAt c) rfl
          have H3 : St (fun _ => False) w (w1.setCell ⟨mb, partAt c, none⟩ (.int .i64 q)) [ObjAt it (.stringIter ⟨pt.toArray⟩ (j + 1)), Blk mb (mvCells ⟨k, va', vt', vn', []⟩ (.slice none 0 0)) 40, Blk wb #[.slice (some ⟨g, 0, none⟩) N N] 64, Blk g (texts W).toArray 9, Blk rb #[.int .i64 0, .int .i64 0, .int .i64 0, .int .i64 0, .slice none 0 0] 40] := by have := h1.set 1 rfl (partAt c) (.int .i64 q); rw [hset] at this; exact this
          go_simp
          refine ⟨fun w' => St (fun _ => False) w w' [ObjAt it (.stringIter ⟨pt.toArray⟩ (j + 1)), Blk mb (mvCells ⟨k, va', vt', vn', []⟩ (.slice none 0 0)) 40, Blk wb #[.slice (some ⟨g, 0, none⟩) N N] 64, Blk g (texts W).toArray 9, Blk rb #[.int .i64 0, .int .i64 0, .int .i64 0, .int .i64 0, .slice none 0 0] 40], hV _ _ _ (fun _ h => h) (Fam.st (fun _ h => h.pick [2, 3])) ?_, H3⟩
          intro K hK
          go_simp
          refine hK _ ?_
          clear hK K hV V
          clear H3 c0 f0 h1 w1
          refine script_nil ?_
          intro w8 H8
          go_wp2
          go_roundw
          case rel => exact ⟨j + 1, va', vt', vn', by omega, hsf, hstep, H8⟩
          case measure =>
            obtain ⟨S4, hk4, _⟩ := H8.sep.get 0 rfl
            have e4 : w8.iterPos it = j + 1 := by simp [World.iterPos, hk4]
            rw [hip.out, e4]
            omega
        · have z2 : decide ((j : Int) + 1 < (N : Int)) = false := by simp; omega
          have hstep := Lib.hid (show fillM W (pt.drop (j + 1)) (j + 1) ⟨k, va, vt, vn, []⟩ = fillM W pt 0 ⟨k, 0, 0, 0, []⟩ by
            rw [← hfil2.out]
            conv => rhs; rw [fillM]
            rw [if_neg (by rw [hNh.out]; exact hin)])
          clear hfil2
          go_wp2
          go_roundw
          case rel => exact ⟨j + 1, va, vt, vn, by omega, hfit, hstep, H2⟩
          case measure =>
            obtain ⟨S4, hk4, _⟩ := H2.sep.get 0 rfl
            have e4 : w2.iterPos it = j + 1 := by simp [World.iterPos, hk4]
            rw [hip.out, e4]
            omega
      · obtain rfl : j = pt.length := by omega
        have hend : ∀ ty, (Instr.next (.pointer (some ⟨it, 0, none⟩)) true ty).run Tryd.prog wr = .ok (.tuple #[.bool false]) wr := fun ty => Lib.run_next_end_at (P := Tryd.prog) wr it ⟨pt.toArray⟩ pt.length ty hk (by rw [hsz]; omega)
        have hpr := hprh.out
        rw [show fillM W pt 0 ⟨k, 0, 0, 0, []⟩ = ⟨k, va, vt, vn, []⟩ by rw [← hfil.out, List.drop_length]; rfl] at hpr
        simp only at hpr
        rw [hNh.out] at hpr
        have e0 : wr.cell? ⟨mb, 0, none⟩ = some (.int .i64 k) := HL.cell 1 0 rfl rfl
        have g0 : wr.cell? ⟨wb, 0, none⟩ = some (.slice (some ⟨g, 0, none⟩) N N) := HL.cell 2 0 rfl rfl
        have hpr2 := Lib.hid hpr
        clear hprh hpr hfil hip hk hk' S0
        obtain ⟨ct, hct⟩ : ∃ ct, decide (k = 0 ∧ N = 3) = ct := ⟨_, rfl⟩
        have hcth := Lib.hid hct
        clear hct
        go_upto_region 11 with (fail)
        go_cut [53] from 46 to 53 (fun p wx => p = .bool ct ∧ wx = wr)
        case first =>
          by_cases h0 : k = 0
          · have z5 : ((k : Int) == 0) = true := by simp [h0]
            by_cases h3 : N = 3
            · have z6 : ((N : Int) == 3) = true := by simp [h3]
              have z8 : ct = true := by rw [← hcth.out]; simp [h0, h3]
              clear h0 h3 hcth
              subst z8
              go_wp2
              go_meet
              exact ⟨rfl, rfl⟩
            · have z6 : ((N : Int) == 3) = false := by simp; omega
              have z8 : ct = false := by rw [← hcth.out]; simp [h3]
              clear h0 h3 hcth
              subst z8
              go_wp2
              go_meet
              exact ⟨rfl, rfl⟩
          · have z5 : ((k : Int) == 0) = false := by simp; omega
            have z8 : ct = false := by rw [← hcth.out]; simp [h0]
            clear h0 hcth
            subst z8
            go_wp2
            go_meet
            exact ⟨rfl, rfl⟩
        case rest =>
        obtain ⟨rfl, rfl⟩ := hcut
        go_upto_if 53 with (fail)
        go_cut [] from 54 to 58 (fun wx => ∃ (v : Mv) (x : Value), Hid (preM W = v) ∧ v.fits ∧ v.b.length ≤ 128 ∧ St (fun _ => False) w wx [Blk mb (mvCells v x) 40, Blk rb #[.int .i64 0, .int .i64 0, .int .i64 0, .int .i64 0, .slice none 0 0] 40, Row 5 1 x v.b.length (bvs v.b)])
        case first =>
          cases ct with
          | true =>
            obtain ⟨h0, h3⟩ := of_decide_eq_true hcth.out
            subst h0 h3
            have hfin := Lib.hid (show preM W = ⟨((0 : Nat) : Int), va, vt, vn, unhexM 128 (W.getD 2 [])⟩ by rw [hpr2.out, if_pos ⟨rfl, rfl⟩])
            have hx := hleh.out _ (getD_in' (l := W) (k := 2) (by rw [hNh.out]; omega))
            have g2 : wc.cell? ⟨g, 2, none⟩ = some (.string ⟨(W.getD 2 []).toArray⟩) := cell_blk' (HL.blk 3 rfl) (texts_cell (by rw [hNh.out]; omega))
            obtain ⟨X, hX⟩ : ∃ X, W.getD 2 [] = X := ⟨_, rfl⟩
            rw [hX] at hfin hx g2
            clear hX hpr2 hcth
            have ku := fun (w' : World) => rogue_unhex (l := X) (w := w') (by omega)
            have hul := unhex_len 128 X
            obtain ⟨U, hU⟩ : ∃ U, unhexM 128 X = U := ⟨_, rfl⟩
            rw [hU] at hfin ku hul
            clear hU
            have f4 := HL.free 1 4 rfl
            have e4 : wc.cell? ⟨mb, 4, none⟩ = some (.slice none 0 0) := HL.cell 1 4 rfl rfl
            go_wp2_with (go_at_call 41; go_must (refine (ku _).mono ?_; rintro e wx ⟨x, rfl, HX⟩; obtain ⟨ao, cp, rfl, _, _⟩ := slice_form' (HX.row 0 rfl); have HY := HL.call0 HX; have f4 := HY.free 2 4 rfl; have e4 : wx.cell? ⟨mb, 4, none⟩ = some (.slice none 0 0) := HY.cell 2 4 rfl rfl))
            go_meet
            refine ⟨⟨((0 : Nat) : Int), va, vt, vn, U⟩, .slice ao U.length cp, hfin, hfit, hul, ?_⟩
            exact St.pick (l := [_, _, Blk mb (mvCells ⟨((0 : Nat) : Int), va, vt, vn, U⟩ (.slice ao U.length cp)) 40, _, _, _]) (HY.set 2 rfl 4 (.slice ao U.length cp)) [2, 5, 0]
          | false =>
            have hn := of_decide_eq_false hcth.out
            have hfin := Lib.hid (show preM W = ⟨(k : Int), va, vt, vn, []⟩ by rw [hpr2.out, if_neg (by omega)])
            clear hpr2 hn hcth
            go_wp2
            go_meet
            exact ⟨_, _, hfin, hfit, by simp, (HL.pick [1, 4]).row_nil _ _ |>.pick [1, 2, 0]⟩
        case rest =>
          obtain ⟨⟨kk, va, vt, vn, bb⟩, x, hv, hfit, hbl, HC⟩ := hcut
          obtain ⟨ao, cp, rfl, _, _⟩ := slice_form' (HC.row 2 rfl)
          simp only at hbl HC
          have e1 := e1h.out
          rw [hv.out] at e1
          have kt := rogue_text ⟨kk, va, vt, vn, bb⟩ (x := .slice ao bb.length cp) (hVar.st HC) (own_ro (HC.row 2 rfl)).1 (by simp only; omega) hfit
          have m0 : wc.cell? ⟨mb, 0, none⟩ = some (.int .i64 kk) := HC.cell 0 0 rfl rfl
          have m1 : wc.cell? ⟨mb, 1, none⟩ = some (.int .i64 va) := HC.cell 0 1 rfl rfl
          have m2 : wc.cell? ⟨mb, 2, none⟩ = some (.int .i64 vt) := HC.cell 0 2 rfl rfl
          have m3 : wc.cell? ⟨mb, 3, none⟩ = some (.int .i64 vn) := HC.cell 0 3 rfl rfl
          have m4 : wc.cell? ⟨mb, 4, none⟩ = some (.slice ao bb.length cp) := HC.cell 0 4 rfl rfl
          obtain ⟨T, hT⟩ : ∃ T, textM ⟨kk, va, vt, vn, bb⟩ = T := ⟨_, rfl⟩
          rw [hT] at kt e1
          unfold mvCells at kt
          simp only at kt
          have hTl := txt_eq T l
          by_cases hl2 : T = l
          · rw [if_pos hl2] at e1
            have hTl2 : (T == l) = true := by simpa using hl2
            have e2 : parsedM l = ⟨kk, va, vt, vn, bb⟩ := by unfold parsedM; rw [e1]; rfl
            have e1' := Lib.hid e1
            have e2' := Lib.hid e2
            clear e1 e2 hT hTl hv hl2
            go_upto_region 15 with (go_at_call 20; go_must (refine (St.callPast kt HC).mono ?_; rintro e wy ⟨rfl, HY⟩))
            clear m0 m1 m2 m3 m4 kt hTl2
            have m0 : wy.cell? ⟨mb, 0, none⟩ = some (.int .i64 kk) := HY.cell 0 0 rfl rfl
            have m1 : wy.cell? ⟨mb, 1, none⟩ = some (.int .i64 va) := HY.cell 0 1 rfl rfl
            have m2 : wy.cell? ⟨mb, 2, none⟩ = some (.int .i64 vt) := HY.cell 0 2 rfl rfl
            have m3 : wy.cell? ⟨mb, 3, none⟩ = some (.int .i64 vn) := HY.cell 0 3 rfl rfl
            have m4 : wy.cell? ⟨mb, 4, none⟩ = some (.slice ao bb.length cp) := HY.cell 0 4 rfl rfl
            have r0 := HY.free 1 0 rfl
            have r1 := HY.free 1 1 rfl
            have r2 := HY.free 1 2 rfl
            have r3 := HY.free 1 3 rfl
            have r4 := HY.free 1 4 rfl
            have x0 : wy.cell? ⟨rb, 0, none⟩ = some (.int .i64 0) := HY.cell 1 0 rfl rfl
            have x1 : wy.cell? ⟨rb, 1, none⟩ = some (.int .i64 0) := HY.cell 1 1 rfl rfl
            have x2 : wy.cell? ⟨rb, 2, none⟩ = some (.int .i64 0) := HY.cell 1 2 rfl rfl
            have x3 : wy.cell? ⟨rb, 3, none⟩ = some (.int .i64 0) := HY.cell 1 3 rfl rfl
            have x4 : wy.cell? ⟨rb, 4, none⟩ = some (.slice none 0 0) := HY.cell 1 4 rfl rfl
            have HR := ((((HY.set 1 rfl 0 (.int .i64 kk)).set 1 rfl 1 (.int .i64 va)).set 1 rfl 2 (.int .i64 vt)).set 1 rfl 3 (.int .i64 vn)).set 1 rfl 4 (.slice ao bb.length cp)
            go_wp2
            try simp only [Exit.inBlock, Exit.then]
            refine bodyPost_ret (results_ct rfl rfl (blk_range' (cs := [.int .i64 kk, .int .i64 va, .int .i64 vt, .int .i64 vn, .slice ao bb.length cp]) (HR.blk 1 rfl)) Tryd.underlying40 rfl (by kernel_rfl)) rfl ?_
            rw [e1'.out, e2'.out]
            exact ⟨_, rfl, HR.pick [2]⟩
          · rw [if_neg hl2] at e1
            have hTl2 : (T == l) = false := by simpa using hl2
            have e2 : parsedM l = ⟨0, 0, 0, 0, []⟩ := by unfold parsedM; rw [e1]; rfl
            have e1' := Lib.hid e1
            have e2' := Lib.hid e2
            clear e1 e2 hT hTl hv hl2
            go_upto_region 14 with (go_at_call 20; go_must (refine (St.callPast kt HC).mono ?_; rintro e wy ⟨rfl, HY⟩))
            clear m0 m1 m2 m3 m4 kt hTl2
            have r0 := HY.free 1 0 rfl
            have r1 := HY.free 1 1 rfl
            have r2 := HY.free 1 2 rfl
            have r3 := HY.free 1 3 rfl
            have r4 := HY.free 1 4 rfl
            have x0 : wy.cell? ⟨rb, 0, none⟩ = some (.int .i64 0) := HY.cell 1 0 rfl rfl
            have x1 : wy.cell? ⟨rb, 1, none⟩ = some (.int .i64 0) := HY.cell 1 1 rfl rfl
            have x2 : wy.cell? ⟨rb, 2, none⟩ = some (.int .i64 0) := HY.cell 1 2 rfl rfl
            have x3 : wy.cell? ⟨rb, 3, none⟩ = some (.int .i64 0) := HY.cell 1 3 rfl rfl
            have x4 : wy.cell? ⟨rb, 4, none⟩ = some (.slice none 0 0) := HY.cell 1 4 rfl rfl
            have HR := ((((HY.set 1 rfl 0 (.int .i64 0)).set 1 rfl 1 (.int .i64 0)).set 1 rfl 2 (.int .i64 0)).set 1 rfl 3 (.int .i64 0)).set 1 rfl 4 (.slice none 0 0)
            go_wp2
            try simp only [Exit.inBlock, Exit.then]
            refine bodyPost_ret (results_ct rfl rfl (blk_range' (cs := [.int .i64 0, .int .i64 0, .int .i64 0, .int .i64 0, .slice none 0 0]) (HR.blk 1 rfl)) Tryd.underlying40 rfl (by kernel_rfl)) rfl ?_
            rw [e1'.out, e2'.out]
            exact ⟨.slice none 0 0, rfl, (HR.drop (l1 := [_, _, _])).row_nil _ _⟩

end Go.Proofs.YtaafedpjifaghaaDoor

/- The walk of the rogue law's first. Condition: the library's variables hold what its text lays. -/
set_option linter.unusedVariables false
set_option linter.unusedSimpArgs false
namespace Go.Proofs.YtaafedpjifaghaaDoor
open Go.RowKit

def r24a : RogM := RogM.note ⟨newStore 3, []⟩
def r24b : RogM := (r24a.do ⟨0, 1, 0, 0, [97, 98]⟩).2
def r24c : RogM := (r24b.do ⟨1, 1, 2, 0, []⟩).2
def x24 : List UInt8 := (r24c.s.read 2).1
def r24d : RogM := r24c.put (r24c.s.read 2).2.2
def r24e : RogM := (runM [⟨4, 0, 0, 0, []⟩, ⟨9, 0, 0, 0, []⟩] r24d).2
def y24 : List UInt8 := (r24e.s.read 2).1
def r24f : RogM := r24e.put (r24e.s.read 2).2.2
theorem e24 : (r24a.do ⟨0, 1, 0, 0, [97, 98]⟩).1 = true ∧ (r24b.do ⟨1, 1, 2, 0, []⟩).1 = true ∧ (runM [⟨4, 0, 0, 0, []⟩, ⟨9, 0, 0, 0, []⟩] r24d).1 = 1 ∧ x24.length = 128 ∧ y24.length = 128 ∧ x24[0]? = some 97 ∧ y24[0]? = some 0 ∧ r24a.imgs.length = 1 ∧ r24f.imgs.length = 1 := by decide +kernel
theorem g24 : (RogM.mk (newStore 3) []).Good ∧ r24a.Good ∧ r24b.Good ∧ r24c.Good ∧ r24d.Good ∧ r24e.Good := by
  have h0 : (RogM.mk (newStore 3) []).Good := ⟨newStore_good (by omega) (by omega), by simp, by simp⟩
  have ha : r24a.Good := h0.note
  have hb : r24b.Good := ha.do _
  have hc : r24c.Good := hb.do _
  have hd : r24d.Good := hc.put (read_good hc.s _) (by decide +kernel)
  exact ⟨h0, ha, hb, hc, hd, (runM_good hd _).1⟩


theorem nil_ro {S : Nat → Prop} (w : World) : BytesRO S w (.slice none 0 0) [] := ⟨none, 0, rfl, Nat.le_refl _, fun h => absurd rfl h⟩
theorem St.whole {S : Nat → Prop} {w0 w : World} {l : List SP} (H : St S w0 w l) : ∃ S1, Sep w l S1 ∧ ∀ w' l', St S1 w w' l' → St S w0 w' l' := by
  obtain ⟨S1, K1, G1⟩ := St.call (l1 := l) (l2 := []) (by rw [List.append_nil]; exact H)
  exact ⟨S1, K1, fun w' l' h => by simpa using G1 w' l' h⟩
set_option maxHeartbeats 4000000 in
set_option maxRecDepth 100000 in
theorem first24 {w : World} (hVar : Vars w) : Calls Tryd.prog 6 #[] w fun e w' => e = .returned (.bool true) ∧ Below w.heap.size w w' := by
  obtain ⟨g0, ga, gb, gc, gd, ge⟩ := g24
  obtain ⟨e1, e2, e3, e4, e5, e6, e7, e8, e9⟩ := e24
  have kc := fun (w : World) (C : Array Value) (n c : Nat) => Lib.run_convert_bytes_const (P := Tryd.prog) w 38 5 C n c Tryd.underlying38 Tryd.underlying5
  go_enter Tryd.func6, Tryd.ntmps6
  go_upto_region 2 with (go_at_call 7; go_must (refine (store_made 3 (by omega) (by omega) w).mono ?_; rintro e w1 ⟨bs, rfl, H1⟩))
  go_upto_region 3 with (go_at_call 8; go_must (refine (rogue_new bs _).mono ?_; rintro e w2 ⟨b, rfl, H2⟩))
  have H3 : St (fun _ => False) w w2 [RogB b bs (.slice none 0 0), StoreAt bs (newStore 3), Imgs (.slice none 0 0) []] := (Stack.nil (H1.call0 H2)).pick [1, 2, 0]
  clear H1 H2
  obtain ⟨S1, K1, G1⟩ := H3.whole
  go_upto_region 4 with (go_at_call 10; go_must (refine (rogue_note g0 K1).mono ?_; rintro e w3 ⟨iv, rfl, H4⟩))
  have H5 : St (fun _ => False) w w3 [RogB b bs iv, StoreAt bs r24a.s, Imgs iv r24a.imgs] := G1 _ _ H4
  clear H3 K1 G1 H4
  have en : (RogM.note ⟨newStore 3, []⟩).imgs.length = 1 := e8
  rw [en]
  have H6 := (H5.allocObj rfl (.cells (bvs [97, 98]).toArray 5 (2, 3))).pick [1, 2, 3, 0]
  obtain ⟨S1, K1, R1, G1⟩ := St.lendAll (l1 := [RogB b bs iv, StoreAt bs r24a.s, Imgs iv r24a.imgs]) H6
  obtain ⟨S2, r1, r2⟩ := R1 0 _ rfl
  have R1 := ro_obj r1 r2 (n := 2) rfl
  have kd := rogue_do (r := r24a) ⟨0, 1, 0, 0, [97, 98]⟩ R1 (by simp) ga K1
  unfold mvCells at kd
  simp only [e1] at kd
  go_upto_region 5 with (go_at_call 12; go_must (refine kd.mono ?_; rintro e w4 ⟨rfl, H7⟩))
  have H8 : St (fun _ => False) w w4 [RogB b bs iv, StoreAt bs r24b.s, Imgs iv r24b.imgs] := (show St (fun _ => False) w w4 [RogB b bs iv, StoreAt bs r24b.s, Imgs iv r24b.imgs, _] from G1 _ _ H7).pick [0, 1, 2]
  clear H5 H6 K1 R1 r1 r2 G1 kd H7 kc
  obtain ⟨S1, K1, G1⟩ := H8.whole
  have kd := rogue_do (r := r24b) ⟨1, 1, 2, 0, []⟩ (x := .slice none 0 0) (nil_ro _) (by simp) gb K1
  unfold mvCells at kd
  simp only [e2] at kd
  go_upto_region 6 with (go_at_call 12; go_must (refine kd.mono ?_; rintro e w5 ⟨rfl, H7⟩))
  have H9 : St (fun _ => False) w w5 [RogB b bs iv, StoreAt bs r24c.s, Imgs iv r24c.imgs] := G1 _ _ H7
  clear H8 K1 G1 kd H7
  obtain ⟨S1, K1, G1⟩ := St.call (l1 := [_]) (H9.pick [1, 0, 2])
  go_upto_region 7 with (go_at_call 24; go_must (refine (store_read gc.s K1).mono ?_; rintro e w6 ⟨vx, rfl, H7⟩))
  obtain ⟨gx, tx, rfl, H10⟩ := BytesAt.out (show St (fun _ => False) w w6 [BytesAt vx x24, StoreAt bs r24d.s, RogB b bs iv, Imgs iv r24d.imgs] from G1 _ _ H7) e4 (by omega)
  clear H9 K1 G1 H7
  obtain ⟨gm, hgm⟩ : ∃ g, w6.heap.size = g := ⟨_, rfl⟩
  have H11 : St (fun _ => False) w (w6.alloc (.cells #[.int .i64 4, .int .i64 0, .int .i64 0, .int .i64 0, .slice none 0 0, .int .i64 9, .int .i64 0, .int .i64 0, .int .i64 0, .slice none 0 0] 40)) [RogB b bs iv, StoreAt bs r24d.s, Imgs iv r24d.imgs, Blk gx (bvs x24).toArray tx, Blk gm #[.int .i64 4, .int .i64 0, .int .i64 0, .int .i64 0, .slice none 0 0, .int .i64 9, .int .i64 0, .int .i64 0, .int .i64 0, .slice none 0 0] 40] := (H10.allocAt hgm _ _).pick [3, 2, 4, 1, 0]
  clear H10
  obtain ⟨S1, K1, R1, G1⟩ := St.lendAll (l1 := [RogB b bs iv, StoreAt bs r24d.s, Imgs iv r24d.imgs]) H11
  obtain ⟨S2, r1, r2⟩ := R1 1 _ rfl
  have hro : MvsRO S1 (w6.alloc (.cells #[.int .i64 4, .int .i64 0, .int .i64 0, .int .i64 0, .slice none 0 0, .int .i64 9, .int .i64 0, .int .i64 0, .int .i64 0, .slice none 0 0] 40)) (.slice (some ⟨gm, 0, none⟩) 2 2) [(⟨4, 0, 0, 0, []⟩, .slice none 0 0), (⟨9, 0, 0, 0, []⟩, .slice none 0 0)] := by
    refine ⟨_, _, rfl, by simp, ?_, fun _ => ⟨gm, 0, rfl, blk_lt r1.1, r2 gm ((r1.2 gm).2 rfl), ?_⟩⟩
    · intro y hy
      simp only [List.mem_cons, List.not_mem_nil, or_false] at hy
      rcases hy with rfl | rfl
      · exact ⟨nil_ro _, by simp⟩
      · exact ⟨nil_ro _, by simp⟩
    · intro i y hi j u hj
      rw [cell_blk r1.1]
      match i, hi with
      | 0, hi =>
        injection hi with hi
        subst hi
        rcases j with _ | _ | _ | _ | _ | j
        · exact hj
        · exact hj
        · exact hj
        · exact hj
        · exact hj
        · exact absurd hj (by simp [mvCells])
      | 1, hi =>
        injection hi with hi
        subst hi
        rcases j with _ | _ | _ | _ | _ | j
        · exact hj
        · exact hj
        · exact hj
        · exact hj
        · exact hj
        · exact absurd hj (by simp [mvCells])
      | i + 2, hi => exact absurd hi (by simp)
  have kr := rogue_run hro gd K1
  simp only [List.map_cons, List.map_nil, e3] at kr
  go_upto_region 8 with (go_at_call 17; go_must (refine kr.mono ?_; rintro e w7 ⟨rfl, H7⟩))
  have H12 : St (fun _ => False) w w7 [StoreAt bs r24e.s, RogB b bs iv, Imgs iv r24e.imgs, Blk gx (bvs x24).toArray tx] := (show St (fun _ => False) w w7 [RogB b bs iv, StoreAt bs r24e.s, Imgs iv r24e.imgs, Blk gx (bvs x24).toArray tx, _] from G1 _ _ H7).pick [1, 0, 2, 3]
  clear H11 K1 R1 r1 r2 G1 kr H7 hro
  obtain ⟨S1, K1, G1⟩ := St.call (l1 := [_]) H12
  go_upto_region 9 with (go_at_call 24; go_must (refine (store_read ge.s K1).mono ?_; rintro e w8 ⟨vy, rfl, H7⟩))
  obtain ⟨gy, ty, rfl, H13⟩ := BytesAt.out (show St (fun _ => False) w w8 [BytesAt vy y24, StoreAt bs r24f.s, RogB b bs iv, Imgs iv r24f.imgs, Blk gx (bvs x24).toArray tx] from G1 _ _ H7) e5 (by omega)
  clear H12 K1 G1 H7
  have ep : parsedM [108, 97, 121, 32, 48, 32, 54, 49, 54, 50] = ⟨0, 0, 0, 0, [97, 98]⟩ := by unfold parsedM; rw [first_parse]; rfl
  have kp := rogue_parse (l := [108, 97, 121, 32, 48, 32, 54, 49, 54, 50]) (w := w8) (by simp) (hVar.st H13)
  rw [ep, first_parse] at kp
  unfold mvCells at kp
  simp only [Option.isSome_some] at kp
  go_upto_region 10 with (go_at_call 18; go_must (refine kp.mono ?_; rintro e w9 ⟨xv, rfl, H7⟩; obtain ⟨ax, cx, rfl, _, _⟩ := slice_form' (H7.row 0 rfl)))
  obtain ⟨pb, hpb⟩ : ∃ g, w9.heap.size = g := ⟨_, rfl⟩
  have H14 := (H13.call0 H7).allocAt hpb #[.int .i64 0, .int .i64 0, .int .i64 0, .int .i64 0, .slice ax 2 cx] 40
  obtain ⟨wa, hwa⟩ : ∃ wa, w9.alloc (.cells #[.int .i64 0, .int .i64 0, .int .i64 0, .int .i64 0, .slice ax 2 cx] 40) = wa := ⟨_, rfl⟩
  rw [hwa] at H14
  have H15 : St (fun _ => False) w wa [Imgs iv r24f.imgs, RogB b bs iv, Blk pb #[.int .i64 0, .int .i64 0, .int .i64 0, .int .i64 0, .slice ax 2 cx] 40, Row 5 1 (.slice ax 2 cx) 2 (bvs [97, 98]), Blk gx (bvs x24).toArray tx, Blk gy (bvs y24).toArray ty] := St.pick (l := [Blk pb #[.int .i64 0, .int .i64 0, .int .i64 0, .int .i64 0, .slice ax 2 cx] 40, Row 5 1 (.slice ax 2 cx) 2 (bvs [97, 98]), Blk gy (bvs y24).toArray ty, StoreAt bs r24f.s, RogB b bs iv, Imgs iv r24f.imgs, Blk gx (bvs x24).toArray tx]) H14 [5, 4, 0, 1, 6, 2]
  obtain ⟨vs, hvs, H16⟩ := Stack.open H15
  obtain ⟨S2, h5⟩ := H16.sep.get 0 rfl
  obtain ⟨a2, p2, rfl, _⟩ := Off.shape h5
  rw [e9] at H16
  have H17 : St (fun _ => False) w wa [RogB b bs (.slice a2 1 p2), Blk pb #[.int .i64 0, .int .i64 0, .int .i64 0, .int .i64 0, .slice ax 2 cx] 40, Row 5 1 (.slice ax 2 cx) 2 (bvs [97, 98]), Blk gx (bvs x24).toArray tx, Blk gy (bvs y24).toArray ty] := H16.pick [2, 3, 4, 5, 6]
  rw [hwa]
  try rw [hpb]
  clear hwa hpb H14 H15 H16 h5 H13 H7 kp
  go_upto_region 11 with (go_at_call 8; go_must (refine (rogue_new_nil _).mono ?_; rintro e wx ⟨rfl, rfl⟩))
  have cx0 : wx.cell? ⟨gx, 0, none⟩ = some (.int .u8 97) := H17.cell 3 0 rfl (v := .int .u8 97) (by simp [bvs, e6, bv])
  have cy0 : wx.cell? ⟨gy, 0, none⟩ = some (.int .u8 0) := H17.cell 4 0 rfl (v := .int .u8 0) (by simp [bvs, e7, bv])
  have m0 : wx.cell? ⟨pb, 0, none⟩ = some (.int .i64 0) := H17.cell 1 0 rfl rfl
  have m1 : wx.cell? ⟨pb, 1, none⟩ = some (.int .i64 0) := H17.cell 1 1 rfl rfl
  have m2 : wx.cell? ⟨pb, 2, none⟩ = some (.int .i64 0) := H17.cell 1 2 rfl rfl
  have m3 : wx.cell? ⟨pb, 3, none⟩ = some (.int .i64 0) := H17.cell 1 3 rfl rfl
  have m4 : wx.cell? ⟨pb, 4, none⟩ = some (.slice ax 2 cx) := H17.cell 1 4 rfl rfl
  have hcv := own_text' (H17.row 2 rfl)
  have kt := rogue_text ⟨0, 0, 0, 0, [97, 98]⟩ (x := .slice ax 2 cx) (hVar.st H17) (own_ro (n := 2) (l := [97, 98]) (H17.row 2 rfl)).1 (by simp) (by simp)
  rw [first_text] at kt
  unfold mvCells at kt
  simp only at kt
  go_wp2_with (first
    | (go_at_call 20; go_must (refine (St.callPast kt H17).mono ?_; rintro e wt ⟨rfl, HT⟩))
    | (go_at_call 16; go_must (refine (rogue_images HT.sep).mono ?_; rintro e wi ⟨rfl, rfl⟩)))
  go_ret
  exact ⟨rfl, HT.below (Nat.le_refl _) (fun _ h => h.elim)⟩

end Go.Proofs.YtaafedpjifaghaaDoor
