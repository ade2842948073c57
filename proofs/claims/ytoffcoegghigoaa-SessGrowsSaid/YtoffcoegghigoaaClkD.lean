/- slices.DeleteFunc at items with clock's predicate; clock's events. Condition: so many items. -/
import Derived.Test.YtoffcoegghigoaaClkC
namespace Go.Proofs.Ytoffcoegghigoaa
open Go.RowKit

theorem run_storeItm {w : World} {a : Act} {dst : Option Tmp} {ty' : TypeId} {pos : String} {after : Array Edge} {g : Option (Nat × Bool)} {x y : Operand}
    (hp : plainPtr (a.eval x) = true) (hr : mayCells w (blockOf (a.eval x)) (placeOf (a.eval x)) 4 = true) (hv : isAggV (a.eval y) = true) (hs : (aggOf (a.eval y)).size = 4) (h1 : allOne (aggOf (a.eval y)) = true) :
    (execOp a.eval ⟨dst, .store 85 x y, ty', pos, after, g⟩).run Try.prog w = .ok .skip (w.setCells (blockOf (a.eval x)) (placeOf (a.eval x)) (aggOf (a.eval y)).toList) :=
  run_store_mid (by kernel_rfl) hp hr hv hs h1

theorem run_clear_any {P : Program} (w : World) (t e ty : TypeId) (z : Value) (ht : P.underlying t = some (.slice e)) (hv : ∀ w, (zeroValue e).run P w = .ok z w) (b o n c m : Nat) (hn : 0 < n)
    (hm : (Builtin.zeroCells z.cells n).size = m) (hc : mayCells w b o m = true) (h1 : ∀ v ∈ (Builtin.zeroCells z.cells n).toList, v.oneCell' = true) :
    (Builtin.clear_ #[t] ty #[.slice (some ⟨b, o, none⟩) n c]).run P w = .ok (.tuple #[]) (w.setCells b o (Builtin.zeroCells z.cells n).toList) := by
  have hth := mayCells_there hc
  have hst := run_storeCells_cells (P := P) b o (Builtin.zeroCells z.cells n).toList 0 w (fun j hj => by simpa using (hth j (by rw [← hm]; simpa using hj)).1) (fun j hj => by simpa using (hth j (by rw [← hm]; simpa using hj)).2) h1
  simp only [Nat.add_zero] at hst
  obtain ⟨k, rfl⟩ : ∃ k, n = k + 1 := ⟨n - 1, by omega⟩
  simp [Builtin.clear_, run_underlying ht, hv, hst]
theorem zero_itms (n : Nat) : (Builtin.zeroCells (Value.agg #[.int .i64 0, .string ⟨#[]⟩, .int .i64 0, .int .i64 0]).cells n).size = n * 4 ∧ ∀ v ∈ (Builtin.zeroCells (Value.agg #[.int .i64 0, .string ⟨#[]⟩, .int .i64 0, .int .i64 0]).cells n).toList, v.oneCell' = true := by
  refine ⟨by simp [Builtin.zeroCells, Value.cells], fun v hv => ?_⟩
  simp only [Builtin.zeroCells, Value.cells, Array.toList_map, List.mem_map] at hv
  obtain ⟨i, _, rfl⟩ := hv
  have : i % 4 < 4 := by omega
  show (#[Value.int .i64 0, .string ⟨#[]⟩, .int .i64 0, .int .i64 0][i % 4]!).oneCell' = true
  have h : i % 4 = 0 ∨ i % 4 = 1 ∨ i % 4 = 2 ∨ i % 4 = 3 := by omega
  rcases h with h | h | h | h <;> rw [h] <;> rfl

theorem filt_snoc {l : List Itm} {j : Nat} {x : Itm} (h : l[j]? = some x) : (l.take (j + 1)).filter Itm.counts = if x.counts = true then (l.take j).filter Itm.counts ++ [x] else (l.take j).filter Itm.counts := by
  rw [take_snoc' h, List.filter_append]
  by_cases hx : x.counts = true
  · rw [if_pos hx]; simp [hx]
  · rw [if_neg hx]; simp [hx]
theorem blk_itms {w : World} {g : Nat} {L : List Itm} {R : List Value} {t : TypeId} (h : w.heap[g]? = some (.cells (itms L ++ R).toArray t (0, 0))) {j : Nat} {x : Itm} (hx : L[j]? = some x) :
    w.cell? ⟨g, j * 4, none⟩ = some (.int .i64 x.kind) ∧ w.cell? ⟨g, j * 4 + 1, none⟩ = some (textV x.key) ∧ w.cell? ⟨g, j * 4 + 2, none⟩ = some (.int .i64 x.time) ∧ w.cell? ⟨g, j * 4 + 3, none⟩ = some (.int .i64 x.value) := by
  have key : ∀ c v, (itmC x).toList[c]? = some v → w.cell? ⟨g, j * 4 + c, none⟩ = some v := fun c v hv => by
    have h2 := itms_get hx hv
    have hlt := (List.getElem?_eq_some_iff.1 h2).1
    refine cell_blk' h ?_
    rw [List.getElem?_toArray, List.getElem?_append_left hlt]
    exact h2
  exact ⟨key 0 _ rfl, key 1 _ rfl, key 2 _ rfl, key 3 _ rfl⟩

theorem take_set1 {α : Type} {L : List α} {i : Nat} (x : α) (hi : i < L.length) : (L.set i x).take (i + 1) = L.take i ++ [x] := by
  rw [take_snoc' (l := L.set i x) (x := x) (by simp [hi]), List.take_set, List.set_eq_of_length_le (by rw [List.length_take]; omega)]
/-- An item is stored into a row, as an operation of a plain list. -/
theorem St.list_storeItm {S : Nat → Prop} {w0 w : World} {l : List SP} (H : St S w0 w l) (i : Nat) {g : Nat} {L : List Itm} {R : List Value} {t : TypeId} (hi : l[i]? = some (Blk g (itms L ++ R).toArray t)) (k : Nat) (hk : k < L.length) (x : Itm)
    {ops : Array Oper} {rest : List Oper} {o : Oper} {a : Act} {Q : Exit → Act → World → Prop} (hgd : o.guard = none) (y z : Operand) (ho : o.op = .store 85 y z)
    (hy : a.eval y = .pointer (some ⟨g, k * 4, none⟩)) (hz : a.eval z = itmV x)
    (h : ∀ w', St S w0 w' (l.set i (Blk g (itms (L.set k x) ++ R).toArray t)) → w.heap.size ≤ w'.heap.size → wpList Try.prog ops Q rest (a.put o.dst undef) w') : wpList Try.prog ops Q (o :: rest) a w := by
  have hlen := itms_len L
  have hm : mayCells w g (k * 4) 4 = true := mayCells_blk (H.blk i hi) (by simp only [List.size_toArray, List.length_append]; omega)
  have h2 := St.setCells i (itmC x).toList (k * 4) (itms L ++ R) w l H hi (by simp only [List.length_append]; show k * 4 + 4 ≤ _; omega)
  rw [itms_set R x hk] at h2
  obtain ⟨dst, op, ty', pos, after, gd⟩ := o
  simp only at ho hgd
  subst ho hgd
  refine wpList_plain rfl fun _ hK => ?_
  unfold Oper.wp
  have hr := run_storeItm (w := w) (a := a) (dst := dst) (ty' := ty') (pos := pos) (after := after) (g := none) (x := y) (y := z) (by rw [hy]; rfl) (by rw [hy]; exact hm) (by rw [hz]; rfl) (by rw [hz]; rfl) (by rw [hz]; simp [allOne, aggOf, Value.oneCell', textV])
  rw [hr, hy, hz]
  exact hK _ _ (h _ h2 (by
    have hsz : ∀ (vs : List Value) (o : Nat) (w : World), (w.setCells g o vs).heap.size = w.heap.size := by
      intro vs
      induction vs with
      | nil => intros; rfl
      | cons v r ih => intro o w; show ((w.setCell _ v).setCells g (o + 1) r).heap.size = _; rw [ih]; simp
    show _ ≤ (w.setCells g (k * 4) (itmC x).toList).heap.size
    rw [hsz]
    exact Nat.le_refl _))

section
set_option maxHeartbeats 4000000 in
set_option maxRecDepth 100000 in
theorem itms_delete {v : Value} {l : List Itm} {w : World} {S : Nat → Prop} (hfit : ∀ x ∈ l, x.fits) (hl : l.length ≤ 3518437208880) (H : Sep w [Row 85 4 v l.length (itms l)] S) :
    Calls Try.prog 80 #[v, notV] w fun e w' => ∃ v', e = .returned v' ∧ St S w w' [Row 85 4 v' (l.filter Itm.counts).length (itms (l.filter Itm.counts))] := by
  have H0 := St.refl H
  have ki := itms_index (itms_own (H0.row 0 rfl) hfit) hl
  unfold notV at ki
  obtain ⟨ua, uc, rfl, huc, _⟩ := slice_form' (H0.row 0 rfl)
  by_cases hall : ∀ x ∈ l, x.counts = true
  · have hfe : l.filter Itm.counts = l := List.filter_eq_self.2 hall
    have hfh := Lib.hid hfe
    have hah := Lib.hid hall
    clear hfe hall H
    have ki2 := ki.mono (fun e w' (h : ∃ r : Int, e = .returned (.int .i64 r) ∧ ((r = -1 ∧ ∀ x ∈ l, x.counts = true) ∨ ∃ k : Nat, r = k ∧ (∃ x, l[k]? = some x ∧ x.counts = false) ∧ ∀ x ∈ l.take k, x.counts = true) ∧ Below w.heap.size w w') => show e = .returned (.int .i64 (-1)) ∧ Below w.heap.size w w' by
      obtain ⟨r, rfl, h | ⟨k, _, ⟨x, hx, hx2⟩, _⟩, hb⟩ := h
      · rw [h.1]; exact ⟨rfl, hb⟩
      · rw [hah.out x (List.mem_of_getElem? hx)] at hx2; cases hx2)
    clear ki
    unfold notV
    go_enter Try.func80, Try.ntmps80
    go_wp2_with (go_at_call 92; go_must (refine ki2.mono ?_; rintro e w3 ⟨rfl, hb3⟩))
    go_ret
    rw [hfh.out]
    exact ⟨_, rfl, H0.past hb3⟩
  · have hah := Lib.hid hall
    have ki2 := ki.mono (fun e w' (h : ∃ r : Int, e = .returned (.int .i64 r) ∧ ((r = -1 ∧ ∀ x ∈ l, x.counts = true) ∨ ∃ k : Nat, r = k ∧ (∃ x, l[k]? = some x ∧ x.counts = false) ∧ ∀ x ∈ l.take k, x.counts = true) ∧ Below w.heap.size w w') => show ∃ k : Nat, e = .returned (.int .i64 k) ∧ (∃ x, l[k]? = some x ∧ x.counts = false) ∧ (∀ x ∈ l.take k, x.counts = true) ∧ Below w.heap.size w w' by
      obtain ⟨r, rfl, h | ⟨k, rfl, h⟩, hb⟩ := h
      · exact absurd h.2 hah.out
      · exact ⟨k, rfl, h.1, h.2, hb⟩)
    clear ki hall
    have hln : l.length ≠ 0 := by
      intro h
      obtain rfl := List.eq_nil_of_length_eq_zero h
      exact hah.out (by simp)
    obtain ⟨g, cap, R, hv, hnc, hcm, hxl, hcs, HB⟩ := H0.row_blk 0 rfl hln
    obtain ⟨rfl, rfl⟩ : ua = some ⟨g, 0, none⟩ ∧ uc = cap := by injection hv with h1 _ h2; exact ⟨h1, h2⟩
    have HB : St S w w [Blk g (itms l ++ R).toArray 85] := HB
    clear hv H hah H0
    unfold notV
    go_enter Try.func80, Try.ntmps80
    go_upto_block 1 with (go_at_call 92; go_must (refine ki2.mono ?_; rintro e w3 ⟨k0, rfl, ⟨x0, hx0, hx02⟩, hk2, hb3⟩; have hk0 := (List.getElem?_eq_some_iff.1 hx0).1; have hk1 : ((k0 : Int) == -1) = false := beq_eq_false_iff_ne.2 (by omega)))
    have HB2 := HB.past hb3
    have hf0 : (l.take k0).filter Itm.counts = l.take k0 := List.filter_eq_self.2 hk2
    have hstart := Lib.hid (show (l.take (k0 + 1)).filter Itm.counts = l.take k0 by rw [filt_snoc hx0, if_neg (by rw [hx02]; simp), hf0])
    clear hb3 HB ki2 hx0 hx02 hk2 hf0
    go_loopw [5, 6, 7] (fun s5 s6 _ wr => ∃ (i j : Nat) (L : List Itm), s5 = .int .i64 i ∧ s6 = .int .i64 j ∧ i < j ∧ j ≤ l.length ∧ L.length = l.length ∧ Hid (L.take i = (l.take j).filter Itm.counts) ∧ Hid (L.drop j = l.drop j) ∧ St S w wr [Blk g (itms L ++ R).toArray 85]) (fun _ s6 _ _ => l.length - (intOf s6).toNat)
    case atStart => exact ⟨k0, k0 + 1, l, rfl, by go_num, by omega, by omega, rfl, Lib.hid hstart.out.symm, Lib.hid rfl, HB2⟩
    case round =>
      clear HB2 hstart
      obtain ⟨i, j, L, rfl, rfl, hij, hj, hL, hF, hD, HM⟩ := hrel
      by_cases hlt : j < l.length
      · have hil : i < l.length := by omega
        have hil2 : (i : Int) < (l.length : Int) := by omega
        obtain ⟨x, hx⟩ : ∃ x, l[j]? = some x := ⟨_, List.getElem?_eq_getElem hlt⟩
        have hxL : L[j]? = some x := by
          have e1 : (L.drop j)[0]? = L[j]? := by simp
          have e2 : (l.drop j)[0]? = l[j]? := by simp
          rw [← e1, hD.out, e2, hx]
        have hxf := hfit x (List.mem_of_getElem? hx)
        obtain ⟨q0, q1, q2, q3⟩ := blk_itms (HM.blk 0 rfl) hxL
        have kr := fun w' => clk_not x hxf w'
        have hxh := Lib.hid hx
        obtain ⟨ct, hcv⟩ : ∃ ct, x.counts = ct := ⟨_, rfl⟩
        rw [hcv] at kr
        have hcvh := Lib.hid hcv
        clear hx hcv hxL
        obtain ⟨xk, xy, xt, xv⟩ := x
        unfold itmV textV at kr
        simp only at q0 q1 q2 q3 kr
        unfold textV at q1
        have HA : St S w _ [_, _] := HM.allocAt rfl #[.int .i64 xk, .string ⟨xy.toArray⟩, .int .i64 xt, .int .i64 xv] 85
        go_upto_region 8 with (fail)
        obtain ⟨wb, hwb⟩ : ∃ wb, wr.alloc (.cells #[.int .i64 xk, .string ⟨xy.toArray⟩, .int .i64 xt, .int .i64 xv] 85) = wb := ⟨_, rfl⟩
        obtain ⟨xb, hxb⟩ : ∃ xb, wr.heap.size = xb := ⟨_, rfl⟩
        rw [hwb, hxb] at HA
        try rw [hwb]
        try simp only [hxb]
        have HA2 : St S w wb [Blk xb #[.int .i64 xk, .string ⟨xy.toArray⟩, .int .i64 xt, .int .i64 xv] 85, Blk g (itms L ++ R).toArray 85] := HA
        clear hwb hxb q0 q1 q2 q3 HM HA
        have d0 := HA2.cell 0 0 rfl rfl
        have d1 := HA2.cell 0 1 rfl rfl
        have d2 := HA2.cell 0 2 rfl rfl
        have d3 := HA2.cell 0 3 rfl rfl
        cases ct with
        | true =>
          have hiL : i < L.length := by omega
          go_wp2_with (first
            | (go_at_call 82; go_must (refine (St.callPast (kr _) HA2).mono ?_; rintro e w3 ⟨rfl, H3⟩; have d0 := H3.cell 0 0 rfl rfl; have d1 := H3.cell 0 1 rfl rfl; have d2 := H3.cell 0 2 rfl rfl; have d3 := H3.cell 0 3 rfl rfl))
            | (with_reducible refine St.list_storeItm H3 1 rfl i hiL ⟨xk, xy, xt, xv⟩ rfl (.tmp 33) (.tmp 32) rfl rfl rfl ?_; intro w5 H5 hz5))
          go_roundw
          case rel =>
            refine ⟨i + 1, j + 1, L.set i ⟨xk, xy, xt, xv⟩, by go_num, by go_num, by omega, by omega, by rw [List.length_set]; exact hL, Lib.hid ?_, Lib.hid ?_, St.tail H5⟩
            · rw [filt_snoc hxh.out, if_pos hcvh.out, ← hF.out]
              exact take_set1 _ hiL
            · rw [List.drop_set_of_lt (by omega), ← List.drop_drop, hD.out, List.drop_drop]
          case measure => simp [intOf]; omega
        | false =>
          go_wp2_with (go_at_call 82; go_must (refine (St.callPast (kr _) HA2).mono ?_; rintro e w3 ⟨rfl, H3⟩; have d0 := H3.cell 0 0 rfl rfl; have d1 := H3.cell 0 1 rfl rfl; have d2 := H3.cell 0 2 rfl rfl; have d3 := H3.cell 0 3 rfl rfl))
          go_roundw
          case rel =>
            refine ⟨i, j + 1, L, rfl, by go_num, by omega, by omega, hL, Lib.hid ?_, Lib.hid ?_, St.tail H3⟩
            · rw [filt_snoc hxh.out, if_neg (by rw [hcvh.out]; simp)]; exact hF.out
            · rw [← List.drop_drop, hD.out, List.drop_drop]
          case measure => simp [intOf]; omega
      · obtain rfl : j = l.length := by omega
        rw [List.take_length] at hF
        have hFh := Lib.hid hF.out
        have hlenF : (l.filter Itm.counts).length = i := by rw [← hF.out, List.length_take]; omega
        have hlenF := Lib.hid hlenF
        obtain ⟨zl, zo⟩ := zero_itms (l.length - i)
        have hsz := itms_len L
        have hmm : mayCells wr g (i * 4) ((l.length - i) * 4) = true := mayCells_blk (HM.blk 0 rfl) (by simp only [List.size_toArray, List.length_append]; omega)
        have hcl : ∀ ty, (Builtin.clear_ #[65] ty #[.slice (some ⟨g, i * 4, none⟩) (l.length - i) (uc - i)]).run Try.prog wr = _ := fun ty => run_clear_any wr _ _ ty _ Try.underlying65 Try.zeroValue85 g (i * 4) _ _ _ (by omega) zl hmm zo
        have H5 := St.setCells 0 (Builtin.zeroCells (Value.agg #[.int .i64 0, .string ⟨#[]⟩, .int .i64 0, .int .i64 0]).cells (l.length - i)).toList (i * 4) (itms L ++ R) wr _ HM rfl (by simp only [List.length_append, Array.length_toList, zl]; omega)
        go_wp2
        go_ret
        rw [hFh.out] at hF
        have H6 := H5.blk_row 0 (e := 85) (size := 4) (cap := uc) (n := i) (xs := itms (L.take i)) rfl (by omega) hcm (by
          have h3 : (itms L ++ R).length = uc * 4 := by rw [List.length_append, itms_len, hL]; simpa [itms_len] using hcs
          rw [length_splice _ _ _ (by simp only [List.length_append, Array.length_toList, zl]; omega)]
          exact h3) (by
          unfold splice
          have e1 : itms (L.take i) = (itms L ++ R).take (i * 4) := by
            have e2 : itms L = itms (L.take i) ++ itms (L.drop i) := by rw [← itms_app, List.take_append_drop]
            have e3 : (itms (L.take i)).length = i * 4 := by rw [itms_len, List.length_take]; omega
            rw [e2, List.append_assoc, List.take_append_of_le_length (by omega), List.take_of_length_le (l := itms (L.take i)) (by omega)]
          rw [e1, List.take_append_of_le_length (by rw [List.length_take, List.length_append]; omega), List.take_of_length_le (by rw [List.length_take]; omega)])
        rw [hFh.out] at H6
        refine ⟨_, rfl, ?_⟩
        rw [hlenF.out]
        exact H6
end
end Go.Proofs.Ytoffcoegghigoaa
