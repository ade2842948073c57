import Derived.Test.YtiglgfonhdfpmaaGreatLw1
import Derived.Test.YtiglgfonhdfpmaaGreatLw2
import Derived.Test.YtiglgfonhdfpmaaGreatLw3
import Derived.Lib.AppendZeros
import Derived.Laws.CopyRow
import Derived.LaidEql
import Derived.Deep.DeepAppendWide
import Derived.Laws.FloatArith
import Derived.Lib.SliceRun
import Derived.ArgAppend
import Derived.Deep.CutBlock
import Derived.Lib.ItoaNum
import Derived.Lib.AtoiAll
import Derived.Lib.Split
import Derived.Lib.SplitLaws
import Derived.Lib.IndexLaws
import Derived.Lib.CountLaws
/- copy between rows, append of noughts behind a row's beginning, apart blocks: laws over any program, at elements of any size. -/
set_option linter.unusedVariables false
set_option linter.unusedSimpArgs false
namespace Go.Proofs.YtiglgfonhdfpmaaGreat
open Go.RowKit

section
variable {P : Program} {S : Nat → Prop} {w0 w : World} {l : List SP}
theorem run_copy_any (w : World) (dT sT ty elem : TypeId) (g o dLen dCap : Nat) (a : Addr) (sLen sCap size : Nat) (vs : List Value)
    (hu : P.underlying dT = some (.slice elem)) (hs : (P.info? elem).map (·.size) = some size)
    (hn : vs.length = Nat.min sLen dLen * size) (hsrc : ∀ j v, vs[j]? = some v → w.cell? (a.add j) = some v) (hc : mayCells w g o vs.length = true) (h1 : ∀ v ∈ vs, v.oneCell' = true) :
    (Builtin.copy_ #[dT, sT] ty #[.slice (some ⟨g, o, none⟩) dLen dCap, .slice (some a) sLen sCap]).run P w = .ok (goInt (Nat.min sLen dLen)) (w.setCells g o vs) := by
  have hl := run_loadCells_list (P := P) w a vs hsrc
  have hth := mayCells_there hc
  have hst := run_storeCells_cells (P := P) g o vs 0 w (fun j hj => (hth j (by simpa using hj)).1) (fun j hj => (hth j (by simpa using hj)).2) h1
  simp only [Nat.add_zero] at hst
  cases hq : P.info? elem with
  | none => simp [hq] at hs
  | some i =>
    have hi : i.size = size := by simpa [hq] using hs
    simp [Builtin.copy_, run_underlying hu, Builtin.lenOf, Builtin.firstCells, sizeOf, typeInfo, hq, hi, ← hn, hl, hst]
theorem setCells_size (g : Nat) : ∀ (vs : List Value) (o : Nat) (w : World), (w.setCells g o vs).heap.size = w.heap.size
  | [], _, _ => rfl
  | v :: r, o, w => by show ((w.setCell _ v).setCells g (o + 1) r).heap.size = _; rw [setCells_size g r]; simp
theorem St.list_copyK (H : St S w0 w l) (i : Nat) {b : Nat} {cs : List Value} {t : TypeId} (hi : l[i]? = some (Blk b cs.toArray t))
    {ops : Array Oper} {rest : List Oper} {o : Oper} {a : Act} {Q : Exit → Act → World → Prop} (hgd : o.guard = none) (x y : Operand) (dT : TypeId)
    (ho : o.op = .call { callee := .builtin .copy, args := #[x, y], argTypes := #[dT, dT] }) {elem : TypeId} {size : Nat} (hu : P.underlying dT = some (.slice elem)) (hs : (P.info? elem).map (·.size) = some size)
    {off dLen dCap sLen sCap : Nat} {ad : Addr} (hx : a.eval x = .slice (some ⟨b, off, none⟩) dLen dCap) (hy : a.eval y = .slice (some ad) sLen sCap) (vs : List Value)
    (hn : vs.length = Nat.min sLen dLen * size) (hsrc : ∀ j v, vs[j]? = some v → w.cell? (ad.add j) = some v) (h1 : ∀ v ∈ vs, v.oneCell' = true) (hfit : off + vs.length ≤ cs.length)
    (h : ∀ w', St S w0 w' (l.set i (Blk b (splice cs off vs).toArray t)) → w.heap.size ≤ w'.heap.size → wpList P ops Q rest (a.put o.dst (goInt (Nat.min sLen dLen))) w') :
    wpList P ops Q (o :: rest) a w := by
  have hr := run_copy_any (P := P) w dT dT o.type elem b off dLen dCap ad sLen sCap size vs hu hs hn hsrc (mayCells_blk (H.blk i hi) (by simpa using hfit)) h1
  have h2 := St.setCells i vs off cs w l H hi hfit
  refine wpList_plain hgd fun _ hK => ?_
  unfold Oper.wp execOp
  simp only [ho, resolve, invoke, builtin, Sem.run_bind, Sem.run_pure, Result.andThen_ok, List.map_toArray, List.map_cons, List.map_nil, hx, hy, hr]
  exact hK _ _ (h _ h2 (by rw [setCells_size]; exact Nat.le_refl _))
/-- append of noughts behind a row's beginning, more than its capacity: a new row. -/
theorem run_append_zeros (w : World) (t tn ty e : TypeId) (i : TypeInfo) (z : Value) (kn : IntKind) (ht : P.underlying t = some (.slice e)) (htn : P.underlying tn = some (.int kn)) (hi : P.info? e = some i) (hz : i.zero = some z)
    (k m cap : Nat) (g : Nat) (vs : List Value) (hv : vs.length = k * i.size) (hsrc : ∀ j v, vs[j]? = some v → w.cell? ⟨g, j, none⟩ = some v) (h0 : 0 < m) (hs : 0 < i.size) (hcap : cap < k + m) (h63 : k + m ≤ 9223372036854775807) (h48 : ((k + m) + (k + m) / 4 + 192) * i.bytes ≤ 281474976710656) :
    (Builtin.append_ #[t, tn] ty #[.slice (some ⟨g, 0, none⟩) k cap, .int .i64 m]).run P w =
      .ok (.slice (some ⟨w.heap.size, 0, none⟩) (k + m) (grownCap w (k + m) cap e)) (w.drew.alloc (.cells (vs.toArray ++ Builtin.zeroCells z.cells m ++ Builtin.zeroCells z.cells (grownCap w (k + m) cap e - (k + m))) e)) := by
  have hw : IntKind.i64.wrap (m : Int) = m := by rw [IntKind.wrap_i64]; omega
  have h48' : ¬ (281474976710656 < Builtin.nextslicecap (k + m) cap * i.bytes) := by have := growslice_fits_wide (bytes := i.bytes) hcap h48; omega
  have hmb : m * i.bytes ≤ 281474976710656 := Nat.le_trans (Nat.mul_le_mul_right _ (by omega)) h48
  have h48i : ¬ (281474976710656 < (m : Int) * (i.bytes : Int)) := by
    rw [← Int.natCast_mul]
    omega
  have hneg : ¬ ((m : Int) < 0) := by omega
  have hns : ¬ (m * i.size = 0) := Nat.mul_ne_zero (by omega) (by omega)
  have hc2 : ¬ (k + m ≤ cap) := by omega
  have h63' : ¬ (9223372036854775807 < (k : Int) + (m : Int)) := by omega
  have hl := run_loadCells_list (P := P) w.drew ⟨g, 0, none⟩ vs (fun j v hj => by rw [Addr.add_lit, Nat.zero_add]; exact hsrc j v hj)
  rw [hv] at hl
  simp [Builtin.append_, run_underlying ht, run_underlying htn, sizeOf, typeInfo, zeroValue, hi, hz, asInt, asIntOf, hw, hneg, hns, h63', h48', h48i, hc2, Question.forced, Builtin.firstCells, hl, newRow, grownCap]
theorem St.list_zeros (H : St S w0 w l) (p : Nat) {g n cap : Nat} {e : TypeId} {size : Nat} {xs : List Value} (hp : l[p]? = some (Row e size (.slice (some ⟨g, 0, none⟩) n cap) n xs))
    {ops : Array Oper} {rest : List Oper} {o : Oper} {a : Act} {Q : Exit → Act → World → Prop} (hgd : o.guard = none) (x y : Operand) (t tn : TypeId)
    (ho : o.op = .call { callee := .builtin .append, args := #[x, y], argTypes := #[t, tn] }) {kn : IntKind} {z : Value} {bytes : Nat} (ht : P.underlying t = some (.slice e)) (htn : P.underlying tn = some (.int kn))
    (hinfo : (P.info? e).map (fun i => (i.zero, i.size, i.bytes)) = some (some z, size, bytes)) (hzs : z.cells.size = size ∧ 0 < size)
    {k m nm : Nat} (hnm : k + m = nm) (hx : a.eval x = .slice (some ⟨g, 0, none⟩) k cap) (hy : a.eval y = .int .i64 m) (hk : k ≤ n) (h0 : 0 < m) (hcap : cap < nm) (h63 : nm ≤ 9223372036854775807) (h48 : (nm + nm / 4 + 192) * bytes ≤ 281474976710656)
    (h : ∀ G C Z w', St S w0 w' (Blk G (xs.take (k * size) ++ Z).toArray e :: l) → (xs.take (k * size) ++ Z).length = C * size → nm ≤ C → C ≤ maxLen → w.heap.size ≤ w'.heap.size → wpList P ops Q rest (a.put o.dst (.slice (some ⟨G, 0, none⟩) nm C)) w') :
    wpList P ops Q (o :: rest) a w := by
  obtain ⟨ti, hti, hz, hsz, hby⟩ := info_parts hinfo
  subst hsz hby hnm
  have hro := H.row p hp
  have hvl : (xs.take (k * ti.size)).length = k * ti.size := by
    rw [List.length_take, hro.1]
    have := Nat.mul_le_mul_right ti.size hk
    omega
  have hr := run_append_zeros (P := P) w t tn o.type e ti z kn ht htn hti hz k m cap g (xs.take (k * ti.size)) hvl (fun j v hj => by
    have hlt := (List.getElem?_eq_some_iff.1 hj).1
    rw [List.getElem?_take] at hj
    split at hj
    · exact own_cell hro hj
    · cases hj) h0 hzs.2 hcap h63 h48
  have hge := grownCap_ge w (k + m) cap e
  have hcm : grownCap w (k + m) cap e ≤ maxLen := grownCap_le_maxLen w (k + m) cap e (by simpa [maxLen] using h63)
  have h2 := (H.drew.alloc ((xs.take (k * ti.size)).toArray ++ Builtin.zeroCells z.cells m ++ Builtin.zeroCells z.cells (grownCap w (k + m) cap e - (k + m))) e)
  refine wpList_plain hgd fun _ hK => ?_
  unfold Oper.wp execOp
  simp only [ho, resolve, invoke, builtin, Sem.run_bind, Sem.run_pure, Result.andThen_ok, List.map_toArray, List.map_cons, List.map_nil, hx, hy, hr]
  refine hK _ _ (h _ (grownCap w (k + m) cap e) ((Builtin.zeroCells z.cells m).toList ++ (Builtin.zeroCells z.cells (grownCap w (k + m) cap e - (k + m))).toList) _ ?_ ?_ hge hcm ?_)
  · have e : ((xs.take (k * ti.size)).toArray ++ Builtin.zeroCells z.cells m ++ Builtin.zeroCells z.cells (grownCap w (k + m) cap e - (k + m))) = (xs.take (k * ti.size) ++ ((Builtin.zeroCells z.cells m).toList ++ (Builtin.zeroCells z.cells (grownCap w (k + m) cap e - (k + m))).toList)).toArray := by
      apply Array.ext'
      simp
    rw [← e]
    exact h2
  · simp only [List.length_append, hvl, Array.length_toList, size_zeroCells, hzs.1, ← Nat.add_mul]
    congr 1
    omega
  · simp
theorem run_apart (w : World) {t r e : TypeId} {size : Nat} {g g2 o o2 n c n2 c2 : Nat} {ca cb : Array Value} {ta tb : TypeId} (hu : P.underlying t = some (.slice e)) (hs : (P.info? e).map (·.size) = some size)
    (hne : g ≠ g2) (ha : w.heap[g]? = some (.cells ca ta (0, 0))) (hb : w.heap[g2]? = some (.cells cb tb (0, 0))) :
    (Extern.SlicesOverlaps.overlaps #[t, t] #[r] #[.slice (some ⟨g, o, none⟩) n c, .slice (some ⟨g2, o2, none⟩) n2 c2]).run P w = .ok (.bool false) w := by
  cases hq : P.info? e with
  | none => simp [hq] at hs
  | some i =>
    conv =>
      lhs
      arg 2
      whnf
    show Sem.run P (Sem.program _) w = _
    rw [show ∀ k : Program → Sem Value, Sem.run P (Sem.program k) w = Sem.run P (k P) w from fun _ => rfl]
    simp only [Sem.bind]
    have hb0 : ∀ (d : TypeDesc) (f : TypeDesc → Sem Value), Sem.bind (pure d) f = f d := fun _ _ => rfl
    by_cases h1 : n = 0 ∨ n2 = 0 ∨ i.size = 0
    · simp [hu, hb0, Go.sizeOf, typeInfo, hq, h1]
    · simp [hu, hb0, Go.sizeOf, typeInfo, hq, h1, hne, World.frozen?, ha, hb, noView, viewAt, World.shape?, mayBeOne, stringish]
end
end Go.Proofs.YtiglgfonhdfpmaaGreat

/- slices.Insert of one window into a row of the call's own. -/
set_option linter.unusedVariables false
set_option linter.unusedSimpArgs false
namespace Go.Proofs.YtiglgfonhdfpmaaGreat
open Go.RowKit

theorem splice_mid {A B C V : List Value} {a : Nat} (ha : A.length = a) (hb : B.length = V.length) : splice (A ++ (B ++ C)) a V = A ++ (V ++ C) := by
  subst ha
  unfold splice
  rw [List.take_append_of_le_length (Nat.le_refl _), List.take_length, List.drop_append, List.drop_of_length_le (by omega), List.nil_append, Nat.add_sub_cancel_left, List.drop_append, List.drop_of_length_le (by omega), List.nil_append, hb, Nat.sub_self, List.drop_zero]
  try rw [List.append_assoc]
theorem cut_two {Z : List Value} {c d : Nat} (h : c + d ≤ Z.length) : ∃ Z1 Z2 Z3, Z = Z1 ++ (Z2 ++ Z3) ∧ Z1.length = c ∧ Z2.length = d := by
  refine ⟨Z.take c, (Z.drop c).take d, (Z.drop c).drop d, ?_, by rw [List.length_take]; omega, by rw [List.length_take, List.length_drop]; omega⟩
  rw [List.take_append_drop, List.take_append_drop]
theorem ins_new {T Z X D : List Value} {a b c : Nat} (hT : T.length = a) (hb : a + X.length = b) (hc : b + D.length = c) (hZ : c ≤ (T ++ Z).length) : (splice (splice (T ++ Z) a X) b D).take c = T ++ (X ++ D) ∧ (splice (splice (T ++ Z) a X) b D).length = (T ++ Z).length := by
  rw [List.length_append] at hZ
  obtain ⟨Z1, Z2, Z3, rfl, h1, h2⟩ := cut_two (Z := Z) (c := X.length) (d := D.length) (by omega)
  rw [splice_mid hT h1, ← List.append_assoc, splice_mid (by rw [List.length_append]; omega) h2]
  refine ⟨?_, by simp; omega⟩
  rw [← List.append_assoc, List.take_append_of_le_length (by simp; omega), List.take_of_length_le (by simp; omega), List.append_assoc]
theorem ins_old {T R X D : List Value} {a b c : Nat} (hT : T.length = a) (hb : a + X.length = b) (hc : b + D.length = c) (hR : c ≤ (T ++ (D ++ R)).length) : (splice (splice (T ++ (D ++ R)) b D) a X).take c = T ++ (X ++ D) ∧ (splice (splice (T ++ (D ++ R)) b D) a X).length = (T ++ (D ++ R)).length := by
  have hl : (T ++ (D ++ R)).length = T.length + (D ++ R).length := List.length_append
  obtain ⟨Z1, Z2, Z3, h0, h1, h2⟩ := cut_two (Z := D ++ R) (c := X.length) (d := D.length) (by omega)
  rw [h0, ← List.append_assoc, splice_mid (by rw [List.length_append]; omega) h2, List.append_assoc, splice_mid hT h1]
  refine ⟨?_, by simp; omega⟩
  rw [← List.append_assoc, ← List.append_assoc, List.take_append_of_le_length (by simp; omega), List.take_of_length_le (by simp; omega), List.append_assoc]
theorem blk_add {w : World} {g : Nat} {cs : Array Value} {t : TypeId} (h : w.heap[g]? = some (.cells cs t (0, 0))) : ∀ ad, some (⟨g, 0, none⟩ : Addr) = some ad → ∀ j u, cs.toList[j]? = some u → w.cell? (ad.add j) = some u := by
  intro ad e j u hj
  cases e
  rw [Addr.add_lit, Nat.zero_add]
  exact cell_blk' h (by simpa using hj)
theorem wds_cut (l : List Wd) (k : Nat) : wds l = wds (l.take k) ++ wds (l.drop k) := by rw [← wds_app, List.take_append_drop]
theorem overlaps_apart {w : World} {g g2 o o2 n c n2 c2 : Nat} {ca cb : Array Value} {ta tb : TypeId} (hne : g ≠ g2) (ha : w.heap[g]? = some (.cells ca ta (0, 0))) (hb : w.heap[g2]? = some (.cells cb tb (0, 0))) :
    (callFunc 281 #[.slice (some ⟨g, o, none⟩) n c, .slice (some ⟨g2, o2, none⟩) n2 c2]).run Tryz.prog w = .ok (.value (.bool false)) w := by
  rw [run_callFunc_extern Tryz.func281 (by kernel_rfl) (by kernel_rfl) (by kernel_rfl) (e := Extern.SlicesOverlaps.overlaps #[145, 145] #[4]) (by kernel_rfl),
    run_apart w (t := 145) (e := 61) (size := 3) Tryz.underlying145 (by kernel_rfl) hne ha hb]
  rfl

set_option maxHeartbeats 4000000 in
set_option maxRecDepth 100000 in
theorem wds_insert {v : Value} {l : List Wd} {x : Wd} {k g2 : Nat} {w : World} {S : Nat → Prop} (hk : k ≤ l.length) (hl : l.length + 1 ≤ 4398046511104) (H : Sep w [Row 61 3 v l.length (wds l), Blk g2 (wdC x) 61] S) :
    Calls Tryz.prog 248 #[v, .int .i64 k, .slice (some ⟨g2, 0, none⟩) 1 1] w fun e w' => ∃ v', e = .returned v' ∧ St S w w' [Row 61 3 v' (l.length + 1) (wds (l.take k ++ x :: l.drop k)), Blk g2 (wdC x) 61] := by
  have H0 := St.refl H
  clear H
  have hlT : (wds (l.take k)).length = k * 3 := by rw [wds_len, List.length_take]; omega
  have hlD : (wds (l.drop k)).length = (l.length - k) * 3 := by rw [wds_len, List.length_drop]
  have hlL := wds_len l
  have hcut0 := wds_cut l k
  have hTk0 : (wds l).take (k * 3) = wds (l.take k) := by rw [hcut0, List.take_append_of_le_length (by omega), List.take_of_length_le (by omega)]
  have hres0 : wds (l.take k ++ x :: l.drop k) = wds (l.take k) ++ ((wdC x).toList ++ wds (l.drop k)) := by rw [wds_app]; simp [wds]
  have h1 : ∀ u ∈ (wdC x).toList, u.oneCell' = true := by have := wds_one1 [x]; simpa [wds] using this
  have h1d := wds_one1 (l.drop k)
  obtain ⟨res, hr⟩ : ∃ r, wds (l.take k ++ x :: l.drop k) = r := ⟨_, rfl⟩
  obtain ⟨T, hT⟩ : ∃ T, wds (l.take k) = T := ⟨_, rfl⟩
  obtain ⟨D, hD⟩ : ∃ D, wds (l.drop k) = D := ⟨_, rfl⟩
  obtain ⟨L, hL⟩ : ∃ L, wds l = L := ⟨_, rfl⟩
  obtain ⟨n, hn⟩ : ∃ n, l.length = n := ⟨_, rfl⟩
  rw [hr, hT, hD] at hres0
  rw [hT, hD, hL] at hcut0
  rw [hT] at hlT
  rw [hL, hT] at hTk0
  rw [hD, hn] at hlD
  rw [hD] at h1d
  rw [hL] at hlL H0
  rw [hn] at hl hk H0 hlL ⊢
  rw [hr]
  have hres := Lib.hid hres0
  have hcut := Lib.hid hcut0
  have hTk := Lib.hid hTk0
  have hlLh := Lib.hid hlL
  clear hr hT hD hL hres0 hcut0 hTk0 hlL hn
  have hsp := own_shape (H0.row 0 rfl)
  have hadd := blk_add (H0.blk 1 rfl)
  by_cases hkn : k = n
  · subst hkn
    have hD0 : D = [] := List.eq_nil_of_length_eq_zero (by omega)
    have hresA := Lib.hid (show res = L ++ (wdC x).toList by rw [hres.out, hcut.out, hD0]; simp)
    have hb : (k + 1) * 32 ≤ 140737488355328 := by omega
    rcases hsp with ⟨rfl, rfl⟩ | ⟨g, cap, rfl, hc, hg⟩
    · go_enter Tryz.func248, Tryz.ntmps248
      go_wp2_with (at_builtin; go_must (refine St.list_add H0 0 rfl rfl (.tmp 23) (.tmp 24) 145 rfl Tryz.underlying145 Tryz.info61 (by decide) rfl (wdC x).toList rfl rfl (by intro h; cases h) hadd h1 hb ?_; intro v' w1 H1 hz))
      go_ret
      rw [hresA.out]
      exact ⟨v', rfl, H1⟩
    · have hc1 : (k : Int) ≤ (cap : Int) := by omega
      go_enter Tryz.func248, Tryz.ntmps248
      go_wp2_with (at_builtin; go_must (refine St.list_add H0 0 rfl rfl (.tmp 23) (.tmp 24) 145 rfl Tryz.underlying145 Tryz.info61 (by decide) rfl (wdC x).toList rfl rfl (by intro h; cases h) hadd h1 hb ?_; intro v' w1 H1 hz))
      all_goals
        go_ret
        rw [hresA.out]
        exact ⟨v', rfl, H1⟩
  · have hkl : k < n := by omega
    rcases hsp with ⟨rfl, hz0⟩ | ⟨g, cap, rfl, hc, hg⟩
    · omega
    obtain ⟨n1, hn1⟩ : ∃ n1, n + 1 = n1 := ⟨_, rfl⟩
    obtain ⟨k1, hk1⟩ : ∃ k1, k + 1 = k1 := ⟨_, rfl⟩
    have hw1 : IntKind.i64.wrap ((n : Int) + 1) = (n1 : Int) := by rw [IntKind.wrap_i64]; omega
    have hw2 : IntKind.i64.wrap ((k : Int) + 1) = (k1 : Int) := by rw [IntKind.wrap_i64]; omega
    have z1 : ((k : Int) == (n : Int)) = false := by simp; omega
    have z1' : (k == n) = false := by simp; omega
    have c1 : (n : Int) ≤ (cap : Int) := by omega
    have c2 : (k : Int) ≤ (n : Int) := by omega
    have c3 : (k : Int) ≤ (cap : Int) := by omega
    have c3' : k ≤ cap := by omega
    have c4 : (k : Int) ≤ (n1 : Int) := by omega
    have c4' : k ≤ n1 := by omega
    have c5 : (k1 : Int) ≤ (n1 : Int) := by omega
    have c5' : k1 ≤ n1 := by omega
    have n1c : ¬ cap = k := by omega
    by_cases hcap : cap < n1
    · obtain ⟨d, hd⟩ : ∃ d : Nat, k + d = n1 := ⟨n1 - k, by omega⟩
      have hw3 : IntKind.i64.wrap ((n1 : Int) - (k : Int)) = (d : Int) := by rw [IntKind.wrap_i64]; omega
      have z2 : decide ((cap : Int) < (n1 : Int)) = true := by simp; omega
      go_enter Tryz.func248, Tryz.ntmps248
      go_upto_region 10 with (at_builtin; go_must (refine St.list_zeros H0 0 rfl rfl (.tmp 34) (.tmp 39) 145 3 rfl Tryz.underlying145 Tryz.underlying3 Tryz.info61 (by decide) (k := k) (m := d) hd rfl rfl hk (by omega) hcap (by omega) (by omega) ?_; intro G C Z w1 H1 hZ hC hCm hz))
      rw [hTk.out] at H1 hZ
      have n2c : ¬ C = k := by omega
      have n3c : ¬ C = k1 := by omega
      have c6 : (n1 : Int) ≤ (C : Int) := by omega
      have c7 : (k : Int) ≤ (C : Int) := by omega
      have c7' : k ≤ C := by omega
      have c8 : (k1 : Int) ≤ (C : Int) := by omega
      have c8' : k1 ≤ C := by omega
      have hmin : Nat.min 1 (n1 - k) = 1 := by show min 1 (n1 - k) = 1; omega
      have hX : (wdC x).toList.length = Nat.min 1 (n1 - k) * 3 := by rw [hmin]; exact (rfl : #[textV x.key, Value.int .i64 x.frm, .int .i64 x.to].toList.length = 3)
      have hZl : (T ++ Z).length = C * 3 := hZ
      go_upto_region 11 with ((with_reducible show Go.wpList _ _ _ (Oper.mk (some 45) _ _ _ _ _ :: _) _ _); go_must (refine St.list_copyK H1 0 rfl rfl (.tmp 43) (.tmp 44) 145 rfl (elem := 61) (size := 3) Tryz.underlying145 (by kernel_rfl) rfl rfl (wdC x).toList hX (blk_add (H1.blk 2 rfl) _ rfl) h1 (by rw [hZl]; show k * 3 + 3 ≤ _; omega) ?_; intro w2 H2 hz2))
      clear H1 hadd hz
      have hZ2 : (splice (T ++ Z) (k * 3) (wdC x).toList).length = C * 3 := by
        unfold splice
        have e3 : (wdC x).toList.length = 3 := rfl
        simp only [List.length_append, List.length_take, List.length_drop, e3] at hZl ⊢
        omega
      have hminD : Nat.min (n - k) (n1 - k1) = n - k := by show min (n - k) (n1 - k1) = n - k; omega
      refine wp_calm_tail 8 (fun w' => St S w w' [Blk G (splice (T ++ Z) (k * 3) (wdC x).toList).toArray 61, Row 61 3 (.slice (some ⟨g, 0, none⟩) n cap) n L, Blk g2 (wdC x) 61]) (by kernel_rfl) (by kernel_rfl) (H2.drew) ?_
      simp only [List.take_succ_cons, List.take_zero, List.drop_succ_cons, List.drop_zero]
      iterate 8 first
        | (apply calm_pass
           · rfl
           intro K hK
           go_simp
           refine hK _ ?_
           clear hK K)
        | (apply calm_step
           · rfl
           · intro w1 h1
             first
               | (go_simp
                  first
                    | rfl
                    | exact ⟨rfl, h1⟩
                 )
           intro K hK
           go_simp
           refine hK _ ?_
           clear hK K)
      refine calm_nil ?_
      intro w3 H3
      have hcp := fun j u (hj : D[j]? = some u) => own_cell (H3.row 1 rfl) (show L[k * 3 + j]? = some u by rw [hcut.out, List.getElem?_append_right (by omega), hlT, Nat.add_sub_cancel_left]; exact hj)
      go_wp2_with ((with_reducible show Go.wpList _ _ _ (Oper.mk (some 54) _ _ _ _ _ :: _) _ _); go_must (refine St.list_copyK H3 0 rfl rfl (.tmp 50) (.tmp 53) 145 rfl (elem := 61) (size := 3) Tryz.underlying145 (by kernel_rfl) rfl rfl D (by rw [hminD]; exact hlD) (fun j u hj => by rw [Addr.add_mid]; exact hcp j u hj) h1d (by rw [hZ2, hlD]; omega) ?_; intro w4 H4 hz4))
      go_ret
      have hfin := ins_new (T := T) (Z := Z) (X := (wdC x).toList) (D := D) (a := k * 3) (b := k1 * 3) (c := n1 * 3) hlT (by show k * 3 + 3 = k1 * 3; omega) (by rw [hlD]; omega) (by rw [hZl]; omega)
      have H5 := H4.blk_row 0 (e := 61) (size := 3) (cap := C) (n := n1) (xs := res) rfl hC hCm (by rw [hfin.2, hZl]) (by rw [hfin.1, hres.out])
      exact ⟨_, rfl, H5.pick [0, 2]⟩
    · obtain ⟨g', cap', R, hv, hnc, hcm, hxl, hcs, HB⟩ := H0.row_blk 0 rfl (by omega)
      obtain ⟨rfl, rfl⟩ : g = g' ∧ cap = cap' := by injection hv with h1 _ h2; injection h1 with h1; injection h1 with h1; exact ⟨h1, h2⟩
      rw [hcut.out] at HB hcs
      have HB : St S w w [Blk g (T ++ D ++ R).toArray 61, Blk g2 (wdC x) 61] := HB
      rw [List.append_assoc] at HB hcs
      clear hv hxl H0 hadd
      have z2 : decide ((cap : Int) < (n1 : Int)) = false := by simp; omega
      have z2' : decide (cap < n1) = false := by simp; omega
      have c6 : (n1 : Int) ≤ (cap : Int) := by omega
      have c6' : n1 ≤ cap := by omega
      have c8 : (k1 : Int) ≤ (cap : Int) := by omega
      have c8' : k1 ≤ cap := by omega
      have n3c : ¬ cap = k1 := by omega
      have hne : g2 ≠ g := fun e => by
        subst e
        obtain ⟨S1, hs1, hs2, S2, hs3, hs4, _⟩ := HB.sep
        exact (hs4 g2 ((hs3.2 g2).2 rfl)).2 ((hs1.2 g2).2 rfl)
      have hov := fun n' c' o2 n2 c2 => overlaps_apart (w := w) (o := 0) (n := n') (c := c') (o2 := o2) (n2 := n2) (c2 := c2) hne (HB.blk 1 rfl) (HB.blk 0 rfl)
      have hminD : Nat.min (n1 - k) (n1 - k1) = n - k := by show min (n1 - k) (n1 - k1) = n - k; omega
      have hmin : Nat.min 1 (n1 - k) = 1 := by show min 1 (n1 - k) = 1; omega
      have hX : (wdC x).toList.length = Nat.min 1 (n1 - k) * 3 := by rw [hmin]; exact (rfl : #[textV x.key, Value.int .i64 x.frm, .int .i64 x.to].toList.length = 3)
      go_enter Tryz.func248, Tryz.ntmps248
      go_upto_region 15 with (fail)
      refine wp_calm_tail 8 (fun w' => St S w w' [Blk g (T ++ (D ++ R)).toArray 61, Blk g2 (wdC x) 61]) (by kernel_rfl) (by kernel_rfl) (HB.drew) ?_
      simp only [List.take_succ_cons, List.take_zero, List.drop_succ_cons, List.drop_zero]
      iterate 8 first
        | (apply calm_pass
           · rfl
           intro K hK
           go_simp
           refine hK _ ?_
           clear hK K)
        | (apply calm_step
           · rfl
           · intro w1 h1
             first
               | (go_simp
                  first
                    | rfl
                    | exact ⟨rfl, h1⟩
                 )
           intro K hK
           go_simp
           refine hK _ ?_
           clear hK K)
      refine calm_nil ?_
      intro w3 H3
      have hcp := fun j u (hj : D[j]? = some u) => cell_blk' (H3.blk 0 rfl) (show (T ++ (D ++ R)).toArray[k * 3 + j]? = some u by rw [List.getElem?_toArray, List.getElem?_append_right (by omega), hlT, Nat.add_sub_cancel_left, List.getElem?_append_left (List.getElem?_eq_some_iff.1 hj).1]; exact hj)
      go_upto_region 16 with ((with_reducible show Go.wpList _ _ _ (Oper.mk (some 77) _ _ _ _ _ :: _) _ _); go_must (refine St.list_copyK H3 0 rfl rfl (.tmp 73) (.tmp 76) 145 rfl (elem := 61) (size := 3) Tryz.underlying145 (by kernel_rfl) rfl rfl D (by rw [hminD]; exact hlD) (fun j u hj => by rw [Addr.add_mid]; exact hcp j u hj) h1d (by rw [hcs, hlD]; omega) ?_; intro w4 H4 hz4))
      have hsl : (splice (T ++ (D ++ R)) (k1 * 3) D).length = cap * 3 := by
        rw [← hcs]
        unfold splice
        simp only [List.length_append, List.length_take, List.length_drop] at hcs ⊢
        omega
      go_wp2_with ((with_reducible show Go.wpList _ _ _ (Oper.mk (some 82) _ _ _ _ _ :: _) _ _); go_must (refine St.list_copyK H4 0 rfl rfl (.tmp 80) (.tmp 81) 145 rfl (elem := 61) (size := 3) Tryz.underlying145 (by kernel_rfl) rfl rfl (wdC x).toList hX (blk_add (H4.blk 1 rfl) _ rfl) h1 (by rw [hsl]; show k * 3 + 3 ≤ _; omega) ?_; intro w5 H5 hz5))
      go_ret
      have hfin := ins_old (T := T) (R := R) (X := (wdC x).toList) (D := D) (a := k * 3) (b := k1 * 3) (c := n1 * 3) hlT (by show k * 3 + 3 = k1 * 3; omega) (by rw [hlD]; omega) (by rw [hcs]; omega)
      exact ⟨_, rfl, H5.blk_row 0 (e := 61) (size := 3) (cap := cap) (n := n1) (xs := res) rfl c6' hcm (by rw [hfin.2, hcs]) (by rw [hfin.1, hres.out])⟩
end Go.Proofs.YtiglgfonhdfpmaaGreat

/- sess.Take. -/
set_option linter.unusedVariables false
set_option linter.unusedSimpArgs false
namespace Go.Proofs.YtiglgfonhdfpmaaGreat
open Go.RowKit

theorem results_tct {P : Program} {fn : Func} {a t c : Tmp} {ty : TypeId} (h : fn.results = #[.tmp a, .cell t ty, .tmp c]) {tmps : Array Value} {w : World} {b : Nat} {cs : List Value} {d : TypeDesc} (ht : tmps.getD t undef = .pointer (some ⟨b, 0, none⟩)) (hr : w.rangeAt b 0 cs)
    (hu : P.underlying ty = some d) (hd : d.isRow = true) (hi : (P.info? ty).map (·.size) = some cs.length) : (results fn tmps).run P w = .ok (.tuple #[tmps.getD a undef, .agg cs.toArray, tmps.getD c undef]) w := by
  have h2 := run_loadVar_mid (P := P) w b 0 ty cs d hr hu hd hi
  have h3 : tmps[t]?.getD undef = .pointer (some ⟨b, 0, none⟩) := by simpa using ht
  simp [results, h, h3, asAddr, h2]

theorem blk_range {w : World} {g : Nat} {t : TypeId} {f : Nat × Nat} {cs : List Value} (h : w.heap[g]? = some (.cells cs.toArray t f)) : w.rangeAt g 0 cs := fun j u hj => by rw [Nat.zero_add, cell_blk h]; simpa using hj
theorem blk_apart' {S : Nat → Prop} {w0 w : World} {L : List SP} {a b : Nat} {ca cb : Array Value} {ta tb : TypeId} (H : St S w0 w (Blk a ca ta :: Blk b cb tb :: L)) : ¬ a = b := fun e => by
  subst e
  obtain ⟨S1, hs1, hs2, S2, hs3, hs4, _⟩ := H.sep
  exact (hs4 a ((hs3.2 a).2 rfl)).2 ((hs1.2 a).2 rfl)
theorem takeF_mono (l : List Wd) (x : Wd) (i : Nat) : (takeF (l.take i) x).out.length ≤ i ∧ (takeF (l.take i) x).gave.length ≤ i := by
  have := takeF_len (l.take i) x
  rw [List.length_take] at this
  omega
theorem outOf_fits {l : List Wd} {x : Wd} (h : ∀ y ∈ l, y.fits) : ∀ y ∈ outOf l x, y.fits := fun y hy => h y (List.mem_filter.1 hy).1
theorem insW_len (l : List Wd) (b : Wd) : (insW l b).length = l.length + 1 := by
  have := posW_le l b
  simp [insW]
  omega

set_option maxHeartbeats 8000000 in
set_option maxRecDepth 100000 in
theorem sess_take {v : Value} {l : List Wd} {x : Wd} (w : World) (hv : WdsRO w v l) (hl : l.length + 1 ≤ 4398046511104) (hx : x.fits) (hset : stl l = true) (hxr : x.right = true) :
    Calls Tryz.prog 193 #[v, wdV x] w fun e w' => ∃ v' vg, e = .returned (.tuple #[v', wdV (becOf l x), vg]) ∧ St (fun _ => False) w w' [Row 61 3 v' (tookW l x).length (wds (tookW l x)), Row 3 1 vg (takeF l x).gave.length (intCells (takeF l x).gave)] := by
  have kset := fun w' (hk : Kept (fun _ => False) w w') => sess_settled w' (hv.later hk) (by omega)
  have kr := fun w' => wd_right x hx w'
  have hpair := Lib.hid (stl_pair.1 (stl_true.1 hset)).2
  rw [hset] at kset
  rw [hxr] at kr
  obtain ⟨ao, cap, rfl, hcap, hfit, hic⟩ := hv
  have hich := Lib.hid hic
  have hfith := Lib.hid hfit
  have hxfh := Lib.hid hx
  have hxrh := Lib.hid hxr
  clear hset hxr hic hfit hx
  obtain ⟨xk, xf, xt⟩ := x
  have H1 : St (fun _ => False) w _ [_] := (St.nil (fun _ => False) w).allocAt rfl #[.string ⟨xk.toArray⟩, .int .i64 xf, .int .i64 xt] 61
  have H2 : St (fun _ => False) w _ [_, _] := H1.allocAt (B := w.heap.size + 1) (Array.size_push _) #[.string ⟨#[]⟩, .int .i64 0, .int .i64 0] 61
  unfold wdV wdC textV at kr
  simp only at kr
  unfold wdV wdC textV
  simp only
  obtain ⟨bec, hbec⟩ : ∃ b, becOf l ⟨xk, xf, xt⟩ = b := ⟨_, rfl⟩
  obtain ⟨res, hres⟩ : ∃ b, tookW l ⟨xk, xf, xt⟩ = b := ⟨_, rfl⟩
  obtain ⟨gv, hgv⟩ : ∃ b, (takeF l ⟨xk, xf, xt⟩).gave = b := ⟨_, rfl⟩
  rw [hbec, hres, hgv]
  have hbech := Lib.hid hbec
  have hresh := Lib.hid hres
  have hgvh := Lib.hid hgv
  clear hbec hres hgv
  go_enter Tryz.func193, Tryz.ntmps193
  go_upto_region 1 with (fail)
  obtain ⟨bx, hbx⟩ : ∃ b, w.heap.size = b := ⟨_, rfl⟩
  obtain ⟨br, hbr⟩ : ∃ b2, bx + 1 = b2 := ⟨_, rfl⟩
  obtain ⟨w2, hw2⟩ : ∃ w2, (w.alloc (.cells #[.string ⟨xk.toArray⟩, .int .i64 xf, .int .i64 xt] 61)).alloc (.cells #[.string ⟨#[]⟩, .int .i64 0, .int .i64 0] 61) = w2 := ⟨_, rfl⟩
  rw [hw2, hbx, hbr] at H2
  rw [hw2]
  simp only [hbx, hbr]
  have H3 : St (fun _ => False) w w2 [Blk br #[.string ⟨#[]⟩, .int .i64 0, .int .i64 0] 61, Blk bx #[.string ⟨xk.toArray⟩, .int .i64 xf, .int .i64 xt] 61] := H2
  clear hbx hbr hw2 H1 H2
  go_upto_region 3 with (first
    | (go_at_call 78; go_must (refine (St.callPast (kset _ H3.kept) H3).mono ?_; rintro e w3 ⟨rfl, H5⟩; have d0 := H5.cell 1 0 rfl rfl; have d1 := H5.cell 1 1 rfl rfl; have d2 := H5.cell 1 2 rfl rfl))
    | (go_at_call 146; go_must (refine (St.callPast (kr _) H5).mono ?_; rintro e w4 ⟨rfl, H4⟩)))
  clear d0 d1 d2 H5 H3 kset kr
  have d0 := H4.cell 1 0 rfl rfl
  have d1 := H4.cell 1 1 rfl rfl
  have d2 := H4.cell 1 2 rfl rfl
  have H6 : St (fun _ => False) w _ [_, _, _] := H4.allocAt rfl #[.string ⟨xk.toArray⟩, .int .i64 xf, .int .i64 xt] 61
  go_upto_region 6 with (fail)
  obtain ⟨bb, hbb⟩ : ∃ b, w4.heap.size = b := ⟨_, rfl⟩
  obtain ⟨w5, hw5⟩ : ∃ w5, w4.alloc (.cells #[.string ⟨xk.toArray⟩, .int .i64 xf, .int .i64 xt] 61) = w5 := ⟨_, rfl⟩
  rw [hw5, hbb] at H6
  rw [hw5]
  try simp only [hbb]
  have H7 : St (fun _ => False) w w5 [Row 61 3 (.slice none 0 0) 0 (wds []), Row 3 1 (.slice none 0 0) 0 (intCells []), Blk bb (wdC ⟨xk, xf, xt⟩) 61, Blk br #[.string ⟨#[]⟩, .int .i64 0, .int .i64 0] 61, Blk bx #[.string ⟨xk.toArray⟩, .int .i64 xf, .int .i64 xt] 61] := (H6.row_nil 3 1).row_nil 61 3
  clear hbb hw5 H6 H4 d0 d1 d2
  go_upto_block 1 with (fail)
  go_loopw [7, 8, 10, 28] (fun u g _ j wr => ∃ (i : Nat) (s : TakeS), i ≤ l.length ∧ j = .int .i64 i ∧ Hid (s = takeF (l.take i) ⟨xk, xf, xt⟩) ∧ St (fun _ => False) w wr [Row 61 3 u s.out.length (wds s.out), Row 3 1 g s.gave.length (intCells s.gave), Blk bb (wdC s.became) 61, Blk br #[.string ⟨#[]⟩, .int .i64 0, .int .i64 0] 61, Blk bx #[.string ⟨xk.toArray⟩, .int .i64 xf, .int .i64 xt] 61]) (fun _ _ _ j _ => l.length - (intOf j).toNat)
  case atStart => exact ⟨0, ⟨[], [], ⟨xk, xf, xt⟩, 0⟩, by omega, rfl, Lib.hid rfl, H7⟩
  case round =>
    clear H7
    obtain ⟨i, s, hi, rfl, hs, HM⟩ := hrel
    have hln := takeF_mono l ⟨xk, xf, xt⟩ i
    rw [← hs.out] at hln
    by_cases hlt : i < l.length
    · obtain ⟨b, o, rfl, hb, hc⟩ := hich.out (by intro e; rw [e] at hlt; simp at hlt)
      obtain ⟨y, hy⟩ : ∃ y, l[i]? = some y := ⟨_, List.getElem?_eq_getElem hlt⟩
      have hyf := hfith.out y (List.mem_of_getElem? hy)
      obtain ⟨q0, q1, q2⟩ := wd_cells (hc i y hy) (HM.kept.block b hb id)
      have kj := fun w' => wd_joins y ⟨xk, xf, xt⟩ hyf hxfh.out w'
      have hsn : takeF (l.take (i + 1)) ⟨xk, xf, xt⟩ = takeStep ⟨xk, xf, xt⟩ s y := by rw [take_snoc' hy, takeF_snoc, hs.out]
      have hsi : s.n = i := by rw [hs.out, takeF_n, List.length_take]; omega
      obtain ⟨J, hJ⟩ : ∃ J, y.joins ⟨xk, xf, xt⟩ = J := ⟨_, rfl⟩
      rw [hJ] at kj
      unfold takeStep at hsn
      rw [hJ, hsi] at hsn
      have hsnh := Lib.hid hsn
      clear hJ hsn hsi hy hc hyf hs
      obtain ⟨so, sg, ⟨sk, sf, st⟩, sn⟩ := s
      obtain ⟨yk, yf, yt⟩ := y
      unfold wdV wdC textV at kj
      unfold wdC textV at HM
      simp only at q0 q1 q2 kj hsnh hln HM
      unfold textV at q0
      have HA : St (fun _ => False) w _ [_, _, _, _, _, _] := HM.allocAt rfl #[.string ⟨yk.toArray⟩, .int .i64 yf, .int .i64 yt] 61
      go_upto_region 9 with (fail)
      obtain ⟨wb, hwb⟩ : ∃ wb, wr.alloc (.cells #[.string ⟨yk.toArray⟩, .int .i64 yf, .int .i64 yt] 61) = wb := ⟨_, rfl⟩
      obtain ⟨yb, hyb⟩ : ∃ yb, wr.heap.size = yb := ⟨_, rfl⟩
      rw [hwb, hyb] at HA
      try rw [hwb]
      try simp only [hyb]
      have HA2 : St (fun _ => False) w wb [Blk yb #[.string ⟨yk.toArray⟩, .int .i64 yf, .int .i64 yt] 61, Row 61 3 u7 so.length (wds so), Row 3 1 u8 sg.length (intCells sg), Blk bb #[.string ⟨sk.toArray⟩, .int .i64 sf, .int .i64 st] 61, Blk br #[.string ⟨#[]⟩, .int .i64 0, .int .i64 0] 61, Blk bx #[.string ⟨xk.toArray⟩, .int .i64 xf, .int .i64 xt] 61] := HA
      clear hwb hyb q0 q1 q2 HM HA
      have d0 := HA2.cell 0 0 rfl rfl
      have d1 := HA2.cell 0 1 rfl rfl
      have d2 := HA2.cell 0 2 rfl rfl
      have e0 := HA2.cell 5 0 rfl rfl
      have e1 := HA2.cell 5 1 rfl rfl
      have e2 := HA2.cell 5 2 rfl rfl
      cases J with
      | false =>
        go_wp2_with (first
          | (go_at_call 147; go_must (refine (St.callPast (kj _) HA2).mono ?_; rintro e w3 ⟨rfl, H3⟩; have d0 := H3.cell 0 0 rfl rfl; have d1 := H3.cell 0 1 rfl rfl; have d2 := H3.cell 0 2 rfl rfl))
          | (at_builtin; go_must (refine St.list_app (H3.skip _) 1 rfl rfl (.tmp 37) (.tmp 39) 145 rfl Tryz.underlying145 Tryz.info61 (by decide) rfl [.string ⟨yk.toArray⟩, .int .i64 yf, .int .i64 yt] rfl rfl (new_cells #[.string ⟨yk.toArray⟩, .int .i64 yf, .int .i64 yt] _) (by simp [Value.oneCell']) (by omega) (by omega) ?_; intro g5 cap5 w6 H6 hz6)))
        go_roundw
        case rel =>
          refine ⟨i + 1, _, by omega, by go_num, Lib.hid hsnh.out.symm, ?_⟩
          try rw [if_neg (by simp)]
          have H7 : St (fun _ => False) w w6 [_, _, _, _, _, _] := H6
          simp only [wds_app, wds_one, List.length_append, List.length_singleton]
          exact H7.pick [1, 2, 3, 4, 5]
        case measure => simp [intOf]; omega
      | true =>
        go_upto_region 12 with (first
          | (go_at_call 147; go_must (refine (St.callPast (kj _) HA2).mono ?_; rintro e w3 ⟨rfl, H3⟩; have d0 := H3.cell 0 0 rfl rfl; have d1 := H3.cell 0 1 rfl rfl; have d2 := H3.cell 0 2 rfl rfl))
          | (at_builtin; go_must (refine St.list_app (H3.skip _) 2 rfl rfl (.tmp 41) (.tmp 43) 33 rfl Tryz.underlying33 Tryz.info3 (by decide) rfl [.int .i64 i] rfl rfl (new_cells #[.int .i64 i] _) (by simp [Value.oneCell']) (by omega) (by omega) ?_; intro g5 cap5 w6 H6 hz6)))
        have H7 : St (fun _ => False) w w6 [Blk yb #[.string ⟨yk.toArray⟩, .int .i64 yf, .int .i64 yt] 61, Row 61 3 u7 so.length (wds so), Row 3 1 (.slice (some ⟨g5, 0, none⟩) (sg.length + 1) cap5) (sg.length + 1) (intCells sg ++ [.int .i64 i]), Blk bb #[.string ⟨sk.toArray⟩, .int .i64 sf, .int .i64 st] 61, Blk br #[.string ⟨#[]⟩, .int .i64 0, .int .i64 0] 61, Blk bx #[.string ⟨xk.toArray⟩, .int .i64 xf, .int .i64 xt] 61] := H6
        clear d0 d1 d2 e0 e1 e2 H6 H3 HA2
        have d1 := H7.cell 0 1 rfl rfl
        have d2 := H7.cell 0 2 rfl rfl
        have e1 := H7.cell 3 1 rfl rfl
        have e2 := H7.cell 3 2 rfl rfl
        have p1 := H7.free 3 1 rfl
        have p2 := H7.free 3 2 rfl
        have hne : ¬ yb = bb := blk_apart' (H7.pick [0, 3])
        have hne2 : ¬ bb = yb := fun e => hne e.symm
        have H8 := ((H7.set 3 rfl 1 (.int .i64 (min sf yf))).set 3 rfl 2 (.int .i64 (max st yt)))
        go_region
        go_wp2
        go_roundw
        case rel =>
          refine ⟨i + 1, _, by omega, by go_num, Lib.hid hsnh.out.symm, ?_⟩
          try rw [if_pos rfl]
          try simp only [if_true]
          simp only [grow, List.length_append, List.length_singleton]
          have ei : intCells (sg ++ [(i : Int)]) = intCells sg ++ [.int .i64 i] := by simp [intCells]
          rw [ei]
          exact H8.drew.pick [1, 2, 3, 4, 5]
        case measure => simp [intOf]; omega
    · obtain rfl : i = l.length := by omega
      rw [List.take_length] at hs
      have hso : s.out = outOf l ⟨xk, xf, xt⟩ := by rw [hs.out, takeF_out]
      have hsb : s.became = bec := by rw [hs.out, takeF_bec, hbech.out]
      have hsg : s.gave = gv := by rw [hs.out, hgvh.out]
      obtain ⟨O, sg, B0, sn⟩ := s
      simp only at hso hsb hsg HM hln
      subst hsb hsg
      have hOf : ∀ y ∈ O, y.fits := by rw [hso]; exact outOf_fits hfith.out
      have hOp : O.Pairwise aheadW := by rw [hso]; exact out_pair hpair.out _
      have hrO : insW O B0 = res := by rw [← hresh.out, hso, ← hbech.out]; rfl
      obtain ⟨k, hk⟩ : ∃ k, posW O B0 = k := ⟨_, rfl⟩
      have hkle : k ≤ O.length := by rw [← hk]; exact posW_le _ _
      have hrl : res.length = O.length + 1 := by rw [← hrO, insW_len]
      have ks := fun w' v' hv' => wds_search (w := w') (v := v') (l := O) (x := B0) (k := k) hv' (by omega) hkle (fun j y hj hy => posW_lo (by rw [hk]; exact hj) hy) (fun j y hj hy => posW_hi hOp (by rw [hk]; exact hj) hy)
      have ki := fun S' w' v' g2 K' => wds_insert (w := w') (v := v') (l := O) (x := B0) (k := k) (g2 := g2) (S := S') hkle (by omega) K'
      have hrO2 : O.take k ++ B0 :: O.drop k = res := by rw [← hrO, insW, hk]
      rw [hrO2, ← hrl] at ki
      obtain ⟨ua, uc, rfl, huc, _⟩ := slice_form' (HM.row 0 rfl)
      obtain ⟨ga, gc, rfl, hgc, _⟩ := slice_form' (HM.row 1 rfl)
      have ks2 := ks _ _ (wds_own (HM.row 0 rfl) hOf)
      have hOfh := Lib.hid hOf
      clear hrl hso hOp hrO hk ks hrO2 hpair hich hresh hbech hgvh hs hOf
      obtain ⟨bk, bf, bt⟩ := B0
      unfold wdV placeV wdC textV at ks2
      unfold wdC textV at HM ki
      simp only at ks2 HM ki
      have d0 := HM.cell 2 0 rfl rfl
      have d1 := HM.cell 2 1 rfl rfl
      have d2 := HM.cell 2 2 rfl rfl
      go_upto_region 15 with (go_at_call 247; go_must (refine ks2.mono ?_; rintro e w6 ⟨⟨bv, rfl⟩, hb6⟩))
      have H6 : St (fun _ => False) w w6 [Row 61 3 (.slice ua O.length uc) O.length (wds O), Row 3 1 (.slice ga sg.length gc) sg.length (intCells sg), Blk bb #[.string ⟨bk.toArray⟩, .int .i64 bf, .int .i64 bt] 61, Blk br #[.string ⟨#[]⟩, .int .i64 0, .int .i64 0] 61] := (HM.past hb6).pick [0, 1, 2, 3]
      clear HM hb6 ks2 d0 d1 d2
      refine wp_script [(0, false), (1, false), (2, false), (5, false), (6, false), (3, true), (4, true), (7, false), (8, true), (9, false)] (Fam fun w' => St (fun _ => False) w w' [Blk bb #[.string ⟨bk.toArray⟩, .int .i64 bf, .int .i64 bt] 61]) (fun w' => St (fun _ => False) w w' [Row 61 3 (.slice ua O.length uc) O.length (wds O), Row 3 1 (.slice ga sg.length gc) sg.length (intCells sg), Blk bb #[.string ⟨bk.toArray⟩, .int .i64 bf, .int .i64 bt] 61, Blk br #[.string ⟨#[]⟩, .int .i64 0, .int .i64 0] 61]) (by kernel_rfl) (by rfl) (by kernel_rfl) (by kernel_rfl) H6.drew (Fam.st (fun _ h => h.pick [2])) ?_
      iterate 5 first
        | (apply script_pass
           · rfl
           · rfl
           intro K hK
           go_simp
           refine hK _ ?_
           clear hK K)
        | (apply script_step
           · rfl
           · rfl
           · intro I hI w1 h1'
             have h1 := hI.2 _ h1'
             have d0 := h1.cell 0 0 rfl rfl
             have d1 := h1.cell 0 1 rfl rfl
             have d2 := h1.cell 0 2 rfl rfl
             first
               | (go_simp
                  first
                    | rfl
                    | exact ⟨rfl, h1'⟩
                 )
           intro K hK
           go_simp
           refine hK _ ?_
           clear hK K)
      obtain ⟨V1, hV1⟩ := hide_rel (fun u I' => ∃ g2, u = .slice (some ⟨g2, 0, none⟩) 1 1 ∧ I' = fun w' => St (fun _ => False) w w' [Row 61 3 (.slice ua O.length uc) O.length (wds O), Row 3 1 (.slice ga sg.length gc) sg.length (intCells sg), Blk bb #[.string ⟨bk.toArray⟩, .int .i64 bf, .int .i64 bt] 61, Blk br #[.string ⟨#[]⟩, .int .i64 0, .int .i64 0] 61, Blk g2 #[.string ⟨bk.toArray⟩, .int .i64 bf, .int .i64 bt] 61])
      obtain ⟨V2, hV2⟩ := hide_rel (fun u I' => ∃ v', u = v' ∧ I' = fun w' => St (fun _ => False) w w' [Row 61 3 v' res.length (wds res), Row 3 1 (.slice ga sg.length gc) sg.length (intCells sg), Blk bb #[.string ⟨bk.toArray⟩, .int .i64 bf, .int .i64 bt] 61, Blk br #[.string ⟨#[]⟩, .int .i64 0, .int .i64 0] 61])
      refine script_big V1 rfl rfl ?_ ?_
      · intro w1 h1
        go_simp
        exact ⟨_, (hV1.out _ _).2 ⟨_, rfl, rfl⟩, (h1.alloc _ _).pick [1, 2, 3, 4, 0]⟩
      intro u I' hvI
      obtain ⟨g2, rfl, rfl⟩ := (hV1.out _ _).1 hvI
      clear hvI hV1
      refine ⟨_, fun _ h => h, Fam.st (fun _ h => h.pick [2]), ?_⟩
      intro K hK
      go_simp
      refine hK _ ?_
      clear hK K
      refine script_big V2 rfl rfl ?_ ?_
      · intro w1 h1
        obtain ⟨S1, K1, G1⟩ := St.call (l1 := [_, _]) (h1.pick [0, 4, 1, 2, 3])
        have ki2 := ki S1 w1 _ g2 K1
        go_simp
        refine ki2.mono ?_
        rintro e w7 ⟨v', rfl, H7⟩
        have H8 : St (fun _ => False) w w7 [_, _, _, _, _] := G1 _ _ H7
        exact ⟨_, rfl, _, (hV2.out _ _).2 ⟨v', rfl, rfl⟩, H8.pick [0, 2, 3, 4]⟩
      intro u I' hvI
      obtain ⟨v', rfl, rfl⟩ := (hV2.out _ _).1 hvI
      clear hvI hV2
      refine ⟨_, fun _ h => h, Fam.st (fun _ h => h.pick [2]), ?_⟩
      intro K hK
      go_simp
      refine hK _ ?_
      clear hK K
      iterate 1 first
        | (apply script_pass
           · rfl
           · rfl
           intro K hK
           go_simp
           refine hK _ ?_
           clear hK K)
        | (apply script_step
           · rfl
           · rfl
           · intro I hI w1 h1'
             have h1 := hI.2 _ h1'
             first
               | (go_simp
                  first
                    | rfl
                    | exact ⟨rfl, h1'⟩
                 )
           intro K hK
           go_simp
           refine hK _ ?_
           clear hK K)
      obtain ⟨V3, hV3⟩ := hide_rel (fun uu I' => uu = undef ∧ I' = fun w' => St (fun _ => False) w w' [Row 61 3 u res.length (wds res), Row 3 1 (.slice ga sg.length gc) sg.length (intCells sg), Blk bb #[.string ⟨bk.toArray⟩, .int .i64 bf, .int .i64 bt] 61, Blk br #[.string ⟨bk.toArray⟩, .int .i64 bf, .int .i64 bt] 61])
      refine script_big V3 rfl rfl ?_ ?_
      · intro w1 h1
        have p0 := h1.cell 3 0 rfl rfl
        have p1 := h1.cell 3 1 rfl rfl
        have p2 := h1.cell 3 2 rfl rfl
        have f0 := h1.free 3 0 rfl
        have f1 := h1.free 3 1 rfl
        have f2 := h1.free 3 2 rfl
        go_simp
        exact ⟨_, (hV3.out _ _).2 ⟨rfl, rfl⟩, ((h1.set 3 rfl 0 _).set 3 rfl 1 _).set 3 rfl 2 _⟩
      intro u2 I' hvI
      obtain ⟨rfl, rfl⟩ := (hV3.out _ _).1 hvI
      clear hvI hV3
      refine ⟨_, fun _ h => h, Fam.st (fun _ h => h.pick [2]), ?_⟩
      intro K hK
      go_simp
      refine hK _ ?_
      clear hK K
      iterate 1 first
        | (apply script_pass
           · rfl
           · rfl
           intro K hK
           go_simp
           refine hK _ ?_
           clear hK K)
        | (apply script_step
           · rfl
           · rfl
           · intro I hI w1 h1'
             have h1 := hI.2 _ h1'
             first
               | (go_simp
                  first
                    | rfl
                    | exact ⟨rfl, h1'⟩
                 )
           intro K hK
           go_simp
           refine hK _ ?_
           clear hK K)
      refine script_nil ?_
      intro w9 H9
      go_wp2
      try simp only [Exit.inBlock, Exit.then]
      refine bodyPost_ret (results_tct rfl rfl (blk_range (cs := [.string ⟨bk.toArray⟩, .int .i64 bf, .int .i64 bt]) (H9.blk 3 rfl)) Tryz.underlying61 rfl (by kernel_rfl)) rfl ?_
      exact ⟨u, .slice ga sg.length gc, rfl, H9.pick [0, 1]⟩
end Go.Proofs.YtiglgfonhdfpmaaGreat

/- The document's Take. Condition: so many windows. -/
set_option linter.unusedVariables false
set_option linter.unusedSimpArgs false
namespace Go.Proofs.YtiglgfonhdfpmaaGreat
open Go.RowKit

section
variable {P : Program} {S : Nat → Prop} {w0 w : World} {l : List SP}
/-- 'append' as an operation of a script. -/
theorem St.came_append (H : St S w0 w l) (i : Nat) {e : TypeId} {size : Nat} {v : Value} {n : Nat} {xs : List Value} (hi : l[i]? = some (Row e size v n xs))
    {o : Oper} {a : Act} (s x : Operand) (t : TypeId) (ho : o.op = .call { callee := .builtin .append, args := #[s, x], argTypes := #[t, t] }) {z : Value} {bytes : Nat} (ht : P.underlying t = some (.slice e))
    (hinfo : (P.info? e).map (fun i => (i.zero, i.size, i.bytes)) = some (some z, size, bytes)) (hzs : z.cells.size = size ∧ 0 < size ∧ 0 < bytes)
    (hs : a.eval s = v) {A : Option Addr} {c m : Nat} (news : List Value) (hx : a.eval x = .slice A m c) (hl : news.length = m * size) (hA : A = none → m = 0) (hnews : ∀ ad, A = some ad → ∀ j u, news[j]? = some u → w.cell? (ad.add j) = some u) (h1 : ∀ u ∈ news, u.oneCell' = true)
    (hbytes : (n + m) * bytes ≤ 140737488355328) {V : Value → (World → Prop) → Prop}
    (h : ∀ v' w', St S w0 w' (l.set i (Row e size v' (n + m) (xs ++ news))) → ∃ I', V v' I' ∧ I' w') : CameV P V ((execOp a.eval o).run P w) := by
  obtain ⟨v', w', hr, h2, h3⟩ := H.run_append i hi (ty := o.type) (c := c) ht hinfo hzs news hl hA hnews h1 hbytes
  unfold execOp
  simp only [ho, resolve, invoke, builtin, Sem.run_bind, Sem.run_pure, Result.andThen_ok, List.map_toArray, List.map_cons, List.map_nil, hs, hx, hr]
  exact h v' w' h2
end

end Go.Proofs.YtiglgfonhdfpmaaGreat

/- Whole numbers as floats of 64 bits: how they are told, summed, ordered, and made whole again. Plain laws, no program in sight. -/
set_option linter.unusedVariables false
set_option linter.unusedSimpArgs false
namespace Go.Proofs.YtiglgfonhdfpmaaGreat
open Go

/-- The bits of a whole number. -/
def ib (n : Int) : Nat := FloatKind.f64.encode (.number (decide (n < 0)) n.natAbs 0)
theorem log2_up {m : Nat} (h : m ≠ 0) (e : Nat) : (m * 2 ^ e).log2 = m.log2 + e := by
  have hm : m * 2 ^ e ≠ 0 := Nat.mul_ne_zero h (Nat.pos_iff_ne_zero.1 (Nat.two_pow_pos e))
  have h1 : 2 ^ m.log2 ≤ m := Nat.log2_self_le h
  have h2 : m < 2 ^ (m.log2 + 1) := Nat.lt_log2_self
  have a : m.log2 + e ≤ (m * 2 ^ e).log2 := (Nat.le_log2 hm).2 (by rw [Nat.pow_add]; exact Nat.mul_le_mul_right _ h1)
  have b : (m * 2 ^ e).log2 < m.log2 + e + 1 := (Nat.log2_lt hm).2 (by
    rw [show m.log2 + e + 1 = (m.log2 + 1) + e by omega, Nat.pow_add]
    exact Nat.mul_lt_mul_of_pos_right h2 (Nat.two_pow_pos e))
  omega
theorem cut_none (way : Ieee.Toward) (neg : Bool) (n : Nat) : way.cut neg n 0 = n := by
  unfold Ieee.Toward.cut
  have h0 : min 0 (n.log2 + 2) = 0 := Nat.zero_min _
  simp only [h0, Nat.shiftLeft_zero, Nat.div_one, Nat.mod_one]
  cases way <;> simp
theorem cut_even {neg : Bool} {m D : Nat} (h : m ≠ 0) : Ieee.Toward.even.cut neg (m * 2 ^ D) D = m := by
  unfold Ieee.Toward.cut
  have h0 : min D ((m * 2 ^ D).log2 + 2) = D := Nat.min_eq_left (by rw [log2_up h]; omega)
  have hp := Nat.two_pow_pos D
  simp only [h0, Nat.shiftLeft_eq, Nat.one_mul, Nat.mul_div_cancel _ hp, Nat.mul_mod_left]
  have h1 : ¬ (2 ^ D < 2 * 0) := by omega
  have h2 : (2 ^ D == 2 * 0) = false := by simp
  simp [h2]
theorem cut_zero {neg : Bool} (m D : Nat) : Ieee.Toward.zero.cut neg (m * 2 ^ D) D = m := by
  unfold Ieee.Toward.cut
  by_cases h : m = 0
  · subst h
    simp
  · have h0 : min D ((m * 2 ^ D).log2 + 2) = D := Nat.min_eq_left (by rw [log2_up h]; omega)
    have hp := Nat.two_pow_pos D
    simp only [h0, Nat.shiftLeft_eq, Nat.one_mul, Nat.mul_div_cancel _ hp]
    simp
/-- A number's rung. -/
def rungOf (m : Nat) : Nat := (m.log2 + 1022) * 2 ^ 52 + m * 2 ^ (52 - m.log2)
theorem rung_part {m : Nat} (h : m ≠ 0) (hm : m < 2 ^ 53) : m.log2 ≤ 52 ∧ 2 ^ 52 ≤ m * 2 ^ (52 - m.log2) ∧ m * 2 ^ (52 - m.log2) < 2 ^ 53 := by
  have h1 : 2 ^ m.log2 ≤ m := Nat.log2_self_le h
  have h2 : m < 2 ^ (m.log2 + 1) := Nat.lt_log2_self
  have hl : m.log2 ≤ 52 := by
    have := (Nat.log2_lt h).2 hm
    omega
  refine ⟨hl, ?_, ?_⟩
  · calc 2 ^ 52 = 2 ^ m.log2 * 2 ^ (52 - m.log2) := by rw [← Nat.pow_add]; congr 1; omega
      _ ≤ m * 2 ^ (52 - m.log2) := Nat.mul_le_mul_right _ h1
  · calc m * 2 ^ (52 - m.log2) < 2 ^ (m.log2 + 1) * 2 ^ (52 - m.log2) := Nat.mul_lt_mul_of_pos_right h2 (Nat.two_pow_pos _)
      _ = 2 ^ 53 := by rw [← Nat.pow_add]; congr 1; omega
theorem rung_lt {m : Nat} (h : m ≠ 0) (hm : m < 2 ^ 53) : rungOf m < 2047 * 2 ^ 52 ∧ 1023 * 2 ^ 52 ≤ rungOf m := by
  obtain ⟨h1, h2, h3⟩ := rung_part h hm
  unfold rungOf
  omega
/-- What a float near a whole number is, wherever its places lie. -/
theorem write_int {neg : Bool} {m e : Nat} (hm : m < 2 ^ 53) : Ieee.double.nearest neg (m * 2 ^ e) (-(e : Int)) = if m = 0 then Ieee.double.word neg 0 else Ieee.double.word neg (rungOf m) := by
  unfold Ieee.Format.nearest
  by_cases h : m = 0
  · subst h
    simp
  · have hm0 : m * 2 ^ e ≠ 0 := Nat.mul_ne_zero h (Nat.pos_iff_ne_zero.1 (Nat.two_pow_pos e))
    obtain ⟨h1, h2, h3⟩ := rung_part h hm
    have hl : Ieee.double.leastPlace = -1074 := by decide
    have hf : Ieee.double.fractionBits = 52 := rfl
    have hb : Ieee.double.binade = 2 ^ 52 := rfl
    have hi : Ieee.double.infRung = 2047 * 2 ^ 52 := by decide
    rw [if_neg hm0, if_neg h, log2_up h, hl, hf, hb, hi]
    have elast : max (-(e : Int) + ((m.log2 + e : Nat) : Int) - (52 : Nat)) (-1074) = (m.log2 : Int) - 52 := by omega
    simp only [elast]
    have ekept : Ieee.Toward.even.cut neg ((m * 2 ^ e) <<< (-(e : Int) - ((m.log2 : Int) - 52)).toNat) (((m.log2 : Int) - 52) - -(e : Int)).toNat = m * 2 ^ (52 - m.log2) := by
      rw [Nat.shiftLeft_eq]
      rcases Nat.le_total e (52 - m.log2) with hle | hle
      · have e1 : (-(e : Int) - ((m.log2 : Int) - 52)).toNat = 52 - m.log2 - e := by omega
        have e2 : (((m.log2 : Int) - 52) - -(e : Int)).toNat = 0 := by omega
        rw [e1, e2, cut_none, Nat.mul_assoc, ← Nat.pow_add]
        congr 2
        omega
      · have e1 : (-(e : Int) - ((m.log2 : Int) - 52)).toNat = 0 := by omega
        have e2 : (((m.log2 : Int) - 52) - -(e : Int)).toNat = e - (52 - m.log2) := by omega
        rw [e1, e2, Nat.pow_zero, Nat.mul_one]
        have e3 : m * 2 ^ e = m * 2 ^ (52 - m.log2) * 2 ^ (e - (52 - m.log2)) := by
          rw [Nat.mul_assoc, ← Nat.pow_add]
          congr 2
          omega
        rw [e3]
        exact cut_even (by omega)
    rw [ekept]
    congr 1
    have e4 : ((m.log2 : Int) - 52 - -1074).toNat = m.log2 + 1022 := by omega
    rw [e4, Nat.min_eq_left]
    · rfl
    · have := rung_lt h hm
      unfold rungOf at this
      omega
/-- A datum that is a whole number. -/
def Rep (d : Ieee.Datum) (n : Int) : Prop := ∃ e : Nat, d = .number (decide (n < 0)) (n.natAbs * 2 ^ e) (-(e : Int))
theorem rep_write {d : Ieee.Datum} {n : Int} (h : Rep d n) (hn : n.natAbs < 2 ^ 53) : Ieee.double.write d = ib n := by
  obtain ⟨e, rfl⟩ := h
  show Ieee.double.nearest _ _ _ = Ieee.double.nearest _ _ _
  have h1 := write_int (neg := decide (n < 0)) (m := n.natAbs) (e := e) hn
  have h2 := write_int (neg := decide (n < 0)) (m := n.natAbs) (e := 0) hn
  rw [h1]
  simp only [Nat.pow_zero, Nat.mul_one] at h2
  exact h2.symm
theorem ib_zero : ib 0 = 0 := by decide
theorem ib_is {n : Int} (hn : n.natAbs < 2 ^ 53) (h0 : n ≠ 0) : ib n = Ieee.double.word (decide (n < 0)) (rungOf n.natAbs) := by
  have h2 := write_int (neg := decide (n < 0)) (m := n.natAbs) (e := 0) hn
  simp only [Nat.pow_zero, Nat.mul_one] at h2
  rw [if_neg (by omega)] at h2
  exact h2
theorem read_word (neg : Bool) {r : Nat} (h1 : 2 ^ 52 ≤ r) (h2 : r < 2047 * 2 ^ 52) : Ieee.double.read (Ieee.double.word neg r) = .number neg (2 ^ 52 + r % 2 ^ 52) (-1074 + ((r / 2 ^ 52 - 1 : Nat) : Int)) := by
  have hl : Ieee.double.leastPlace = -1074 := by decide
  have hb : Ieee.double.binade = 2 ^ 52 := rfl
  have hi : Ieee.double.infRung = 2047 * 2 ^ 52 := by decide
  have hs : Ieee.double.signWeight = 2 ^ 63 := rfl
  unfold Ieee.Format.read Ieee.Format.word
  rw [hl, hb, hi, hs]
  cases neg
  · simp only [Bool.false_eq_true, if_false]
    have e1 : r / 2 ^ 63 % 2 = 0 := by omega
    have e2 : r % 2 ^ 63 = r := by omega
    rw [e1, e2, if_neg (by omega), if_pos h2]
    rfl
  · simp only [if_true]
    have e1 : (2 ^ 63 + r) / 2 ^ 63 % 2 = 1 := by omega
    have e2 : (2 ^ 63 + r) % 2 ^ 63 = r := by omega
    rw [e1, e2, if_neg (by omega), if_pos h2]
    rfl
theorem rep_read {n : Int} (hn : n.natAbs < 2 ^ 53) : Rep (Ieee.double.read (ib n)) n := by
  by_cases h0 : n = 0
  · subst h0
    have h : Ieee.double.read 0 = .number false 0 (-1074) := by decide +kernel
    obtain ⟨e, he⟩ : ∃ e : Nat, e = 1074 := ⟨_, rfl⟩
    refine ⟨e, ?_⟩
    rw [ib_zero, h, show (0 : Int).natAbs = 0 from rfl, Nat.zero_mul, he]
    rfl
  · have h : n.natAbs ≠ 0 := by omega
    obtain ⟨h1, h2, h3⟩ := rung_part h hn
    obtain ⟨h4, h5⟩ := rung_lt h hn
    rw [ib_is hn h0, read_word _ (by omega) h4]
    refine ⟨52 - n.natAbs.log2, ?_⟩
    have e1 : rungOf n.natAbs % 2 ^ 52 = n.natAbs * 2 ^ (52 - n.natAbs.log2) - 2 ^ 52 := by
      unfold rungOf
      omega
    have e2 : rungOf n.natAbs / 2 ^ 52 = n.natAbs.log2 + 1023 := by
      unfold rungOf
      omega
    have e3 : 2 ^ 52 + (n.natAbs * 2 ^ (52 - n.natAbs.log2) - 2 ^ 52) = n.natAbs * 2 ^ (52 - n.natAbs.log2) := by omega
    have e4 : -1074 + ((n.natAbs.log2 + 1023 - 1 : Nat) : Int) = -((52 - n.natAbs.log2 : Nat) : Int) := by omega
    rw [e1, e2, e3, e4]
theorem signed_rep (n : Int) {e E : Nat} (h : e ≤ E) : Ieee.signed (decide (n < 0)) (n.natAbs * 2 ^ e) (E - e) = n * ((2 ^ E : Nat) : Int) := by
  unfold Ieee.signed
  rw [Nat.shiftLeft_eq, Nat.mul_assoc, ← Nat.pow_add, show e + (E - e) = E by omega]
  by_cases hn : n < 0
  · rw [if_pos (by simpa using hn), Int.natCast_mul, show ((n.natAbs : Nat) : Int) = -n by omega]
    rw [Int.neg_mul, Int.neg_neg]
  · rw [if_neg (by simpa using hn), Int.natCast_mul, show ((n.natAbs : Nat) : Int) = n by omega]
theorem base_min (i j : Nat) : min (-(i : Int)) (-(j : Int)) = -((max i j : Nat) : Int) := by omega
theorem rep_sum {x y : Ieee.Datum} {a b : Int} (hx : Rep x a) (hy : Rep y b) : ∃ z, x.sum y = some z ∧ Rep z (a + b) := by
  obtain ⟨i, rfl⟩ := hx
  obtain ⟨j, rfl⟩ := hy
  refine ⟨.number (decide (a + b < 0)) ((a + b).natAbs * 2 ^ (max i j)) (-((max i j : Nat) : Int)), ?_, max i j, rfl⟩
  unfold Ieee.Datum.sum
  simp only [base_min]
  rw [show (-(i : Int) - -((max i j : Nat) : Int)).toNat = max i j - i by omega, show (-(j : Int) - -((max i j : Nat) : Int)).toNat = max i j - j by omega]
  rw [signed_rep a (Nat.le_max_left i j), signed_rep b (Nat.le_max_right i j), ← Int.add_mul]
  have hp : (0 : Int) < ((2 ^ (max i j) : Nat) : Int) := by have := Nat.two_pow_pos (max i j); omega
  congr 2
  · by_cases h : a + b = 0
    · rw [h]
      simp
      omega
    · have hne : (a + b) * ((2 ^ (max i j) : Nat) : Int) ≠ 0 := Int.mul_ne_zero h (by omega)
      rw [if_neg hne]
      by_cases hn : a + b < 0
      · have := Int.mul_neg_of_neg_of_pos hn hp
        rw [decide_eq_true hn, decide_eq_true this]
      · have := Int.mul_nonneg (show 0 ≤ a + b by omega) (show 0 ≤ ((2 ^ (max i j) : Nat) : Int) by omega)
        rw [decide_eq_false hn, decide_eq_false (by omega)]
  · rw [Int.natAbs_mul]
    rfl
theorem add_ib {a b : Int} (ha : a.natAbs < 2 ^ 52) (hb : b.natAbs < 2 ^ 52) : floatBits .add .f64 (ib a) (ib b) = some (ib (a + b)) := by
  show Ieee.double.add (ib a) (ib b) = _
  unfold Ieee.Format.add
  obtain ⟨z, h1, h2⟩ := rep_sum (rep_read (n := a) (by omega)) (rep_read (n := b) (by omega))
  rw [h1]
  show some _ = _
  rw [rep_write h2 (by omega)]
theorem order_ib {a b : Int} (ha : a.natAbs < 2 ^ 53) (hb : b.natAbs < 2 ^ 53) : Ieee.double.order (ib a) (ib b) = some (compare a b) := by
  obtain ⟨i, h1⟩ := rep_read ha
  obtain ⟨j, h2⟩ := rep_read hb
  unfold Ieee.Format.order
  rw [h1, h2]
  unfold Ieee.Datum.order
  simp only [base_min]
  rw [show (-(i : Int) - -((max i j : Nat) : Int)).toNat = max i j - i by omega, show (-(j : Int) - -((max i j : Nat) : Int)).toNat = max i j - j by omega]
  rw [signed_rep a (Nat.le_max_left i j), signed_rep b (Nat.le_max_right i j)]
  have hp : (0 : Int) < ((2 ^ (max i j) : Nat) : Int) := by have := Nat.two_pow_pos (max i j); omega
  obtain ⟨K, hK⟩ : ∃ K : Int, ((2 ^ (max i j) : Nat) : Int) = K := ⟨_, rfl⟩
  rw [hK] at hp ⊢
  congr 1
  show (if a * K < b * K then Ordering.lt else if a * K = b * K then Ordering.eq else Ordering.gt) = (if a < b then Ordering.lt else if a = b then Ordering.eq else Ordering.gt)
  have e1 : a * K < b * K ↔ a < b := Int.mul_lt_mul_right hp
  have e2 : a * K = b * K ↔ a = b := ⟨fun h => Int.eq_of_mul_eq_mul_right (by omega) h, fun h => by rw [h]⟩
  simp only [e1, e2]
theorem toInt_ib {a : Int} (ha : a.natAbs < 2 ^ 53) : (Ieee.double.read (ib a)).toInt .zero = some a := by
  obtain ⟨e, h1⟩ := rep_read ha
  rw [h1]
  unfold Ieee.Datum.toInt Ieee.Datum.integral
  simp only
  rw [show (-(e : Int)).toNat = 0 by omega, Nat.shiftLeft_zero, show (- -(e : Int)).toNat = e by omega, cut_zero]
  have := signed_rep a (e := 0) (E := 0) (Nat.le_refl _)
  simp only [Nat.pow_zero, Nat.mul_one, Nat.sub_zero] at this
  rw [this]
  simp

end Go.Proofs.YtiglgfonhdfpmaaGreat

/- Records in rows, of any kind: laws. An element's cells are told by a function; all have as many. -/
set_option linter.unusedVariables false
set_option linter.unusedSimpArgs false
namespace Go.Proofs.YtiglgfonhdfpmaaGreat
open Go.RowKit

/-- A kind of records: its cells. -/
structure Enc (α : Type) where
  cells : α → List Value
  k : Nat
  len : ∀ x, (cells x).length = k
  pos : 0 < k
  one : ∀ x, ∀ v ∈ cells x, v.oneCell' = true
section
variable {α : Type} (E : Enc α)
def Enc.all (l : List α) : List Value := (l.map E.cells).flatten
theorem Enc.all_app (l m : List α) : E.all (l ++ m) = E.all l ++ E.all m := by simp [Enc.all]
theorem Enc.all_one (x : α) : E.all [x] = E.cells x := by simp [Enc.all]
theorem Enc.all_cons (x : α) (l : List α) : E.all (x :: l) = E.cells x ++ E.all l := by simp [Enc.all]
theorem Enc.full (l : List α) : ∀ y ∈ l.map E.cells, y.length = E.k := by
  intro y hy
  obtain ⟨x, _, rfl⟩ := List.mem_map.1 hy
  exact E.len x
theorem Enc.all_len (l : List α) : (E.all l).length = l.length * E.k := by
  have := flat_len (E.full l)
  simpa [Enc.all] using this
theorem Enc.get {l : List α} {i j : Nat} {x : α} {v : Value} (hi : l[i]? = some x) (hj : (E.cells x)[j]? = some v) : (E.all l)[i * E.k + j]? = some v := by
  have hi2 : (l.map E.cells)[i]? = some (E.cells x) := by rw [List.getElem?_map, hi]; rfl
  have hj4 : j < E.k := by rw [← E.len x]; exact (List.getElem?_eq_some_iff.1 hj).1
  exact (flat_get (E.full l) hi2 hj4).trans hj
theorem Enc.all_one1 (l : List α) : ∀ u ∈ E.all l, u.oneCell' = true := by
  intro u hu
  obtain ⟨y, hy, hu⟩ := List.mem_flatten.1 hu
  obtain ⟨x, _, rfl⟩ := List.mem_map.1 hy
  exact E.one x u hu
theorem Enc.set {l : List α} (R : List Value) {i : Nat} (x : α) (hi : i < l.length) : splice (E.all l ++ R) (i * E.k) (E.cells x) = E.all (l.set i x) ++ R := by
  have h1 := E.all_len l
  have hp := E.pos
  have hx := E.len x
  have hik : i * E.k + E.k ≤ l.length * E.k := by rw [← Nat.succ_mul]; exact Nat.mul_le_mul_right _ hi
  have h2 := flat_splice (E.full l) (i := i) (x := E.cells l[i]) (by rw [List.getElem?_map, List.getElem?_eq_getElem hi]; rfl) (E.cells x) (by rw [hx]; exact Nat.le_refl _)
  have e : (l.set i x).map E.cells = (l.map E.cells).set i (E.cells x ++ (E.cells l[i]).drop (E.cells x).length) := by
    rw [List.map_set, List.drop_of_length_le (by rw [E.len, E.len]; exact Nat.le_refl _), List.append_nil]
  unfold Enc.all at h1 ⊢
  rw [e, ← h2]
  unfold splice
  rw [List.append_assoc, List.append_assoc, List.take_append_of_le_length (by omega), List.drop_append_of_le_length (by omega)]

/-- Records that can be read. -/
def Enc.RO (w : World) (v : Value) (l : List α) : Prop :=
  ∃ ad cap, v = .slice ad l.length cap ∧ l.length ≤ cap ∧ (l ≠ [] → ∃ b o, ad = some ⟨b, o, none⟩ ∧ b < w.heap.size ∧ ∀ i x, l[i]? = some x → w.rangeAt b (o + i * E.k) (E.cells x))
theorem Enc.RO.later {E : Enc α} {w w' : World} {v : Value} {l : List α} (hv : E.RO w v l) (hk : Kept (fun _ => False) w w') : E.RO w' v l := by
  obtain ⟨ad, cap, e1, e2, e4⟩ := hv
  refine ⟨ad, cap, e1, e2, fun hl => ?_⟩
  obtain ⟨b, o, g1, g2, g4⟩ := e4 hl
  exact ⟨b, o, g1, Nat.lt_of_lt_of_le g2 hk.size, fun i x hi j v hj => (World.cell?_of_block (w := w) (hk.block b g2 id)).trans (g4 i x hi j v hj)⟩
theorem Enc.own {w : World} {t : TypeId} {v : Value} {n : Nat} {l : List α} (h : w.ownsRow 0 t E.k v n (E.all l)) (hn : n = l.length) : E.RO w v l := by
  subst hn
  rcases own_shape h with ⟨rfl, h0⟩ | ⟨g, cap, rfl, hc, hg⟩
  · obtain rfl : l = [] := List.eq_nil_of_length_eq_zero h0
    exact ⟨none, 0, rfl, Nat.le_refl _, fun h => absurd rfl h⟩
  · refine ⟨_, cap, rfl, hc, fun _ => ⟨g, 0, rfl, hg, fun i x hi j z hj => ?_⟩⟩
    show w.cell? ⟨g, 0 + i * E.k + j, none⟩ = some z
    rw [Nat.zero_add]
    exact own_cell h (E.get hi hj)
theorem Enc.RO.nil {E : Enc α} (w : World) : E.RO w (.slice none 0 0) [] := ⟨none, 0, rfl, Nat.le_refl _, fun h => absurd rfl h⟩
/-- All cells of readable records, one by one. -/
theorem Enc.RO.cells {E : Enc α} {w : World} {v : Value} {l : List α} (hv : E.RO w v l) : ∃ ad cap, v = .slice ad l.length cap ∧ (ad = none → l = []) ∧ ∀ p, ad = some p → ∀ j u, (E.all l)[j]? = some u → w.cell? (p.add j) = some u := by
  obtain ⟨ad, cap, rfl, _, h⟩ := hv
  refine ⟨ad, cap, rfl, fun e => ?_, fun p hp j u hj => ?_⟩
  · refine Classical.byContradiction fun hl => ?_
    obtain ⟨b, o, e2, _⟩ := h hl
    rw [e] at e2
    cases e2
  · by_cases hl : l = []
    · subst hl; simp [Enc.all] at hj
    · obtain ⟨b, o, e2, _, h4⟩ := h hl
      rw [hp] at e2
      obtain rfl := Option.some.inj e2
      have hlt := (List.getElem?_eq_some_iff.1 hj).1
      rw [E.all_len] at hlt
      have hp := E.pos
      have hi : j / E.k < l.length := (Nat.div_lt_iff_lt_mul hp).2 hlt
      obtain ⟨x, hx⟩ : ∃ x, l[j / E.k]? = some x := ⟨_, List.getElem?_eq_getElem hi⟩
      have hm : j % E.k < (E.cells x).length := by rw [E.len]; exact Nat.mod_lt _ hp
      have hj2 := E.get hx (List.getElem?_eq_getElem hm)
      have hdm : j / E.k * E.k + j % E.k = j := Nat.div_add_mod' j E.k
      rw [hdm, hj] at hj2
      rw [Addr.add_lit]
      have := h4 (j / E.k) x hx (j % E.k) u ((List.getElem?_eq_getElem hm).trans hj2.symm)
      rw [Nat.add_assoc, hdm] at this
      exact this
theorem Enc.at {E : Enc α} {w w' : World} {b o i j : Nat} {x : α} {v : Value} (h : w.rangeAt b (o + i * E.k) (E.cells x)) (hb : w'.heap[b]? = w.heap[b]?) (hj : (E.cells x)[j]? = some v) : w'.cell? ⟨b, o + i * E.k + j, none⟩ = some v := (World.cell?_of_block hb).trans (h j v hj)
end

end Go.Proofs.YtiglgfonhdfpmaaGreat

/- A region that draws its order, by a plan: small operations first, a call alone, or two that may come in either order. Laws over any program. -/
set_option linter.unusedVariables false
set_option linter.unusedSimpArgs false
namespace Go.Proofs.YtiglgfonhdfpmaaGreat
open Go.RowKit

inductive Plan where
  | nil
  | small (i : Nat) (rest : Plan)
  | alone (i : Nat) (rest : Plan)
  | fork (i j : Nat) (pi pj : Plan)
def Plan.count : Plan → Nat
  | .nil => 0
  | .small _ r => r.count + 1
  | .alone _ r => r.count + 1
  | .fork _ _ a _ => a.count + 1
section
variable {P : Program} {ops : Array Oper} {md : Region.Mode}
def PlanS (P : Program) (ops : Array Oper) (Q : Act → World → Prop) : Plan → ((World → Prop) → Prop) → Act → (World → Prop) → Prop
  | .nil, _, a, I => ∀ w, I w → Q a w
  | .small i rest, C, a, I => ∃ o v, ops[i]? = some o ∧ SmallOp P ops C o v a ∧ PlanS P ops Q rest C (a.put o.dst v) I
  | .alone i rest, C, a, I => ∃ o V, ops[i]? = some o ∧ StepTo P ops I o V a ∧ ∀ v I', V v I' → ∃ C', (∀ I, C' I → C I) ∧ C' I' ∧ PlanS P ops Q rest C' (a.put o.dst v) I'
  | .fork i j pi pj, C, a, I => (∃ o V, ops[i]? = some o ∧ StepTo P ops I o V a ∧ ∀ v I', V v I' → ∃ C', (∀ I, C' I → C I) ∧ C' I' ∧ PlanS P ops Q pi C' (a.put o.dst v) I') ∧
      ∃ o V, ops[j]? = some o ∧ StepTo P ops I o V a ∧ ∀ v I', V v I' → ∃ C', (∀ I, C' I → C I) ∧ C' I' ∧ PlanS P ops Q pj C' (a.put o.dst v) I'
def planB (md : Region.Mode) (ops : Array Oper) : Plan → Array Bool → Bool
  | .nil, listed => (Region.ready md ops listed).isEmpty
  | .small i rest, listed => (Region.ready md ops listed).contains i && Region.free md ops listed i && planB md ops rest (listed.setIfInBounds i true)
  | .alone i rest, listed => decide (Region.ready md ops listed = [i]) && planB md ops rest (listed.setIfInBounds i true)
  | .fork i j pi pj, listed => decide (Region.ready md ops listed = [i, j]) && decide (pi.count = pj.count) && planB md ops pi (listed.setIfInBounds i true) && planB md ops pj (listed.setIfInBounds j true)
theorem PlanS.any {Q : Act → World → Prop} (hs : Region.noSelect ops = true) : ∀ (p : Plan) (C : (World → Prop) → Prop) (listed : Array Bool) (a : Act) (I : World → Prop), C I → planB md ops p listed = true → PlanS P ops Q p C a I → AnyI P md ops Q C p.count listed a I
  | .nil, _, _, _, _, _, hB, h => ⟨by simpa [planB] using hB, h⟩
  | .small i l, C, listed, a, I, hC, hB, ⟨o, v, h0, hy, h⟩ => by
    simp only [planB, Bool.and_eq_true] at hB
    obtain ⟨⟨hr, hf⟩, hB'⟩ := hB
    exact AnyI.first h0 (Region.noSelect_spec hs) l.count listed a I hC (Region.free_spec h0 hf) (by simpa using hr) hy (PlanS.any hs l C _ _ I hC hB' h)
  | .alone i l, C, listed, a, I, hC, hB, ⟨o, V, h0, hy, h⟩ => by
    simp only [planB, Bool.and_eq_true, decide_eq_true_eq] at hB
    obtain ⟨hr, hB'⟩ := hB
    refine ⟨fun h => (by rw [hr] at h; cases h), fun j hj => ?_⟩
    rw [hr] at hj
    obtain rfl : j = i := by simpa using hj
    refine ⟨o, V, h0, hy, fun v I' hv => ?_⟩
    obtain ⟨C', h1, h2, h3⟩ := h v I' hv
    exact ⟨h1 _ h2, AnyI.mono h1 (PlanS.any hs l C' _ _ I' h2 hB' h3)⟩
  | .fork i j pi pj, C, listed, a, I, hC, hB, ⟨hi, hj⟩ => by
    simp only [planB, Bool.and_eq_true, decide_eq_true_eq] at hB
    obtain ⟨⟨⟨hr, hcnt⟩, hBi⟩, hBj⟩ := hB
    refine ⟨fun h => (by rw [hr] at h; cases h), fun k hk => ?_⟩
    rw [hr] at hk
    rcases (show k = i ∨ k = j by simpa using hk) with rfl | rfl
    · obtain ⟨o, V, h0, hy, h⟩ := hi
      refine ⟨o, V, h0, hy, fun v I' hv => ?_⟩
      obtain ⟨C', h1, h2, h3⟩ := h v I' hv
      exact ⟨h1 _ h2, AnyI.mono h1 (PlanS.any hs pi C' _ _ I' h2 hBi h3)⟩
    · obtain ⟨o, V, h0, hy, h⟩ := hj
      refine ⟨o, V, h0, hy, fun v I' hv => ?_⟩
      obtain ⟨C', h1, h2, h3⟩ := h v I' hv
      refine ⟨h1 _ h2, AnyI.mono h1 ?_⟩
      rw [hcnt]
      exact PlanS.any hs pj C' _ _ I' h2 hBj h3

/-- A REGION THAT DRAWS, by a plan. -/
theorem wp_plan {id : Nat} {Q : Exit → Act → World → Prop} {a : Act} {w : World} {l : List Oper} (s : Plan) (C : (World → Prop) → Prop) (I : World → Prop) (hm : P.follows .mixedOrders = true) (hl : s.count = l.length) (hs : Region.noSelect l.toArray = true)
    (hB : planB .any l.toArray s (Array.replicate l.toArray.size false) = true) (h0 : I w.drew) (hC : C I) (h : PlanS P l.toArray (fun a w => Q .normal a w) s C a I) : (Code.region id l.toArray true).wp P Q a w := by
  refine wp_region_any hm ?_
  have := AnyI.any (Q' := Q) (fun _ _ h => h) _ _ _ _ _ h0 (PlanS.any hs s C _ a I hC hB h)
  rwa [hl] at this

variable {Q : Act → World → Prop} {rest pj : Plan} {C : (World → Prop) → Prop} {a : Act} {I : World → Prop} {i j : Nat} {o o' : Oper}
theorem plan_nil (h : ∀ w, I w → Q a w) : PlanS P ops Q .nil C a I := h
theorem plan_step (ho : ops[i]? = some o) (hw : Region.wanted o (yielded ops a.tmps) = true) {v : Value} (h1 : ∀ I, C I → ∀ w, I w → CameTo P I v ((execOp a.eval o).run P w))
    (h : ∀ K : Act → Prop, (∀ a, PlanS P ops Q rest C a I → K a) → K (a.put o.dst v)) : PlanS P ops Q (.small i rest) C a I := ⟨o, v, ho, .inl ⟨hw, h1⟩, h _ (fun _ h => h)⟩
theorem plan_pass (ho : ops[i]? = some o) (hw : Region.wanted o (yielded ops a.tmps) = false)
    (h : ∀ K : Act → Prop, (∀ a, PlanS P ops Q rest C a I → K a) → K (a.put o.dst undef)) : PlanS P ops Q (.small i rest) C a I := ⟨o, undef, ho, .inr ⟨hw, rfl⟩, h _ (fun _ h => h)⟩
end

end Go.Proofs.YtiglgfonhdfpmaaGreat

/- Rows that begin anywhere in their block, and lists of slices that are each of the call's own. Laws over any program. -/
set_option linter.unusedVariables false
set_option linter.unusedSimpArgs false
namespace Go.Proofs.YtiglgfonhdfpmaaGreat
open Go.RowKit

/-- A slice that owns its row, wherever in its block the row begins. -/
def Off (e : TypeId) (size : Nat) (v : Value) (n : Nat) (xs : List Value) : SP where
  on w S := xs.length = n * size ∧ ((v = .slice none 0 0 ∧ n = 0 ∧ ∀ k, ¬ S k) ∨ ∃ (g o cap : Nat) (cs : List Value), v = .slice (some ⟨g, o, none⟩) n cap ∧ n ≤ cap ∧ w.heap[g]? = some (.cells cs.toArray e (0, 0)) ∧ o + cap * size = cs.length ∧
      (∀ j u, xs[j]? = some u → cs[o + j]? = some u) ∧ cap ≤ maxLen ∧ ∀ k, S k ↔ k = g)
  loc w w' S h hs := by
    refine ⟨h.1, ?_⟩
    rcases h.2 with h | ⟨g, o, cap, cs, h1, h2, h3, h4, h5, h6, h7⟩
    · exact .inl h
    · exact .inr ⟨g, o, cap, cs, h1, h2, (hs g ((h7 g).2 rfl)).trans h3, h4, h5, h6, h7⟩
  lt w S k h hk := by
    rcases h.2 with ⟨_, _, h⟩ | ⟨g, o, cap, cs, h1, h2, h3, h4, h5, h6, h7⟩
    · exact absurd hk (h k)
    · obtain rfl := (h7 k).1 hk
      exact blk_lt h3
section
variable {S : Nat → Prop} {w0 w w' : World} {L : List SP} {e : TypeId} {size n : Nat} {v : Value} {xs : List Value}
theorem St.off_nil (h : St S w0 w L) (e : TypeId) (size : Nat) : St S w0 w (Off e size (.slice none 0 0) 0 [] :: L) :=
  ⟨h.kept, fun _ => False, ⟨by simp, .inl ⟨rfl, rfl, fun _ h => h⟩⟩, fun _ h => h.elim, h.sep.mono (fun _ _ h => ⟨h, id⟩)⟩
theorem Row.off {S1 : Nat → Prop} (h : (Row e size v n xs).on w S1) : (Off e size v n xs).on w S1 := by
  obtain ⟨h1, h2⟩ := h
  refine ⟨h1.1, ?_⟩
  rcases h1.2 with ⟨rfl, rfl⟩ | ⟨g, cap, cur, rfl, hbg, hg, hnc, hcm, hcs, htake⟩
  · exact .inl ⟨rfl, rfl, fun k hk => by have := (h2 k).1 hk; simp [Value.ownBlock] at this⟩
  · refine .inr ⟨g, 0, cap, cur.toList, rfl, hnc, by simpa using hg, by simpa using hcs.symm, fun j u hj => ?_, hcm, fun k => (h2 k).trans (by simp [Value.ownBlock, eq_comm])⟩
    rw [Nat.zero_add]
    have hlt : j < xs.length := (List.getElem?_eq_some_iff.1 hj).1
    rw [← hj, ← htake, List.getElem?_take, if_pos (by rw [← h1.1]; exact hlt)]
theorem Off.cell {S1 : Nat → Prop} {g o m cap : Nat} (h : (Off e size (.slice (some ⟨g, o, none⟩) m cap) n xs).on w S1) {j : Nat} {u : Value} (hj : xs[j]? = some u) : w.cell? ⟨g, o + j, none⟩ = some u := by
  rcases h.2 with ⟨h1, _⟩ | ⟨g', o', cap', cs, h1, h2, h3, h4, h5, _⟩
  · cases h1
  · simp only [Value.slice.injEq, Option.some.injEq, Addr.mk.injEq] at h1
    obtain ⟨⟨rfl, rfl, _⟩, _, _⟩ := h1
    rw [cell_blk h3]
    simpa using h5 j u hj
end
theorem setCells_size' (g : Nat) : ∀ (vs : List Value) (o : Nat) (w : World), (w.setCells g o vs).heap.size = w.heap.size
  | [], _, _ => rfl
  | v :: r, o, w => by show ((w.setCell _ v).setCells g (o + 1) r).heap.size = _; rw [setCells_size' g r]; simp
theorem splice_get (cs : List Value) (o : Nat) (vs : List Value) (h : o + vs.length ≤ cs.length) (j : Nat) : (splice cs o vs)[j]? = if j < o then cs[j]? else if j < o + vs.length then vs[j - o]? else cs[j]? := by
  have ht : (cs.take o).length = o := by rw [List.length_take]; omega
  unfold splice
  by_cases h1 : j < o
  · rw [if_pos h1, List.getElem?_append_left (by omega), List.getElem?_take_of_lt h1]
  · rw [if_neg h1, List.getElem?_append_right (by omega), ht]
    by_cases h2 : j < o + vs.length
    · rw [if_pos h2, List.getElem?_append_left (by omega)]
    · rw [if_neg h2, List.getElem?_append_right (by omega), List.getElem?_drop]
      congr 1
      omega
theorem splice_len (cs : List Value) (o : Nat) (vs : List Value) (h : o + vs.length ≤ cs.length) : (splice cs o vs).length = cs.length := by
  unfold splice
  simp only [List.length_append, List.length_take, List.length_drop]
  omega
section
variable {P : Program} {S : Nat → Prop} {w0 w : World} {L : List SP} {e : TypeId} {size n : Nat} {v : Value} {xs : List Value}
end

section
variable {P : Program} {S : Nat → Prop} {w0 w : World} {L : List SP} {e : TypeId} {size n : Nat} {v : Value} {xs : List Value}
end

/-- Parts by their values. -/
def Pile {β : Type} (A : Value → β → SP) (vs : List Value) (l : List β) : SP := SP.all (List.zipWith A vs l)
/-- A list of slices, each of the call's own. -/
def Stack {β : Type} (A : Value → β → SP) (e : TypeId) (iv : Value) (l : List β) : SP := SP.ex fun vs : List Value => SP.all [Off e 1 iv l.length vs, Pile A vs l]
section
variable {β : Type} {A : Value → β → SP} {S : Nat → Prop} {w0 w : World} {L : List SP} {e : TypeId} {iv : Value} {l : List β} {vs : List Value}
theorem Stack.open (H : St S w0 w (Stack A e iv l :: L)) : ∃ vs, vs.length = l.length ∧ St S w0 w (Off e 1 iv l.length vs :: Pile A vs l :: L) := by
  obtain ⟨vs, H⟩ := St.ex_iff.1 H
  have H := St.all_iff.1 H
  obtain ⟨S1, h⟩ := H.sep.get 0 rfl
  exact ⟨vs, by simpa using h.1, H⟩
theorem Stack.mk (H : St S w0 w (Off e 1 iv l.length vs :: Pile A vs l :: L)) : St S w0 w (Stack A e iv l :: L) := St.ex_iff.2 ⟨vs, St.all_iff.2 H⟩
theorem Stack.nil (H : St S w0 w L) : St S w0 w (Stack A e (.slice none 0 0) ([] : List β) :: L) := by
  refine Stack.mk (vs := []) ?_
  have : St S w0 w (Pile A [] ([] : List β) :: L) := St.all_iff.2 H
  exact this.off_nil e 1
theorem Pile.snoc {v : Value} {x : β} (hl : vs.length = l.length) (H : St S w0 w (Pile A vs l :: A v x :: L)) : St S w0 w (Pile A (vs ++ [v]) (l ++ [x]) :: L) := by
  have H := St.all_iff.1 H
  refine St.all_iff.2 ?_
  rw [List.zipWith_append hl]
  simpa using H
theorem Pile.tail {v : Value} {x : β} (H : St S w0 w (Pile A (v :: vs) (x :: l) :: L)) : St S w0 w (Pile A vs l :: L) :=
  St.all_iff.2 (St.tail (St.all_iff.1 H))
theorem SP.all_at {zs : List SP} {S1 : Nat → Prop} (h : (SP.all zs).on w S1) {k : Nat} {Z : SP} (hk : zs[k]? = some Z) : ∃ S2 : Nat → Prop, Z.on w S2 ∧ ∀ j, S2 j → S1 j := by
  obtain ⟨f, f1, _⟩ := h.1.fps
  exact ⟨f k, (f1 k Z hk).1, (f1 k Z hk).2⟩
theorem Pile.at {S1 : Nat → Prop} (h : (Pile A vs l).on w S1) {k : Nat} {v : Value} {x : β} (hv : vs[k]? = some v) (hx : l[k]? = some x) : ∃ S2 : Nat → Prop, (A v x).on w S2 ∧ ∀ j, S2 j → S1 j :=
  SP.all_at h (by rw [List.getElem?_zipWith, hv, hx])
end

end Go.Proofs.YtiglgfonhdfpmaaGreat

/- A script's operation that stands alone, told in one step: what it comes to, and how the script goes on from there. Laws over any program. -/
set_option linter.unusedVariables false
set_option linter.unusedSimpArgs false
namespace Go.Proofs.YtiglgfonhdfpmaaGreat
open Go.RowKit

section
variable {P : Program} {ops : Array Oper} {Q : Act → World → Prop} {rest : List (Nat × Bool)} {C : (World → Prop) → Prop} {a : Act} {I : World → Prop} {i : Nat} {o : Oper}
theorem script_alone (ho : ops[i]? = some o) (hw : Region.wanted o (yielded ops a.tmps) = true)
    (h1 : ∀ V : Value → (World → Prop) → Prop, (∀ v I' (C' : (World → Prop) → Prop), (∀ I, C' I → C I) → C' I' → (∀ K : Act → Prop, (∀ a, Script P ops Q rest C' a I' → K a) → K (a.put o.dst v)) → V v I') → ∀ w, I w → CameV P V ((execOp a.eval o).run P w)) :
    Script P ops Q ((i, true) :: rest) C a I :=
  ⟨o, fun v I' => ∃ C' : (World → Prop) → Prop, (∀ I, C' I → C I) ∧ C' I' ∧ ∀ K : Act → Prop, (∀ a, Script P ops Q rest C' a I' → K a) → K (a.put o.dst v), ho, .inl ⟨hw, h1 _ (fun _ _ C' h2 h3 h4 => ⟨C', h2, h3, h4⟩)⟩, fun v I' hv => by obtain ⟨C', h2, h3, h4⟩ := hv; exact ⟨C', h2, h3, h4 _ (fun _ h => h)⟩⟩
theorem plan_one {rest : Plan} (ho : ops[i]? = some o) (hw : Region.wanted o (yielded ops a.tmps) = true)
    (h1 : ∀ V : Value → (World → Prop) → Prop, (∀ v I' (C' : (World → Prop) → Prop), (∀ I, C' I → C I) → C' I' → (∀ K : Act → Prop, (∀ a, PlanS P ops Q rest C' a I' → K a) → K (a.put o.dst v)) → V v I') → ∀ w, I w → CameV P V ((execOp a.eval o).run P w)) :
    PlanS P ops Q (.alone i rest) C a I :=
  ⟨o, fun v I' => ∃ C' : (World → Prop) → Prop, (∀ I, C' I → C I) ∧ C' I' ∧ ∀ K : Act → Prop, (∀ a, PlanS P ops Q rest C' a I' → K a) → K (a.put o.dst v), ho, .inl ⟨hw, h1 _ (fun _ _ C' h2 h3 h4 => ⟨C', h2, h3, h4⟩)⟩, fun v I' hv => by obtain ⟨C', h2, h3, h4⟩ := hv; exact ⟨C', h2, h3, h4 _ (fun _ h => h)⟩⟩
theorem plan_two {rest pj : Plan} {j : Nat} {o' : Oper} (ho : ops[i]? = some o) (ho' : ops[j]? = some o') (hw : Region.wanted o (yielded ops a.tmps) = true) (hw' : Region.wanted o' (yielded ops a.tmps) = true)
    (h1 : ∀ V : Value → (World → Prop) → Prop, (∀ v I' (C' : (World → Prop) → Prop), (∀ I, C' I → C I) → C' I' → (∀ K : Act → Prop, (∀ a, PlanS P ops Q rest C' a I' → K a) → K (a.put o.dst v)) → V v I') → ∀ w, I w → CameV P V ((execOp a.eval o).run P w))
    (h2 : ∀ V : Value → (World → Prop) → Prop, (∀ v I' (C' : (World → Prop) → Prop), (∀ I, C' I → C I) → C' I' → (∀ K : Act → Prop, (∀ a, PlanS P ops Q pj C' a I' → K a) → K (a.put o'.dst v)) → V v I') → ∀ w, I w → CameV P V ((execOp a.eval o').run P w)) :
    PlanS P ops Q (.fork i j rest pj) C a I :=
  ⟨⟨o, fun v I' => ∃ C' : (World → Prop) → Prop, (∀ I, C' I → C I) ∧ C' I' ∧ ∀ K : Act → Prop, (∀ a, PlanS P ops Q rest C' a I' → K a) → K (a.put o.dst v), ho, .inl ⟨hw, h1 _ (fun _ _ C' h2 h3 h4 => ⟨C', h2, h3, h4⟩)⟩, fun v I' hv => by obtain ⟨C', h2, h3, h4⟩ := hv; exact ⟨C', h2, h3, h4 _ (fun _ h => h)⟩⟩,
    ⟨o', fun v I' => ∃ C' : (World → Prop) → Prop, (∀ I, C' I → C I) ∧ C' I' ∧ ∀ K : Act → Prop, (∀ a, PlanS P ops Q pj C' a I' → K a) → K (a.put o'.dst v), ho', .inl ⟨hw', h2 _ (fun _ _ C' h2 h3 h4 => ⟨C', h2, h3, h4⟩)⟩, fun v I' hv => by obtain ⟨C', h2, h3, h4⟩ := hv; exact ⟨C', h2, h3, h4 _ (fun _ h => h)⟩⟩⟩
/-- 'append' onto a row, as an operation of a script. -/
theorem St.came_row {S : Nat → Prop} {w0 w : World} {L : List SP} {e : TypeId} {size n : Nat} {v : Value} {xs : List Value} (H : St S w0 w (Row e size v n xs :: L)) {o : Oper} {a : Act} (s x : Operand) (t : TypeId)
    (ho : o.op = .call { callee := .builtin .append, args := #[s, x], argTypes := #[t, t] }) {z : Value} {bytes : Nat} (ht : P.underlying t = some (.slice e))
    (hinfo : (P.info? e).map (fun i => (i.zero, i.size, i.bytes)) = some (some z, size, bytes)) (hzs : z.cells.size = size ∧ 0 < size ∧ 0 < bytes)
    (hs : a.eval s = v) {A : Option Addr} {c m : Nat} (news : List Value) (hx : a.eval x = .slice A m c) (hl : news.length = m * size) (hA : A = none → m = 0) (hnews : ∀ ad, A = some ad → ∀ j u, news[j]? = some u → w.cell? (ad.add j) = some u) (h1 : ∀ u ∈ news, u.oneCell' = true)
    (hbytes : (n + m) * bytes ≤ 140737488355328) {V : Value → (World → Prop) → Prop}
    (h : ∀ v' w', St S w0 w' (Row e size v' (n + m) (xs ++ news) :: L) → ∃ I', V v' I' ∧ I' w') : CameV P V ((execOp a.eval o).run P w) := by
  obtain ⟨v', w', hr, h2, h3⟩ := H.run_append 0 rfl (ty := o.type) (c := c) ht hinfo hzs news hl hA hnews h1 hbytes
  unfold execOp
  simp only [ho, resolve, invoke, builtin, Sem.run_bind, Sem.run_pure, Result.andThen_ok, List.map_toArray, List.map_cons, List.map_nil, hs, hx, hr]
  exact h v' w' h2
end

/-! A script for the first operations, and the others in one order. -/
section
variable {P : Program} {ops : Array Oper} {md : Region.Mode}
def HeadI (P : Program) (md : Region.Mode) (ops : Array Oper) (C : (World → Prop) → Prop) (n : Nat) (L : Array Bool → Act → (World → Prop) → Prop) : Nat → Array Bool → Act → (World → Prop) → Prop
  | 0, listed, a, I => L listed a I
  | f + 1, listed, a, I => Region.ready md ops listed ≠ [] ∧
    ∀ i ∈ Region.ready md ops listed, i < n ∧ ∃ o V, ops[i]? = some o ∧ StepTo P ops I o V a ∧ ∀ v I', V v I' → C I' ∧ HeadI P md ops C n L f (listed.setIfInBounds i true) (a.put o.dst v) I'
theorem HeadI.any {n g : Nat} {C : (World → Prop) → Prop} {L : Array Bool → Act → (World → Prop) → Prop} {Q' : Exit → Act → World → Prop} (hL : ∀ listed a I w, L listed a I → I w → wpAny P md ops Q' g listed a w) :
    ∀ (f : Nat) (listed : Array Bool) (a : Act) (I : World → Prop) (w : World), I w → HeadI P md ops C n L f listed a I → wpAny P md ops Q' (f + g) listed a w
  | 0, listed, a, I, w, hw, h => by rw [Nat.zero_add]; exact hL _ _ _ _ h hw
  | f + 1, listed, a, I, w, hw, h => by
    rw [show f + 1 + g = (f + g) + 1 by omega]
    refine ⟨fun h0 => absurd h0 h.1, fun i hi => ?_⟩
    obtain ⟨_, o, V, h1, h2, h3⟩ := h.2 i hi
    exact h2.op h1 hw (fun v I' hv w' hw' => HeadI.any hL f _ _ I' w' hw' (h3 v I' hv).2)
theorem HeadI.mono {n : Nat} {C C' : (World → Prop) → Prop} {L : Array Bool → Act → (World → Prop) → Prop} (hC : ∀ I, C' I → C I) : ∀ {f : Nat} {listed : Array Bool} {a : Act} {I : World → Prop}, HeadI P md ops C' n L f listed a I → HeadI P md ops C n L f listed a I
  | 0, _, _, _, h => h
  | f + 1, _, _, _, h => ⟨h.1, fun i hi => by
      obtain ⟨h0, o, V, h1, h2, h3⟩ := h.2 i hi
      exact ⟨h0, o, V, h1, h2, fun v I' hv => ⟨hC _ (h3 v I' hv).1, HeadI.mono hC (h3 v I' hv).2⟩⟩⟩
theorem HeadI.first {n i : Nat} {oi : Oper} {v : Value} {C : (World → Prop) → Prop} {L : Array Bool → Act → (World → Prop) → Prop} (hi : ops[i]? = some oi) (hsel : ∀ (j : Nat) (o : Oper) cs b, ops[j]? = some o → o.op ≠ .select cs b)
    (hs : Region.sinkB md ops n = true) (hc : Region.chainB md ops n = true) (hn : n < ops.size) (hin : i < n) (hdone : ∀ listed a I, L listed a I → ∀ j ∈ Region.ready md ops listed, n ≤ j) :
    ∀ (f : Nat) (listed : Array Bool) (a : Act) (I : World → Prop), C I → HeadInv md ops n listed →
      (∀ j oj, ops[j]? = some oj → j ≠ i → listed.getD j true = false → (∀ e ∈ oj.after, Region.binds md e = true → e.on ≠ i) → oi.apart ops oj = true) →
      i ∈ Region.ready md ops listed → SmallOp P ops C oi v a → HeadI P md ops C n L f (listed.setIfInBounds i true) (a.put oi.dst v) I → HeadI P md ops C n L (f + 1) listed a I := by
  intro f
  induction f with
  | zero =>
    intro listed a I hI inv _ hr hy H
    have hun := (mem_ready.1 hr).1
    refine ⟨fun h => (by rw [h] at hr; cases hr), fun j hj => ?_⟩
    have hjn : j < n := by
      rcases Nat.lt_or_ge j n with h | h
      · exact h
      · exact absurd hj (tail_waits hs hc hn inv _ i rfl hin hun j h)
    refine ⟨hjn, ?_⟩
    by_cases hji : j = i
    · subst hji
      refine ⟨oi, _, hi, hy.step hI, ?_⟩
      rintro v' I' ⟨rfl, rfl⟩
      exact ⟨hI, H⟩
    · have := hdone _ _ _ H j (ready_mono hj hji)
      omega
  | succ f ih =>
    intro listed a I hI inv hfree hr hy H
    have hun := (mem_ready.1 hr).1
    refine ⟨fun h => (by rw [h] at hr; cases hr), fun j hj => ?_⟩
    have hjn : j < n := by
      rcases Nat.lt_or_ge j n with h | h
      · exact h
      · exact absurd hj (tail_waits hs hc hn inv _ i rfl hin hun j h)
    refine ⟨hjn, ?_⟩
    by_cases hji : j = i
    · subst hji
      refine ⟨oi, _, hi, hy.step hI, ?_⟩
      rintro v' I' ⟨rfl, rfl⟩
      exact ⟨hI, H⟩
    · obtain ⟨_, oj, V, hoj, hyj, Hj⟩ := H.2 j (ready_mono hj hji)
      obtain ⟨hjun, oj', hoj', hall⟩ := mem_ready.1 hj
      obtain rfl : oj' = oj := by rw [hoj] at hoj'; exact (Option.some.inj hoj').symm
      have hnot : ∀ e ∈ oj'.after, Region.binds md e = true → e.on ≠ i := fun e he hb heq => by
        have h1 := hall e he hb
        rw [heq, getD_both hun] at h1
        cases h1
      obtain ⟨h1, h2, h3⟩ := Oper.apart_spec (hfree j oj' hoj hji hjun hnot)
      have hyj' : StepTo P ops I oj' V a := hyj.same (execOp_put oj' (fun cs b => hsel j oj' cs b hoj) a oi.dst v h1).symm (wanted_put oj' a oi.dst v h1).symm
      refine ⟨oj', V, hoj, hyj', fun u I' hu => ⟨(Hj u I' hu).1, ?_⟩⟩
      have hyi' : SmallOp P ops C oi v (a.put oj'.dst u) := hy.same (execOp_put oi (fun cs b => hsel i oi cs b hi) a oj'.dst u h3) (wanted_put oi a oj'.dst u h3)
      refine ih _ _ I' (Hj u I' hu).1 (inv.set hj hjn) (fun k ok hk hki hun hno => ?_) (ready_mono hr (Ne.symm hji)) hyi' ?_
      · refine hfree k ok hk hki ?_ hno
        by_cases hjk : j = k
        · subst hjk; exact hjun
        · rw [getD_set_ne true hjk] at hun; exact hun
      · rw [Array.setIfInBounds_comm _ _ hji, ← Act.put_comm a v u h2]
        exact (Hj u I' hu).2
def scriptTB (md : Region.Mode) (ops : Array Oper) (g n : Nat) : List (Nat × Bool) → Array Bool → Bool
  | [], listed => Region.seqB md ops g n listed
  | (i, false) :: rest, listed => decide (i < n) && ((Region.ready md ops listed).contains i && Region.free md ops listed i && scriptTB md ops g n rest (listed.setIfInBounds i true))
  | (i, true) :: rest, listed => decide (i < n) && (decide (Region.ready md ops listed = [i]) && scriptTB md ops g n rest (listed.setIfInBounds i true))
theorem Script.head {Q : Act → World → Prop} {g n : Nat} (hsel : Region.noSelect ops = true) (hs : Region.sinkB md ops n = true) (hc : Region.chainB md ops n = true) (hn : n < ops.size) :
    ∀ (l : List (Nat × Bool)) (C : (World → Prop) → Prop) (listed : Array Bool) (a : Act) (I : World → Prop), C I → HeadInv md ops n listed → scriptTB md ops g n l listed = true → Script P ops Q l C a I →
      HeadI P md ops C n (fun listed' a' I' => Region.seqB md ops g n listed' = true ∧ ∀ w, I' w → Q a' w) l.length listed a I
  | [], _, _, _, _, _, _, hB, h => ⟨hB, h⟩
  | (i, false) :: l, C, listed, a, I, hC, inv, hB, ⟨o, v, h0, hy, h⟩ => by
    simp only [scriptTB, Bool.and_eq_true, decide_eq_true_eq] at hB
    obtain ⟨hin, ⟨hr, hf⟩, hB'⟩ := hB
    have hr' : i ∈ Region.ready md ops listed := by simpa using hr
    exact HeadI.first h0 (Region.noSelect_spec hsel) hs hc hn hin (fun listed' a' I' hL => seqB_ready hL.1) l.length listed a I hC inv (Region.free_spec h0 hf) hr' hy (Script.head hsel hs hc hn l C _ _ I hC (inv.set hr' hin) hB' h)
  | (i, true) :: l, C, listed, a, I, hC, inv, hB, ⟨o, V, h0, hy, h⟩ => by
    simp only [scriptTB, Bool.and_eq_true, decide_eq_true_eq] at hB
    obtain ⟨hin, hr, hB'⟩ := hB
    have hr' : i ∈ Region.ready md ops listed := by rw [hr]; simp
    refine ⟨fun h => (by rw [hr] at h; cases h), fun j hj => ?_⟩
    rw [hr] at hj
    obtain rfl : j = i := by simpa using hj
    refine ⟨hin, o, V, h0, hy, fun v I' hv => ?_⟩
    obtain ⟨C', h1, h2, h3⟩ := h v I' hv
    exact ⟨h1 _ h2, HeadI.mono h1 (Script.head hsel hs hc hn l C' _ _ I' h2 (inv.set hr' hin) hB' h3)⟩
/-- A REGION THAT DRAWS: its first n operations by a script, the others stand in one order. -/
theorem wp_script_tail {id : Nat} {Q : Exit → Act → World → Prop} {a : Act} {w : World} {l : List Oper} (n : Nat) (s : List (Nat × Bool)) (C : (World → Prop) → Prop) (I : World → Prop) (hm : P.follows .mixedOrders = true) (hl : s.length = n) (hs : Region.noSelect l.toArray = true)
    (hB : (decide (n < l.length) && Region.sinkB .any l.toArray n && Region.chainB .any l.toArray n && scriptTB .any l.toArray (l.length - n) n s (Array.replicate l.toArray.size false)) = true) (h0 : I w.drew) (hC : C I)
    (h : Script P l.toArray (fun a w => wpList P l.toArray Q (l.drop n) a w) s C a I) : (Code.region id l.toArray true).wp P Q a w := by
  simp only [Bool.and_eq_true, decide_eq_true_eq] at hB
  obtain ⟨⟨⟨hn, hsk⟩, hc⟩, hB⟩ := hB
  have hn' : n < l.toArray.size := by simpa using hn
  have hdl : (l.drop n).length = l.length - n := by simp
  have inv0 : HeadInv .any l.toArray n (Array.replicate l.toArray.size false) :=
    ⟨by simp, fun j oj _ hl => (by rw [getD_replicate_false] at hl; cases hl), fun t _ ht => getD_in (by simpa using ht) (getD_replicate_false _ _)⟩
  have H := Script.head (P := P) (md := .any) (g := l.length - n) hs hsk hc hn' s C _ a I hC inv0 hB h
  refine wp_region_any hm ?_
  have := HeadI.any (Q' := Q) (g := l.length - n) (fun listed a' I' w' hL hw' => by
    have := wpAny_of_seq (P := P) (md := .any) (Q' := Q) (l.drop n) n listed a' w' (fun j => by simp [List.getElem?_drop]) (by rw [hdl]; exact hL.1) (hL.2 w' hw')
    rwa [hdl] at this) _ _ _ _ _ h0 H
  rw [hl, show n + (l.length - n) = l.toArray.size by simp; omega] at this
  exact this
end
end Go.Proofs.YtiglgfonhdfpmaaGreat

/- An operator's panes, states and outs, as plain data; what a step does. Plain laws, no program in sight. -/
set_option linter.unusedVariables false
set_option linter.unusedSimpArgs false
namespace Go.Proofs.YtiglgfonhdfpmaaGreat

structure Pn where
  w : Wd
  g : Ag
  round : Int
structure Stt where
  mark : Int
  panes : List Pn
structure Ot where
  late : Bool
  item : Itm
  w : Wd
  round : Int
  value : List Int
def itm00 : Itm := ⟨0, [], 0, 0⟩
def wd000 : Wd := ⟨[], 0, 0⟩
def Wd.ripe (x : Wd) (mark : Int) : Bool := x.right && decide (x.to ≤ mark)
def Wd.gone (q : Qry) (x : Wd) (mark : Int) : Bool := x.right && q.right && decide (x.to + q.late ≤ mark)
def Wd.has (x : Wd) (t : Int) : Bool := x.right && decide (x.frm ≤ t) && decide (t < x.to)
/-- By To, From, Key. -/
def Wd.cmp (a b : Wd) : Int := if Lib.compareInt a.to b.to ≠ 0 then Lib.compareInt a.to b.to else if Lib.compareInt a.frm b.frm ≠ 0 then Lib.compareInt a.frm b.frm else Lib.compareBytes a.key b.key
/-- The windows of a sliding query that a time is in: their numbers run up to t / step. -/
def slideWs (q : Qry) (key : List UInt8) (t : Int) : List Wd := ((List.range ((t / q.slide).toNat + 1)).filter fun (k : Nat) => decide (t < (k : Int) * q.slide + q.size)).map fun (k : Nat) => ⟨key, (k : Int) * q.slide, (k : Int) * q.slide + q.size⟩
def winsOf (q : Qry) (key : List UInt8) (t : Int) : List Wd :=
  if q.right = true ∧ nameB key = true ∧ 0 ≤ t ∧ t ≤ 1099511627776 then
    (if q.kind = 3 then [⟨key, t, t + q.size⟩] else if q.kind = 2 then slideWs q key t else [⟨key, t - t % q.size, t - t % q.size + q.size⟩])
  else []
def fitsM (q : Qry) (x : Wd) : Bool := if q.kind = 3 then x.right && decide (q.size ≤ x.to - x.frm) else (winsOf q x.key x.frm).contains x
def Pn.ok (q : Qry) (mark : Int) (p : Pn) : Bool :=
  fitsM q p.w && !p.w.gone q mark && decide (0 ≤ p.round) && decide (p.round ≤ 1073741824) && p.g.right q && decide (0 < p.g.n) && (decide (0 < p.round) == p.w.ripe mark)
def sortedP : List Pn → Bool
  | [] => true
  | [_] => true
  | a :: b :: r => decide (a.w.place b.w < 0) && sortedP (b :: r)
def settledW : List Wd → Bool
  | [] => true
  | [x] => x.right
  | a :: b :: r => a.right && decide (a.place b < 0) && !a.joins b && settledW (b :: r)
def Stt.right (q : Qry) (s : Stt) : Bool :=
  q.right && decide (-1 ≤ s.mark) && decide (s.mark ≤ 1099511627776) && decide (s.panes.length ≤ 256) && s.panes.all (·.ok q s.mark) && sortedP s.panes && (decide (q.kind ≠ 3) || settledW (s.panes.map (·.w)))

end Go.Proofs.YtiglgfonhdfpmaaGreat
