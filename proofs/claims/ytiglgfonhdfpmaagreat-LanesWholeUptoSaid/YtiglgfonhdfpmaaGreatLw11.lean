import Derived.Test.YtiglgfonhdfpmaaGreatLw1
import Derived.Test.YtiglgfonhdfpmaaGreatLw2
import Derived.Test.YtiglgfonhdfpmaaGreatLw3
import Derived.Test.YtiglgfonhdfpmaaGreatLw4
import Derived.Test.YtiglgfonhdfpmaaGreatLw10
import Derived.Deep.CutBlock
import Derived.Lib.ItoaNum
import Derived.Lib.AtoiAll
import Derived.Lib.Split
import Derived.Lib.SplitLaws
import Derived.Lib.IndexLaws
import Derived.Lib.CountLaws
/- The stepper's session. Conditions: the state is right, the item a right event. (Printed by a program of mine.) -/
set_option linter.unusedVariables false
set_option linter.unusedSimpArgs false
namespace Go.Proofs.YtiglgfonhdfpmaaGreat
open Go.RowKit

theorem right_parts {q : Qry} {s : Stt} (h : s.right q = true) : q.right = true ∧ (-1 ≤ s.mark ∧ s.mark ≤ 1099511627776) ∧ s.panes.length ≤ 256 ∧ (∀ p ∈ s.panes, p.ok q s.mark = true) ∧ Ord s.panes ∧ (q.kind = 3 → settledW (s.panes.map (·.w)) = true) := by
  rw [sright_eq] at h
  simp only [Bool.and_eq_true, Bool.or_eq_true, decide_eq_true_eq] at h
  obtain ⟨⟨⟨⟨⟨⟨h1, h2⟩, h3⟩, h4⟩, h5⟩, h6⟩, h7⟩ := h
  exact ⟨h1, ⟨h2, h3⟩, h4, fun p hp => List.all_eq_true.1 h5 p hp, ord_iff.1 h6, fun hk => h7.elim (fun h => absurd hk h) id⟩
theorem fits_wd {q : Qry} {x : Wd} (h : fitsM q x = true) : x.right = true := by
  unfold fitsM at h
  split at h
  · simp only [Bool.and_eq_true] at h
    exact h.1
  · rw [List.contains_iff_mem] at h
    exact (wins_right x h).1
theorem ok_parts {q : Qry} {mk : Int} {p : Pn} (h : p.ok q mk = true) : fitsM q p.w = true ∧ p.w.right = true ∧ p.w.gone q mk = false ∧ (0 ≤ p.round ∧ p.round ≤ 1073741824) ∧ p.g.right q = true ∧ 0 < p.g.n ∧ (0 < p.round ↔ p.w.ripe mk = true) := by
  rw [ok_eq] at h
  simp only [Bool.and_eq_true, decide_eq_true_eq, Bool.not_eq_true', beq_iff_eq] at h
  obtain ⟨⟨⟨⟨⟨⟨h1, h2⟩, h3⟩, h4⟩, h5⟩, h6⟩, h7⟩ := h
  exact ⟨h1, fits_wd h1, h2, ⟨h3, h4⟩, h5, h6, by rw [← h7]; simp⟩
theorem gath_right {q : Qry} {x : Wd} {old : Wd → Bool} : ∀ {l : List Pn} {s r : Ag × Int}, (∀ p ∈ l, p.g.right q = true ∧ 0 ≤ p.round ∧ p.round ≤ 1073741824) → s.1.right q = true → (0 ≤ s.2 ∧ s.2 ≤ 1073741824) → gathM q x old l s = some r → r.1.right q = true ∧ 0 ≤ r.2 ∧ r.2 ≤ 1073741824
  | [], s, r, _, h1, h2, h => by
    obtain rfl : s = r := by simpa [gathM] using h
    exact ⟨h1, h2⟩
  | p :: l, s, r, hl, h1, h2, h => by
    have hp := hl p (by simp)
    have hl2 := fun y hy => hl y (List.mem_cons_of_mem _ hy)
    unfold gathM at h
    split at h
    · cases hm : mergeM q s.1 p.g with
      | none => rw [hm] at h; cases h
      | some g =>
        rw [hm] at h
        refine gath_right (s := (g, if p.w = x then p.round else s.2)) hl2 (merge_right h1 hp.1 hm) ?_ h
        simp only
        split
        · exact hp.2
        · exact h2
    · exact gath_right hl2 h1 h2 h
theorem with_set (l : List Pn) (p p' : Pn) (h : p'.w = p.w) : (withP l p).set (placeP l p.w) p' = withP l p' := by
  unfold withP
  rw [h]
  have hk := placeP_le l p.w
  have e : (l.take (placeP l p.w)).length = placeP l p.w := by rw [List.length_take]; omega
  rw [List.set_append_right _ _ (by omega), e, Nat.sub_self, List.set_cons_zero]
theorem with_at (l : List Pn) (p : Pn) : (withP l p)[placeP l p.w]? = some p := by
  unfold withP
  have hk := placeP_le l p.w
  have e : (l.take (placeP l p.w)).length = placeP l p.w := by rw [List.length_take]; omega
  rw [List.getElem?_append_right (by omega), e, Nat.sub_self]
  rfl
theorem put_w {q : Qry} {mk : Int} {x : Wd} {g : Ag} {r v : Int} {y : Pn × List Ot} (h : putM q mk x g r v = some y) : y.1.w = x := by
  unfold putM at h
  split at h
  · cases h
  · split at h
    · split at h
      · cases h
      · cases h; rfl
    · cases h; rfl
/-- Which places give way. -/
theorem idx_gave (x : Wd) : ∀ (l : List Pn), IdxOf l (takeF (l.map (·.w)) x).gave (l.filter fun p => p.w.joins x) := by
  refine snoc_ind ⟨rfl, fun j p h => by simp at h⟩ (fun l p ih => ?_)
  rw [List.map_append, List.map_cons, List.map_nil, takeF_snoc, List.filter_append]
  have hn := takeF_n (l.map (·.w)) x
  rw [List.length_map] at hn
  have hgrow : ∀ (j : Nat) y, (l.filter fun p => p.w.joins x)[j]? = some y → ∃ n : Nat, (takeF (l.map (·.w)) x).gave[j]? = some (n : Int) ∧ (l ++ [p])[n]? = some y := fun j y hy => by
    obtain ⟨n, h1, h2⟩ := ih.2 j y hy
    exact ⟨n, h1, by rw [List.getElem?_append_left (List.getElem?_eq_some_iff.1 h2).1]; exact h2⟩
  by_cases hj : p.w.joins x = true
  · unfold takeStep
    rw [if_pos hj]
    simp only [List.filter_cons, hj, if_true, List.filter_nil]
    refine ⟨by simp [ih.1], fun j y hy => ?_⟩
    by_cases hlt : j < (l.filter fun p => p.w.joins x).length
    · rw [List.getElem?_append_left hlt] at hy
      obtain ⟨n, h1, h2⟩ := hgrow j y hy
      exact ⟨n, by rw [List.getElem?_append_left (List.getElem?_eq_some_iff.1 h1).1]; exact h1, h2⟩
    · have hje : j = (l.filter fun p => p.w.joins x).length := by
        have := (List.getElem?_eq_some_iff.1 hy).1
        simp at this
        omega
      subst hje
      rw [List.getElem?_append_right (Nat.le_refl _), Nat.sub_self] at hy
      obtain rfl : p = y := by simpa using hy
      refine ⟨l.length, ?_, by simp⟩
      rw [← ih.1, List.getElem?_append_right (Nat.le_refl _), Nat.sub_self, hn]
      rfl
  · unfold takeStep
    rw [if_neg hj]
    have : p.w.joins x = false := by simpa using hj
    simp only [List.filter_cons, this, Bool.false_eq_true, if_false, List.filter_nil, List.append_nil]
    exact ⟨ih.1, hgrow⟩
/-- What a session's event leads to. -/
def SessOk (t : Nat) (q : Qry) (mk : Int) (l : List Pn) (o : List Ot) (own : Wd) (v : Int) (S : Nat → Prop) (w : World) (e : Ending) (w' : World) : Prop :=
  if (becOf (l.map (·.w)) own).gone q mk = true then e = .returned (.tuple #[.bool false, .int .i64 0]) ∧ St S w w' [Stp t q mk l o]
  else match layM q mk (becOf (l.map (·.w)) own) (fun y => y.joins own) v l with
    | none => e = .returned (.tuple #[.bool true, .int .i64 20]) ∧ St S w w' []
    | some y => e = .returned (.tuple #[.bool true, .int .i64 0]) ∧ St S w w' [Stp t q mk y.1 (o ++ y.2)]

set_option maxHeartbeats 8000000 in
set_option maxRecDepth 100000 in
theorem step_session {t : Nat} {q : Qry} {mk : Int} {l : List Pn} {o : List Ot} {key : List UInt8} {tm v : Int} {w : World} {S : Nat → Prop} (hs : Stt.right q ⟨mk, l⟩ = true) (hk3 : q.kind = 3) (hkey : nameB key = true) (htm : 0 ≤ tm ∧ tm ≤ 1099511627776) (hv : valB v = true) (hol : o.length ≤ 1073741824)
    (H0 : Sep w [Stp t q mk l o] S) :
    Calls Tryz.prog 137 #[.pointer (some ⟨t, 0, none⟩), itmV ⟨1, key, tm, v⟩] w fun e w' => SessOk t q mk l o ⟨key, tm, tm + q.size⟩ v S w e w' := by
  obtain ⟨hq, hmk, hlen, hall, hord, hset⟩ := right_parts hs
  simp only at hmk hlen hall hord hset
  have hset := hset hk3
  have hown := (wd_made (q := q) (key := key) hq hkey htm.2 (u := tm) (by omega)).1
  have hofs : winsOf q key tm = [⟨key, tm, tm + q.size⟩] := by
    unfold winsOf
    rw [if_pos ⟨hq, hkey, htm⟩, if_pos hk3]
  have hkl : key.length ≤ 9223372036854775807 := (fits_right hown).1
  have hwf : ∀ y ∈ l.map (·.w), y.fits := fun y hy => by
    obtain ⟨p, hp, rfl⟩ := List.mem_map.1 hy
    exact fits_right (ok_parts (hall p hp)).2.1
  have hgr : ∀ p ∈ l, p.g.right q = true := fun p hp => (ok_parts (hall p hp)).2.2.2.2.1
  have hlf : ∀ p ∈ l, p.w.fits := fun p hp => fits_right (ok_parts (hall p hp)).2.1
  have hstl : stl (l.map (·.w)) = true := by rw [settledW_stl]; exact hset
  have hbr := (bec_law hown (l.map (·.w))).1
  have hidx := idx_gave ⟨key, tm, tm + q.size⟩ l
  have hsame : ∀ p ∈ l, p.w.joins (becOf (l.map (·.w)) ⟨key, tm, tm + q.size⟩) = p.w.joins ⟨key, tm, tm + q.size⟩ := fun p hp => by
    have hpm : p.w ∈ l.map (·.w) := List.mem_map.2 ⟨p, hp, rfl⟩
    cases hj : p.w.joins ⟨key, tm, tm + q.size⟩ with
    | false => exact out_bec (stl_true.1 hstl) hown p.w (List.mem_filter.2 ⟨hpm, by rw [hj]; rfl⟩)
    | true =>
      obtain ⟨b1, b2⟩ := bec_wide (l := l.map (·.w)) (x := ⟨key, tm, tm + q.size⟩) p.w hpm hj
      obtain ⟨j1, j2, j3, j4, j5⟩ := joins_iff.1 hj
      obtain ⟨-, c2, c3, c4⟩ := bec_law hown (l.map (·.w))
      obtain ⟨-, -, -, r4, -⟩ := right_iff.1 j1
      obtain ⟨-, -, -, r5, -⟩ := right_iff.1 hbr
      exact joins_iff.2 ⟨j1, hbr, by rw [j3, c2], by omega, by omega⟩
  have hfil : (l.filter fun p => !p.w.joins (becOf (l.map (·.w)) ⟨key, tm, tm + q.size⟩)) = l.filter fun p => !p.w.joins ⟨key, tm, tm + q.size⟩ := List.filter_congr fun p hp => by rw [hsame p hp]
  have kw := fun w' => wins_of q key tm w' hkl
  simp only [hofs, List.length_singleton] at kw
  have kt := Lib.hid (fun w' hw (h : WdsRO w' hw (l.map (·.w))) => sess_take w' h (by rw [List.length_map]; omega) (fits_right hown) hstl hown)
  have kg := fun w' => wd_gone q (becOf (l.map (·.w)) ⟨key, tm, tm + q.size⟩) (fits_right hbr) mk w'
  have kj := Lib.hid (fun w' S' vg (h : Sep w' [Stp t q mk l o, Row 3 1 vg (takeF (l.map (·.w)) ⟨key, tm, tm + q.size⟩).gave.length (intCells (takeF (l.map (·.w)) ⟨key, tm, tm + q.size⟩).gave)] S') => step_join (x := becOf (l.map (·.w)) ⟨key, tm, tm + q.size⟩) hq hord (by omega) hgr hlf (fits_right hbr) hidx (Nat.le_trans (List.length_filter_le _ _) (by omega)) h)
  have hzr := zero_right hq
  have hgath := Lib.hid (fun (r : Ag × Int) (h : gathM q (becOf (l.map (·.w)) ⟨key, tm, tm + q.size⟩) allW (l.filter fun p => p.w.joins ⟨key, tm, tm + q.size⟩) (Ag.zero, 0) = some r) => gath_right (fun p hp => by
    have hpl := (List.mem_filter.1 hp).1
    have := ok_parts (hall p hpl)
    exact ⟨this.2.2.2.2.1, this.2.2.2.1.1, this.2.2.2.1.2⟩) hzr ⟨by decide, by decide⟩ h)
  have hlay : layM q mk (becOf (l.map (·.w)) ⟨key, tm, tm + q.size⟩) (fun y => y.joins ⟨key, tm, tm + q.size⟩) v l = match gathM q (becOf (l.map (·.w)) ⟨key, tm, tm + q.size⟩) allW (l.filter fun p => p.w.joins ⟨key, tm, tm + q.size⟩) (Ag.zero, 0) with
      | none => none
      | some s => match putM q mk (becOf (l.map (·.w)) ⟨key, tm, tm + q.size⟩) s.1 s.2 v with
        | none => none
        | some y => some (withP (l.filter fun p => !p.w.joins ⟨key, tm, tm + q.size⟩) y.1, y.2) := by
    unfold layM
    rw [gath_filter]
    rfl
  have hjl : ∀ y : Ag × Int, (withP (l.filter fun p => !p.w.joins ⟨key, tm, tm + q.size⟩) ⟨becOf (l.map (·.w)) ⟨key, tm, tm + q.size⟩, y.1, y.2⟩).length ≤ 1073741824 := fun y => by
    unfold withP
    have := List.length_filter_le (fun p : Pn => !p.w.joins ⟨key, tm, tm + q.size⟩) l
    simp only [List.length_append, List.length_take, List.length_cons, List.length_drop]
    omega
  have kp := Lib.hid (fun w' S' (y : Ag × Int) (hy : y.1.right q = true ∧ 0 ≤ y.2 ∧ y.2 ≤ 1073741824) (h : Sep w' [Stp t q mk (withP (l.filter fun p => !p.w.joins ⟨key, tm, tm + q.size⟩) ⟨becOf (l.map (·.w)) ⟨key, tm, tm + q.size⟩, y.1, y.2⟩) o] S') => step_put (v := v) (with_at (l.filter fun p => !p.w.joins ⟨key, tm, tm + q.size⟩) ⟨becOf (l.map (·.w)) ⟨key, tm, tm + q.size⟩, y.1, y.2⟩) hy.1 hy.2 (fits_right hbr) hv hol (hjl y) h)
  have hfin : ∀ e w', (if (becOf (l.map (·.w)) ⟨key, tm, tm + q.size⟩).gone q mk = true then e = .returned (.tuple #[.bool false, .int .i64 0]) ∧ St S w w' [Stp t q mk l o]
  else match layM q mk (becOf (l.map (·.w)) ⟨key, tm, tm + q.size⟩) (fun y => y.joins ⟨key, tm, tm + q.size⟩) v l with
    | none => e = .returned (.tuple #[.bool true, .int .i64 20]) ∧ St S w w' []
    | some y => e = .returned (.tuple #[.bool true, .int .i64 0]) ∧ St S w w' [Stp t q mk y.1 (o ++ y.2)]) → SessOk t q mk l o ⟨key, tm, tm + q.size⟩ v S w e w' := fun e w' h => h
  rw [hlay] at hfin
  rw [← hfil] at hfin kp
  clear hlay hfil hsame hjl hidx
  obtain ⟨B, hB⟩ : ∃ z, becOf (l.map (·.w)) ⟨key, tm, tm + q.size⟩ = z := ⟨_, rfl⟩
  obtain ⟨G, hG⟩ : ∃ z, (takeF (l.map (·.w)) ⟨key, tm, tm + q.size⟩).gave = z := ⟨_, rfl⟩
  obtain ⟨K, hK⟩ : ∃ z, tookW (l.map (·.w)) ⟨key, tm, tm + q.size⟩ = z := ⟨_, rfl⟩
  obtain ⟨PS, hPS⟩ : ∃ z, (l.filter fun p => p.w.joins ⟨key, tm, tm + q.size⟩) = z := ⟨_, rfl⟩
  simp only [hB, hG, hK, hPS] at kt kg kj kp hgath hfin
  rw [hB] at hbr
  clear hB hG hK hPS
  obtain ⟨L2, hL2⟩ : ∃ z, (l.filter fun p => !p.w.joins B) = z := ⟨_, rfl⟩
  unfold JoinOk at kj
  simp only [hL2] at kj kp hfin
  have hwset := Lib.hid (fun (a b : Ag) (r : Int) (y : Pn × List Ot) (v : Int) (h : putM q mk B a r v = some y) => with_set L2 ⟨B, a, r⟩ y.1 (put_w h))
  simp only at hwset
  clear hL2
  obtain ⟨GA, hGA⟩ : ∃ z, gathM q B allW PS (Ag.zero, 0) = z := ⟨_, rfl⟩
  simp only [hGA] at kj hgath hfin
  clear hGA
  have hfinh := Lib.hid hfin
  obtain ⟨gn, hgn⟩ : ∃ z, B.gone q mk = z := ⟨_, rfl⟩
  simp only [hgn] at kg
  have hgnh := Lib.hid hgn
  clear hfin hgn
  obtain ⟨fin, hfn⟩ : ∃ f : Ending → World → Prop, (fun e w' => SessOk t q mk l o ⟨key, tm, tm + q.size⟩ v S w e w') = f := ⟨_, rfl⟩
  have hfnh := Lib.hid (fun e w' => congrFun (congrFun hfn e) w')
  rw [hfn]
  clear hfn hs hq hord hset hstl hgr hlf hown hofs
  obtain ⟨pv, ov, ms, os, H, hml, hol2, hmo, hoo, H1⟩ := Stp.open (St.refl H0)
  clear H0
  have hmlh := Lib.hid hml
  have hmsl : ms.length = l.length := by rw [← hml, List.length_map]
  have hmw : ms.map (·.p.w) = l.map (·.w) := by rw [← hml, List.map_map]; rfl
  have hmsb : ms.length ≤ 256 := by omega
  have hol2h := Lib.hid hol2
  have hmoh := Lib.hid hmo
  have hooh := Lib.hid hoo
  have kwin := fun w' (h : encP.RO w' pv ms) => oper_windows h (by omega)
  rw [hmw] at kwin
  have hwfh := Lib.hid hwf
  clear hml hol2 hmo hoo hwf hmw hmsl
  obtain ⟨W, hW⟩ : ∃ z, l.map (·.w) = z := ⟨_, rfl⟩
  simp only [hW] at kt kwin hwfh
  clear hW
  obtain ⟨qq, hqq⟩ : ∃ z, z = q := ⟨_, rfl⟩
  have hqqh := Lib.hid hqq
  rw [← hqq] at kj kp hgath hfinh hwset hgnh hfnh
  clear hqq
  obtain ⟨kd, sz, sl, lt, ag, kk⟩ := q
  simp only at hk3 kt kw kg H1
  subst hk3
  obtain ⟨te, hte⟩ : ∃ z, tm + sz = z := ⟨_, rfl⟩
  simp only [hte] at kt kw
  clear hte
  have hBh : ∃ z, z = B := ⟨_, rfl⟩
  obtain ⟨BW, hBW⟩ := hBh
  have hBWh := Lib.hid hBW
  rw [← hBW] at kj kp hfinh hwset hgnh
  have hwseth := Lib.hid hwset
  clear hBW hwset hall hset hzr hlen hkey
  obtain ⟨bk, bf, bt⟩ := B
  have htt : -9223372036854775808 ≤ tm ∧ tm ≤ 9223372036854775807 := by omega
  unfold qyV qyC textV at kw
  unfold qyV qyC wdV wdC textV at kg
  unfold wdV wdC textV at kt
  unfold stC at H1
  unfold itmV textV
  simp only at kw kg kt H1 ⊢
  have H2 : St S w _ (_ :: _) := H1.allocAt rfl #[.int .i64 1, .string ⟨key.toArray⟩, .int .i64 tm, .int .i64 v] 56
  obtain ⟨ib, hib⟩ : ∃ b, w.heap.size = b := ⟨_, rfl⟩
  obtain ⟨w1, hw1⟩ : ∃ w1, w.alloc (.cells #[.int .i64 1, .string ⟨key.toArray⟩, .int .i64 tm, .int .i64 v] 56) = w1 := ⟨_, rfl⟩
  go_enter Tryz.func137, Tryz.ntmps137
  go_upto_region 1 with (fail)
  rw [hw1, hib] at H2
  try rw [hw1]
  try simp only [hib]
  have H3 : St S w w1 [Blk ib #[.int .i64 1, .string ⟨key.toArray⟩, .int .i64 tm, .int .i64 v] 56, Blk t #[.int .i64 3, .int .i64 sz, .int .i64 sl, .int .i64 lt, .int .i64 ag, .int .i64 kk, .int .i64 mk, pv, ov] 137, Row 68 8 pv ms.length (encP.all ms), Row 63 10 ov os.length (encO.all os), Pool H] := H2
  have hibh := Lib.hid hib
  clear hw1 hib H1 H2
  go_cut [6] from 12 to 22 (fun p6 wx => ∃ (ob : Nat), p6 = .pointer (some ⟨ob, 0, none⟩) ∧ St S w wx [Blk ob #[.string ⟨key.toArray⟩, .int .i64 tm, .int .i64 te] 61, Blk ib #[.int .i64 1, .string ⟨key.toArray⟩, .int .i64 tm, .int .i64 v] 56, Blk t #[.int .i64 3, .int .i64 sz, .int .i64 sl, .int .i64 lt, .int .i64 ag, .int .i64 kk, .int .i64 mk, pv, ov] 137, Row 68 8 pv ms.length (encP.all ms), Row 63 10 ov os.length (encO.all os), Pool H])
  case first =>
    refine wp_plan (.small 0 (.small 1 (.small 2 (.small 3 (.small 4 (.small 5 (.small 6 (.small 7 (.fork 8 11 (.small 9 (.small 10 (.alone 11 (.alone 12 .nil)))) (.alone 8 (.small 9 (.small 10 (.alone 12 .nil))))))))))))) (Fam fun w' => St S w w' [Blk ib #[.int .i64 1, .string ⟨key.toArray⟩, .int .i64 tm, .int .i64 v] 56, Blk t #[.int .i64 3, .int .i64 sz, .int .i64 sl, .int .i64 lt, .int .i64 ag, .int .i64 kk, .int .i64 mk, pv, ov] 137]) (fun w' => St S w w' [Blk ib #[.int .i64 1, .string ⟨key.toArray⟩, .int .i64 tm, .int .i64 v] 56, Blk t #[.int .i64 3, .int .i64 sz, .int .i64 sl, .int .i64 lt, .int .i64 ag, .int .i64 kk, .int .i64 mk, pv, ov] 137, Row 68 8 pv ms.length (encP.all ms), Row 63 10 ov os.length (encO.all os), Pool H]) (by kernel_rfl) (by rfl) (by kernel_rfl) (by kernel_rfl) H3.drew (Fam.st (fun _ h => h.pick [0, 1])) ?_
    iterate 8 first
      | (apply plan_pass
         · rfl
         · rfl
         intro K hK
         go_simp
         refine hK _ ?_
         clear hK K)
      | (apply plan_step
         · rfl
         · rfl
         · intro I hI w1 h1'
           have h1 := hI.2 _ h1'
           have i1 := h1.cell 0 1 rfl rfl
           have i2 := h1.cell 0 2 rfl rfl
           have d0 := h1.cell 1 0 rfl rfl
           have d1 := h1.cell 1 1 rfl rfl
           have d2 := h1.cell 1 2 rfl rfl
           have d3 := h1.cell 1 3 rfl rfl
           have d4 := h1.cell 1 4 rfl rfl
           have d5 := h1.cell 1 5 rfl rfl
           first
             | (go_simp
                first
                  | rfl
                  | exact ⟨rfl, h1'⟩
               )
         intro K hK
         go_simp
         refine hK _ ?_
         clear hK K)
    refine plan_two rfl rfl rfl rfl ?_ ?_
    · skip
      intro V hV w1 h1
      go_simp
      refine (kw w1).mono ?_
      rintro e w2 ⟨hw0, rfl, G1⟩
      obtain ⟨gw, cw, rfl⟩ := row_form (N := 1) (G1.row 0 rfl) rfl (by decide)
      have H5 : St S w w2 [Row 61 3 (.slice (some ⟨gw, 0, none⟩) 1 cw) 1 (wds [⟨key, tm, te⟩]), Blk ib #[.int .i64 1, .string ⟨key.toArray⟩, .int .i64 tm, .int .i64 v] 56, Blk t #[.int .i64 3, .int .i64 sz, .int .i64 sl, .int .i64 lt, .int .i64 ag, .int .i64 kk, .int .i64 mk, pv, ov] 137, Row 68 8 pv ms.length (encP.all ms), Row 63 10 ov os.length (encO.all os), Pool H] := h1.call0 G1
      refine ⟨_, rfl, fun w' => St S w w' [Row 61 3 (.slice (some ⟨gw, 0, none⟩) 1 cw) 1 (wds [⟨key, tm, te⟩]), Blk ib #[.int .i64 1, .string ⟨key.toArray⟩, .int .i64 tm, .int .i64 v] 56, Blk t #[.int .i64 3, .int .i64 sz, .int .i64 sl, .int .i64 lt, .int .i64 ag, .int .i64 kk, .int .i64 mk, pv, ov] 137, Row 68 8 pv ms.length (encP.all ms), Row 63 10 ov os.length (encO.all os), Pool H], hV _ _ _ (fun I hI => Fam.mono (fun w' h => St.pick (l := [Row 61 3 (.slice (some ⟨gw, 0, none⟩) 1 cw) 1 (wds [⟨key, tm, te⟩]), Blk ib #[.int .i64 1, .string ⟨key.toArray⟩, .int .i64 tm, .int .i64 v] 56, Blk t #[.int .i64 3, .int .i64 sz, .int .i64 sl, .int .i64 lt, .int .i64 ag, .int .i64 kk, .int .i64 mk, pv, ov] 137]) h [1, 2]) I hI) (Fam.st (B := fun w' => St S w w' [Row 61 3 (.slice (some ⟨gw, 0, none⟩) 1 cw) 1 (wds [⟨key, tm, te⟩]), Blk ib #[.int .i64 1, .string ⟨key.toArray⟩, .int .i64 tm, .int .i64 v] 56, Blk t #[.int .i64 3, .int .i64 sz, .int .i64 sl, .int .i64 lt, .int .i64 ag, .int .i64 kk, .int .i64 mk, pv, ov] 137]) (fun _ h => h.pick [0, 1, 2])) ?_, H5⟩
      intro K hK
      go_simp
      refine hK _ ?_
      clear hK K hV V
      clear H5 h1 G1 w1 w2
      iterate 2 first
        | (apply plan_pass
           · rfl
           · rfl
           intro K hK
           go_simp
           refine hK _ ?_
           clear hK K)
        | (apply plan_step
           · rfl
           · rfl
           · intro I hI w1 h1'
             have h1 := hI.2 _ h1'
             obtain ⟨r0, r1, r2⟩ := row_wds (h1.row 0 rfl) (j := 0) (x := ⟨key, tm, te⟩) rfl
             unfold textV at r0
             simp only [Nat.zero_mul, Nat.zero_add] at r0 r1 r2
             first
               | (go_simp
                  first
                    | rfl
                    | exact ⟨rfl, h1'⟩
                 )
           intro K hK
           go_simp
           refine hK _ ?_
           clear hK K)
      refine plan_one rfl rfl ?_
      intro V hV w1 h1
      go_simp
      obtain ⟨ob, hob⟩ : ∃ g, w1.heap.size = g := ⟨_, rfl⟩
      have H4 : St S w _ [Blk ob #[.string ⟨#[]⟩, .int .i64 0, .int .i64 0] 61, Row 61 3 (.slice (some ⟨gw, 0, none⟩) 1 cw) 1 (wds [⟨key, tm, te⟩]), Blk ib #[.int .i64 1, .string ⟨key.toArray⟩, .int .i64 tm, .int .i64 v] 56, Blk t #[.int .i64 3, .int .i64 sz, .int .i64 sl, .int .i64 lt, .int .i64 ag, .int .i64 kk, .int .i64 mk, pv, ov] 137, Row 68 8 pv ms.length (encP.all ms), Row 63 10 ov os.length (encO.all os), Pool H] := h1.allocAt hob #[.string ⟨#[]⟩, .int .i64 0, .int .i64 0] 61
      simp only [hob]
      refine ⟨fun w' => St S w w' [Blk ob #[.string ⟨#[]⟩, .int .i64 0, .int .i64 0] 61, Row 61 3 (.slice (some ⟨gw, 0, none⟩) 1 cw) 1 (wds [⟨key, tm, te⟩]), Blk ib #[.int .i64 1, .string ⟨key.toArray⟩, .int .i64 tm, .int .i64 v] 56, Blk t #[.int .i64 3, .int .i64 sz, .int .i64 sl, .int .i64 lt, .int .i64 ag, .int .i64 kk, .int .i64 mk, pv, ov] 137, Row 68 8 pv ms.length (encP.all ms), Row 63 10 ov os.length (encO.all os), Pool H], hV _ _ _ (fun _ h => h) (Fam.st (B := fun w' => St S w w' [Row 61 3 (.slice (some ⟨gw, 0, none⟩) 1 cw) 1 (wds [⟨key, tm, te⟩]), Blk ib #[.int .i64 1, .string ⟨key.toArray⟩, .int .i64 tm, .int .i64 v] 56, Blk t #[.int .i64 3, .int .i64 sz, .int .i64 sl, .int .i64 lt, .int .i64 ag, .int .i64 kk, .int .i64 mk, pv, ov] 137]) (fun _ h => h.pick [1, 2, 3])) ?_, H4⟩
      intro K hK
      go_simp
      refine hK _ ?_
      clear hK K hV V
      clear H4 h1 hob w1
      refine plan_one rfl rfl ?_
      intro V hV w1 h1
      have r0 := h1.free 0 0 rfl
      have r1 := h1.free 0 1 rfl
      have r2 := h1.free 0 2 rfl
      have x0 := h1.cell 0 0 rfl rfl
      have x1 := h1.cell 0 1 rfl rfl
      have x2 := h1.cell 0 2 rfl rfl
      have H5 := ((h1.set 0 rfl 0 (.string ⟨key.toArray⟩)).set 0 rfl 1 (.int .i64 tm)).set 0 rfl 2 (.int .i64 te)
      go_simp
      refine ⟨fun w' => St S w w' [Blk ob #[.string ⟨key.toArray⟩, .int .i64 tm, .int .i64 te] 61, Row 61 3 (.slice (some ⟨gw, 0, none⟩) 1 cw) 1 (wds [⟨key, tm, te⟩]), Blk ib #[.int .i64 1, .string ⟨key.toArray⟩, .int .i64 tm, .int .i64 v] 56, Blk t #[.int .i64 3, .int .i64 sz, .int .i64 sl, .int .i64 lt, .int .i64 ag, .int .i64 kk, .int .i64 mk, pv, ov] 137, Row 68 8 pv ms.length (encP.all ms), Row 63 10 ov os.length (encO.all os), Pool H], hV _ _ _ (fun _ h => h) (Fam.st (B := fun w' => St S w w' [Row 61 3 (.slice (some ⟨gw, 0, none⟩) 1 cw) 1 (wds [⟨key, tm, te⟩]), Blk ib #[.int .i64 1, .string ⟨key.toArray⟩, .int .i64 tm, .int .i64 v] 56, Blk t #[.int .i64 3, .int .i64 sz, .int .i64 sl, .int .i64 lt, .int .i64 ag, .int .i64 kk, .int .i64 mk, pv, ov] 137]) (fun _ h => h.pick [1, 2, 3])) ?_, H5⟩
      intro K hK
      go_simp
      refine hK _ ?_
      clear hK K hV V
      clear H5 h1 w1 r0 r1 r2 x0 x1 x2
      refine plan_nil ?_
      intro w9 H9
      go_wp2
      go_meet
      exact ⟨ob, rfl, H9.pick [0, 2, 3, 4, 5, 6]⟩
    · skip
      intro V hV w1 h1
      go_simp
      obtain ⟨ob, hob⟩ : ∃ g, w1.heap.size = g := ⟨_, rfl⟩
      have H4 : St S w _ [Blk ob #[.string ⟨#[]⟩, .int .i64 0, .int .i64 0] 61, Blk ib #[.int .i64 1, .string ⟨key.toArray⟩, .int .i64 tm, .int .i64 v] 56, Blk t #[.int .i64 3, .int .i64 sz, .int .i64 sl, .int .i64 lt, .int .i64 ag, .int .i64 kk, .int .i64 mk, pv, ov] 137, Row 68 8 pv ms.length (encP.all ms), Row 63 10 ov os.length (encO.all os), Pool H] := h1.allocAt hob #[.string ⟨#[]⟩, .int .i64 0, .int .i64 0] 61
      simp only [hob]
      refine ⟨fun w' => St S w w' [Blk ob #[.string ⟨#[]⟩, .int .i64 0, .int .i64 0] 61, Blk ib #[.int .i64 1, .string ⟨key.toArray⟩, .int .i64 tm, .int .i64 v] 56, Blk t #[.int .i64 3, .int .i64 sz, .int .i64 sl, .int .i64 lt, .int .i64 ag, .int .i64 kk, .int .i64 mk, pv, ov] 137, Row 68 8 pv ms.length (encP.all ms), Row 63 10 ov os.length (encO.all os), Pool H], hV _ _ _ (fun _ h => h) (Fam.st (fun _ h => h.pick [1, 2])) ?_, H4⟩
      intro K hK
      go_simp
      refine hK _ ?_
      clear hK K hV V
      clear H4 h1 hob w1
      refine plan_one rfl rfl ?_
      intro V hV w1 h1
      go_simp
      refine (kw w1).mono ?_
      rintro e w2 ⟨hw0, rfl, G1⟩
      obtain ⟨gw, cw, rfl⟩ := row_form (N := 1) (G1.row 0 rfl) rfl (by decide)
      have H5 : St S w w2 [Row 61 3 (.slice (some ⟨gw, 0, none⟩) 1 cw) 1 (wds [⟨key, tm, te⟩]), Blk ob #[.string ⟨#[]⟩, .int .i64 0, .int .i64 0] 61, Blk ib #[.int .i64 1, .string ⟨key.toArray⟩, .int .i64 tm, .int .i64 v] 56, Blk t #[.int .i64 3, .int .i64 sz, .int .i64 sl, .int .i64 lt, .int .i64 ag, .int .i64 kk, .int .i64 mk, pv, ov] 137, Row 68 8 pv ms.length (encP.all ms), Row 63 10 ov os.length (encO.all os), Pool H] := h1.call0 G1
      refine ⟨_, rfl, fun w' => St S w w' [Row 61 3 (.slice (some ⟨gw, 0, none⟩) 1 cw) 1 (wds [⟨key, tm, te⟩]), Blk ob #[.string ⟨#[]⟩, .int .i64 0, .int .i64 0] 61, Blk ib #[.int .i64 1, .string ⟨key.toArray⟩, .int .i64 tm, .int .i64 v] 56, Blk t #[.int .i64 3, .int .i64 sz, .int .i64 sl, .int .i64 lt, .int .i64 ag, .int .i64 kk, .int .i64 mk, pv, ov] 137, Row 68 8 pv ms.length (encP.all ms), Row 63 10 ov os.length (encO.all os), Pool H], hV _ _ _ (fun I hI => Fam.mono (fun w' h => St.pick (l := [Row 61 3 (.slice (some ⟨gw, 0, none⟩) 1 cw) 1 (wds [⟨key, tm, te⟩]), Blk ib #[.int .i64 1, .string ⟨key.toArray⟩, .int .i64 tm, .int .i64 v] 56, Blk t #[.int .i64 3, .int .i64 sz, .int .i64 sl, .int .i64 lt, .int .i64 ag, .int .i64 kk, .int .i64 mk, pv, ov] 137]) h [1, 2]) I hI) (Fam.st (B := fun w' => St S w w' [Row 61 3 (.slice (some ⟨gw, 0, none⟩) 1 cw) 1 (wds [⟨key, tm, te⟩]), Blk ib #[.int .i64 1, .string ⟨key.toArray⟩, .int .i64 tm, .int .i64 v] 56, Blk t #[.int .i64 3, .int .i64 sz, .int .i64 sl, .int .i64 lt, .int .i64 ag, .int .i64 kk, .int .i64 mk, pv, ov] 137]) (fun _ h => h.pick [0, 2, 3])) ?_, H5⟩
      intro K hK
      go_simp
      refine hK _ ?_
      clear hK K hV V
      clear H5 h1 G1 w1 w2
      iterate 2 first
        | (apply plan_pass
           · rfl
           · rfl
           intro K hK
           go_simp
           refine hK _ ?_
           clear hK K)
        | (apply plan_step
           · rfl
           · rfl
           · intro I hI w1 h1'
             have h1 := hI.2 _ h1'
             obtain ⟨r0, r1, r2⟩ := row_wds (h1.row 0 rfl) (j := 0) (x := ⟨key, tm, te⟩) rfl
             unfold textV at r0
             simp only [Nat.zero_mul, Nat.zero_add] at r0 r1 r2
             first
               | (go_simp
                  first
                    | rfl
                    | exact ⟨rfl, h1'⟩
                 )
           intro K hK
           go_simp
           refine hK _ ?_
           clear hK K)
      refine plan_one rfl rfl ?_
      intro V hV w1 h1
      have r0 := h1.free 1 0 rfl
      have r1 := h1.free 1 1 rfl
      have r2 := h1.free 1 2 rfl
      have x0 := h1.cell 1 0 rfl rfl
      have x1 := h1.cell 1 1 rfl rfl
      have x2 := h1.cell 1 2 rfl rfl
      have H5 := ((h1.set 1 rfl 0 (.string ⟨key.toArray⟩)).set 1 rfl 1 (.int .i64 tm)).set 1 rfl 2 (.int .i64 te)
      go_simp
      refine ⟨fun w' => St S w w' [Row 61 3 (.slice (some ⟨gw, 0, none⟩) 1 cw) 1 (wds [⟨key, tm, te⟩]), Blk ob #[.string ⟨key.toArray⟩, .int .i64 tm, .int .i64 te] 61, Blk ib #[.int .i64 1, .string ⟨key.toArray⟩, .int .i64 tm, .int .i64 v] 56, Blk t #[.int .i64 3, .int .i64 sz, .int .i64 sl, .int .i64 lt, .int .i64 ag, .int .i64 kk, .int .i64 mk, pv, ov] 137, Row 68 8 pv ms.length (encP.all ms), Row 63 10 ov os.length (encO.all os), Pool H], hV _ _ _ (fun _ h => h) (Fam.st (B := fun w' => St S w w' [Row 61 3 (.slice (some ⟨gw, 0, none⟩) 1 cw) 1 (wds [⟨key, tm, te⟩]), Blk ib #[.int .i64 1, .string ⟨key.toArray⟩, .int .i64 tm, .int .i64 v] 56, Blk t #[.int .i64 3, .int .i64 sz, .int .i64 sl, .int .i64 lt, .int .i64 ag, .int .i64 kk, .int .i64 mk, pv, ov] 137]) (fun _ h => h.pick [0, 2, 3])) ?_, H5⟩
      intro K hK
      go_simp
      refine hK _ ?_
      clear hK K hV V
      clear H5 h1 w1 r0 r1 r2 x0 x1 x2
      refine plan_nil ?_
      intro w9 H9
      go_wp2
      go_meet
      exact ⟨ob, rfl, H9.pick [1, 2, 3, 4, 5, 6]⟩
  case rest =>
    obtain ⟨ob, rfl, HC⟩ := hcut
    clear H3 kw
    go_upto_region 2 with (fail)
    go_cut [7, 8, 9, 23] from 24 to 34 (fun _ p8 p9 _ wx => ∃ (bb : Nat), p8 = .pointer (some ⟨bb, 0, none⟩) ∧ St S w wx [Blk bb #[.string ⟨bk.toArray⟩, .int .i64 bf, .int .i64 bt] 61, Row 3 1 p9 G.length (intCells G), Blk ob #[.string ⟨key.toArray⟩, .int .i64 tm, .int .i64 te] 61, Blk ib #[.int .i64 1, .string ⟨key.toArray⟩, .int .i64 tm, .int .i64 v] 56, Blk t #[.int .i64 3, .int .i64 sz, .int .i64 sl, .int .i64 lt, .int .i64 ag, .int .i64 kk, .int .i64 mk, pv, ov] 137, Row 68 8 pv ms.length (encP.all ms), Row 63 10 ov os.length (encO.all os), Pool H])
    case first =>
      refine wp_plan (.small 0 (.small 1 (.small 2 (.small 3 (.small 4 (.small 6 (.fork 5 12 (.fork 7 12 (.small 8 (.small 9 (.small 10 (.small 11 (.alone 12 (.small 13 (.alone 14 (.small 15 .nil)))))))) (.alone 7 (.small 8 (.small 9 (.small 10 (.small 11 (.small 13 (.alone 14 (.small 15 .nil))))))))) (.alone 5 (.alone 7 (.small 8 (.small 9 (.small 10 (.small 11 (.small 13 (.alone 14 (.small 15 .nil)))))))))))))))) (Fam fun w' => St S w w' [Blk ob #[.string ⟨key.toArray⟩, .int .i64 tm, .int .i64 te] 61, Blk t #[.int .i64 3, .int .i64 sz, .int .i64 sl, .int .i64 lt, .int .i64 ag, .int .i64 kk, .int .i64 mk, pv, ov] 137]) (fun w' => St S w w' [Blk ob #[.string ⟨key.toArray⟩, .int .i64 tm, .int .i64 te] 61, Blk ib #[.int .i64 1, .string ⟨key.toArray⟩, .int .i64 tm, .int .i64 v] 56, Blk t #[.int .i64 3, .int .i64 sz, .int .i64 sl, .int .i64 lt, .int .i64 ag, .int .i64 kk, .int .i64 mk, pv, ov] 137, Row 68 8 pv ms.length (encP.all ms), Row 63 10 ov os.length (encO.all os), Pool H]) (by kernel_rfl) (by rfl) (by kernel_rfl) (by kernel_rfl) HC.drew (Fam.st (fun _ h => h.pick [0, 2])) ?_
      iterate 6 first
        | (apply plan_pass
           · rfl
           · rfl
           intro K hK
           go_simp
           refine hK _ ?_
           clear hK K)
        | (apply plan_step
           · rfl
           · rfl
           · intro I hI w1 h1'
             have h1 := hI.2 _ h1'
             have i0 := h1.cell 0 0 rfl rfl
             have i1 := h1.cell 0 1 rfl rfl
             have i2 := h1.cell 0 2 rfl rfl
             have d7 := h1.cell 1 7 rfl rfl
             first
               | (go_simp
                  first
                    | rfl
                    | exact ⟨rfl, h1'⟩
                 )
           intro K hK
           go_simp
           refine hK _ ?_
           clear hK K)
      refine plan_two rfl rfl rfl rfl ?_ ?_
      · skip
        intro V hV w1 h1
        go_simp
        refine (kwin w1 (Enc.own encP (h1.row 3 rfl) rfl)).mono ?_
        rintro e w2 ⟨hw, rfl, G1⟩
        have H5 : St S w w2 [Row 61 3 hw ms.length (wds W), Blk ob #[.string ⟨key.toArray⟩, .int .i64 tm, .int .i64 te] 61, Blk ib #[.int .i64 1, .string ⟨key.toArray⟩, .int .i64 tm, .int .i64 v] 56, Blk t #[.int .i64 3, .int .i64 sz, .int .i64 sl, .int .i64 lt, .int .i64 ag, .int .i64 kk, .int .i64 mk, pv, ov] 137, Row 68 8 pv ms.length (encP.all ms), Row 63 10 ov os.length (encO.all os), Pool H] := h1.call0 G1
        refine ⟨_, rfl, fun w' => St S w w' [Row 61 3 hw ms.length (wds W), Blk ob #[.string ⟨key.toArray⟩, .int .i64 tm, .int .i64 te] 61, Blk ib #[.int .i64 1, .string ⟨key.toArray⟩, .int .i64 tm, .int .i64 v] 56, Blk t #[.int .i64 3, .int .i64 sz, .int .i64 sl, .int .i64 lt, .int .i64 ag, .int .i64 kk, .int .i64 mk, pv, ov] 137, Row 68 8 pv ms.length (encP.all ms), Row 63 10 ov os.length (encO.all os), Pool H], hV _ _ _ (fun _ h => h) (Fam.st (fun _ h => h.pick [1, 3])) ?_, H5⟩
        intro K hK
        go_simp
        refine hK _ ?_
        clear hK K hV V
        clear H5 h1 G1 w1 w2
        refine plan_two rfl rfl rfl rfl ?_ ?_
        · skip
          intro V hV w1 h1
          go_simp
          refine (kt.out w1 hw (wds_own (h1.row 0 rfl) hwfh.out)).mono ?_
          rintro e w2 ⟨hk, hg, rfl, G1⟩
          have H5 : St S w w2 [Row 61 3 hk K.length (wds K), Row 3 1 hg G.length (intCells G), Row 61 3 hw ms.length (wds W), Blk ob #[.string ⟨key.toArray⟩, .int .i64 tm, .int .i64 te] 61, Blk ib #[.int .i64 1, .string ⟨key.toArray⟩, .int .i64 tm, .int .i64 v] 56, Blk t #[.int .i64 3, .int .i64 sz, .int .i64 sl, .int .i64 lt, .int .i64 ag, .int .i64 kk, .int .i64 mk, pv, ov] 137, Row 68 8 pv ms.length (encP.all ms), Row 63 10 ov os.length (encO.all os), Pool H] := h1.call0 G1
          refine ⟨_, rfl, fun w' => St S w w' [Row 61 3 hk K.length (wds K), Row 3 1 hg G.length (intCells G), Row 61 3 hw ms.length (wds W), Blk ob #[.string ⟨key.toArray⟩, .int .i64 tm, .int .i64 te] 61, Blk ib #[.int .i64 1, .string ⟨key.toArray⟩, .int .i64 tm, .int .i64 v] 56, Blk t #[.int .i64 3, .int .i64 sz, .int .i64 sl, .int .i64 lt, .int .i64 ag, .int .i64 kk, .int .i64 mk, pv, ov] 137, Row 68 8 pv ms.length (encP.all ms), Row 63 10 ov os.length (encO.all os), Pool H], hV _ _ _ (fun _ h => h) (Fam.st (fun _ h => h.pick [3, 5])) ?_, H5⟩
          intro K hK
          go_simp
          refine hK _ ?_
          clear hK K hV V
          clear H5 h1 G1 w1 w2
          iterate 4 first
            | (apply plan_pass
               · rfl
               · rfl
               intro K hK
               go_simp
               refine hK _ ?_
               clear hK K)
            | (apply plan_step
               · rfl
               · rfl
               · intro I hI w1 h1'
                 have h1 := hI.2 _ h1'
                 first
                   | (go_simp
                      first
                        | rfl
                        | exact ⟨rfl, h1'⟩
                     )
               intro K hK
               go_simp
               refine hK _ ?_
               clear hK K)
          refine plan_one rfl rfl ?_
          intro V hV w1 h1
          go_simp
          obtain ⟨bb, hbb⟩ : ∃ g, w1.heap.size = g := ⟨_, rfl⟩
          have H4 : St S w _ [Blk bb #[.string ⟨#[]⟩, .int .i64 0, .int .i64 0] 61, Row 61 3 hk K.length (wds K), Row 3 1 hg G.length (intCells G), Row 61 3 hw ms.length (wds W), Blk ob #[.string ⟨key.toArray⟩, .int .i64 tm, .int .i64 te] 61, Blk ib #[.int .i64 1, .string ⟨key.toArray⟩, .int .i64 tm, .int .i64 v] 56, Blk t #[.int .i64 3, .int .i64 sz, .int .i64 sl, .int .i64 lt, .int .i64 ag, .int .i64 kk, .int .i64 mk, pv, ov] 137, Row 68 8 pv ms.length (encP.all ms), Row 63 10 ov os.length (encO.all os), Pool H] := h1.allocAt hbb #[.string ⟨#[]⟩, .int .i64 0, .int .i64 0] 61
          simp only [hbb]
          refine ⟨fun w' => St S w w' [Blk bb #[.string ⟨#[]⟩, .int .i64 0, .int .i64 0] 61, Row 61 3 hk K.length (wds K), Row 3 1 hg G.length (intCells G), Row 61 3 hw ms.length (wds W), Blk ob #[.string ⟨key.toArray⟩, .int .i64 tm, .int .i64 te] 61, Blk ib #[.int .i64 1, .string ⟨key.toArray⟩, .int .i64 tm, .int .i64 v] 56, Blk t #[.int .i64 3, .int .i64 sz, .int .i64 sl, .int .i64 lt, .int .i64 ag, .int .i64 kk, .int .i64 mk, pv, ov] 137, Row 68 8 pv ms.length (encP.all ms), Row 63 10 ov os.length (encO.all os), Pool H], hV _ _ _ (fun _ h => h) (Fam.st (fun _ h => h.pick [4, 6])) ?_, H4⟩
          intro K hK
          go_simp
          refine hK _ ?_
          clear hK K hV V
          clear H4 h1 hbb w1
          iterate 1 first
            | (apply plan_pass
               · rfl
               · rfl
               intro K hK
               go_simp
               refine hK _ ?_
               clear hK K)
            | (apply plan_step
               · rfl
               · rfl
               · intro I hI w1 h1'
                 have h1 := hI.2 _ h1'
                 first
                   | (go_simp
                      first
                        | rfl
                        | exact ⟨rfl, h1'⟩
                     )
               intro K hK
               go_simp
               refine hK _ ?_
               clear hK K)
          refine plan_one rfl rfl ?_
          intro V hV w1 h1
          have r0 := h1.free 0 0 rfl
          have r1 := h1.free 0 1 rfl
          have r2 := h1.free 0 2 rfl
          have x0 := h1.cell 0 0 rfl rfl
          have x1 := h1.cell 0 1 rfl rfl
          have x2 := h1.cell 0 2 rfl rfl
          have H5 := ((h1.set 0 rfl 0 (.string ⟨bk.toArray⟩)).set 0 rfl 1 (.int .i64 bf)).set 0 rfl 2 (.int .i64 bt)
          go_simp
          refine ⟨fun w' => St S w w' [Blk bb #[.string ⟨bk.toArray⟩, .int .i64 bf, .int .i64 bt] 61, Row 61 3 hk K.length (wds K), Row 3 1 hg G.length (intCells G), Row 61 3 hw ms.length (wds W), Blk ob #[.string ⟨key.toArray⟩, .int .i64 tm, .int .i64 te] 61, Blk ib #[.int .i64 1, .string ⟨key.toArray⟩, .int .i64 tm, .int .i64 v] 56, Blk t #[.int .i64 3, .int .i64 sz, .int .i64 sl, .int .i64 lt, .int .i64 ag, .int .i64 kk, .int .i64 mk, pv, ov] 137, Row 68 8 pv ms.length (encP.all ms), Row 63 10 ov os.length (encO.all os), Pool H], hV _ _ _ (fun _ h => h) (Fam.st (fun _ h => h.pick [4, 6])) ?_, H5⟩
          intro K hK
          go_simp
          refine hK _ ?_
          clear hK K hV V
          clear H5 h1 w1 r0 r1 r2 x0 x1 x2
          iterate 1 first
            | (apply plan_pass
               · rfl
               · rfl
               intro K hK
               go_simp
               refine hK _ ?_
               clear hK K)
            | (apply plan_step
               · rfl
               · rfl
               · intro I hI w1 h1'
                 have h1 := hI.2 _ h1'
                 first
                   | (go_simp
                      first
                        | rfl
                        | exact ⟨rfl, h1'⟩
                     )
               intro K hK
               go_simp
               refine hK _ ?_
               clear hK K)
          refine plan_nil ?_
          intro w9 H9
          go_wp2
          go_meet
          exact ⟨bb, rfl, H9.pick [0, 2, 4, 5, 6, 7, 8, 9]⟩
        · skip
          intro V hV w1 h1
          go_simp
          obtain ⟨bb, hbb⟩ : ∃ g, w1.heap.size = g := ⟨_, rfl⟩
          have H4 : St S w _ [Blk bb #[.string ⟨#[]⟩, .int .i64 0, .int .i64 0] 61, Row 61 3 hw ms.length (wds W), Blk ob #[.string ⟨key.toArray⟩, .int .i64 tm, .int .i64 te] 61, Blk ib #[.int .i64 1, .string ⟨key.toArray⟩, .int .i64 tm, .int .i64 v] 56, Blk t #[.int .i64 3, .int .i64 sz, .int .i64 sl, .int .i64 lt, .int .i64 ag, .int .i64 kk, .int .i64 mk, pv, ov] 137, Row 68 8 pv ms.length (encP.all ms), Row 63 10 ov os.length (encO.all os), Pool H] := h1.allocAt hbb #[.string ⟨#[]⟩, .int .i64 0, .int .i64 0] 61
          simp only [hbb]
          refine ⟨fun w' => St S w w' [Blk bb #[.string ⟨#[]⟩, .int .i64 0, .int .i64 0] 61, Row 61 3 hw ms.length (wds W), Blk ob #[.string ⟨key.toArray⟩, .int .i64 tm, .int .i64 te] 61, Blk ib #[.int .i64 1, .string ⟨key.toArray⟩, .int .i64 tm, .int .i64 v] 56, Blk t #[.int .i64 3, .int .i64 sz, .int .i64 sl, .int .i64 lt, .int .i64 ag, .int .i64 kk, .int .i64 mk, pv, ov] 137, Row 68 8 pv ms.length (encP.all ms), Row 63 10 ov os.length (encO.all os), Pool H], hV _ _ _ (fun _ h => h) (Fam.st (fun _ h => h.pick [2, 4])) ?_, H4⟩
          intro K hK
          go_simp
          refine hK _ ?_
          clear hK K hV V
          clear H4 h1 hbb w1
          refine plan_one rfl rfl ?_
          intro V hV w1 h1
          go_simp
          refine (kt.out w1 hw (wds_own (h1.row 1 rfl) hwfh.out)).mono ?_
          rintro e w2 ⟨hk, hg, rfl, G1⟩
          have H5 : St S w w2 [Row 61 3 hk K.length (wds K), Row 3 1 hg G.length (intCells G), Blk bb #[.string ⟨#[]⟩, .int .i64 0, .int .i64 0] 61, Row 61 3 hw ms.length (wds W), Blk ob #[.string ⟨key.toArray⟩, .int .i64 tm, .int .i64 te] 61, Blk ib #[.int .i64 1, .string ⟨key.toArray⟩, .int .i64 tm, .int .i64 v] 56, Blk t #[.int .i64 3, .int .i64 sz, .int .i64 sl, .int .i64 lt, .int .i64 ag, .int .i64 kk, .int .i64 mk, pv, ov] 137, Row 68 8 pv ms.length (encP.all ms), Row 63 10 ov os.length (encO.all os), Pool H] := h1.call0 G1
          refine ⟨_, rfl, fun w' => St S w w' [Row 61 3 hk K.length (wds K), Row 3 1 hg G.length (intCells G), Blk bb #[.string ⟨#[]⟩, .int .i64 0, .int .i64 0] 61, Row 61 3 hw ms.length (wds W), Blk ob #[.string ⟨key.toArray⟩, .int .i64 tm, .int .i64 te] 61, Blk ib #[.int .i64 1, .string ⟨key.toArray⟩, .int .i64 tm, .int .i64 v] 56, Blk t #[.int .i64 3, .int .i64 sz, .int .i64 sl, .int .i64 lt, .int .i64 ag, .int .i64 kk, .int .i64 mk, pv, ov] 137, Row 68 8 pv ms.length (encP.all ms), Row 63 10 ov os.length (encO.all os), Pool H], hV _ _ _ (fun _ h => h) (Fam.st (fun _ h => h.pick [4, 6])) ?_, H5⟩
          intro K hK
          go_simp
          refine hK _ ?_
          clear hK K hV V
          clear H5 h1 G1 w1 w2
          iterate 5 first
            | (apply plan_pass
               · rfl
               · rfl
               intro K hK
               go_simp
               refine hK _ ?_
               clear hK K)
            | (apply plan_step
               · rfl
               · rfl
               · intro I hI w1 h1'
                 have h1 := hI.2 _ h1'
                 first
                   | (go_simp
                      first
                        | rfl
                        | exact ⟨rfl, h1'⟩
                     )
               intro K hK
               go_simp
               refine hK _ ?_
               clear hK K)
          refine plan_one rfl rfl ?_
          intro V hV w1 h1
          have r0 := h1.free 2 0 rfl
          have r1 := h1.free 2 1 rfl
          have r2 := h1.free 2 2 rfl
          have x0 := h1.cell 2 0 rfl rfl
          have x1 := h1.cell 2 1 rfl rfl
          have x2 := h1.cell 2 2 rfl rfl
          have H5 := ((h1.set 2 rfl 0 (.string ⟨bk.toArray⟩)).set 2 rfl 1 (.int .i64 bf)).set 2 rfl 2 (.int .i64 bt)
          go_simp
          refine ⟨fun w' => St S w w' [Row 61 3 hk K.length (wds K), Row 3 1 hg G.length (intCells G), Blk bb #[.string ⟨bk.toArray⟩, .int .i64 bf, .int .i64 bt] 61, Row 61 3 hw ms.length (wds W), Blk ob #[.string ⟨key.toArray⟩, .int .i64 tm, .int .i64 te] 61, Blk ib #[.int .i64 1, .string ⟨key.toArray⟩, .int .i64 tm, .int .i64 v] 56, Blk t #[.int .i64 3, .int .i64 sz, .int .i64 sl, .int .i64 lt, .int .i64 ag, .int .i64 kk, .int .i64 mk, pv, ov] 137, Row 68 8 pv ms.length (encP.all ms), Row 63 10 ov os.length (encO.all os), Pool H], hV _ _ _ (fun _ h => h) (Fam.st (fun _ h => h.pick [4, 6])) ?_, H5⟩
          intro K hK
          go_simp
          refine hK _ ?_
          clear hK K hV V
          clear H5 h1 w1 r0 r1 r2 x0 x1 x2
          iterate 1 first
            | (apply plan_pass
               · rfl
               · rfl
               intro K hK
               go_simp
               refine hK _ ?_
               clear hK K)
            | (apply plan_step
               · rfl
               · rfl
               · intro I hI w1 h1'
                 have h1 := hI.2 _ h1'
                 first
                   | (go_simp
                      first
                        | rfl
                        | exact ⟨rfl, h1'⟩
                     )
               intro K hK
               go_simp
               refine hK _ ?_
               clear hK K)
          refine plan_nil ?_
          intro w9 H9
          go_wp2
          go_meet
          exact ⟨bb, rfl, H9.pick [2, 1, 4, 5, 6, 7, 8, 9]⟩
      · skip
        intro V hV w1 h1
        go_simp
        obtain ⟨bb, hbb⟩ : ∃ g, w1.heap.size = g := ⟨_, rfl⟩
        have H4 : St S w _ [Blk bb #[.string ⟨#[]⟩, .int .i64 0, .int .i64 0] 61, Blk ob #[.string ⟨key.toArray⟩, .int .i64 tm, .int .i64 te] 61, Blk ib #[.int .i64 1, .string ⟨key.toArray⟩, .int .i64 tm, .int .i64 v] 56, Blk t #[.int .i64 3, .int .i64 sz, .int .i64 sl, .int .i64 lt, .int .i64 ag, .int .i64 kk, .int .i64 mk, pv, ov] 137, Row 68 8 pv ms.length (encP.all ms), Row 63 10 ov os.length (encO.all os), Pool H] := h1.allocAt hbb #[.string ⟨#[]⟩, .int .i64 0, .int .i64 0] 61
        simp only [hbb]
        refine ⟨fun w' => St S w w' [Blk bb #[.string ⟨#[]⟩, .int .i64 0, .int .i64 0] 61, Blk ob #[.string ⟨key.toArray⟩, .int .i64 tm, .int .i64 te] 61, Blk ib #[.int .i64 1, .string ⟨key.toArray⟩, .int .i64 tm, .int .i64 v] 56, Blk t #[.int .i64 3, .int .i64 sz, .int .i64 sl, .int .i64 lt, .int .i64 ag, .int .i64 kk, .int .i64 mk, pv, ov] 137, Row 68 8 pv ms.length (encP.all ms), Row 63 10 ov os.length (encO.all os), Pool H], hV _ _ _ (fun _ h => h) (Fam.st (fun _ h => h.pick [1, 3])) ?_, H4⟩
        intro K hK
        go_simp
        refine hK _ ?_
        clear hK K hV V
        clear H4 h1 hbb w1
        refine plan_one rfl rfl ?_
        intro V hV w1 h1
        go_simp
        refine (kwin w1 (Enc.own encP (h1.row 4 rfl) rfl)).mono ?_
        rintro e w2 ⟨hw, rfl, G1⟩
        have H5 : St S w w2 [Row 61 3 hw ms.length (wds W), Blk bb #[.string ⟨#[]⟩, .int .i64 0, .int .i64 0] 61, Blk ob #[.string ⟨key.toArray⟩, .int .i64 tm, .int .i64 te] 61, Blk ib #[.int .i64 1, .string ⟨key.toArray⟩, .int .i64 tm, .int .i64 v] 56, Blk t #[.int .i64 3, .int .i64 sz, .int .i64 sl, .int .i64 lt, .int .i64 ag, .int .i64 kk, .int .i64 mk, pv, ov] 137, Row 68 8 pv ms.length (encP.all ms), Row 63 10 ov os.length (encO.all os), Pool H] := h1.call0 G1
        refine ⟨_, rfl, fun w' => St S w w' [Row 61 3 hw ms.length (wds W), Blk bb #[.string ⟨#[]⟩, .int .i64 0, .int .i64 0] 61, Blk ob #[.string ⟨key.toArray⟩, .int .i64 tm, .int .i64 te] 61, Blk ib #[.int .i64 1, .string ⟨key.toArray⟩, .int .i64 tm, .int .i64 v] 56, Blk t #[.int .i64 3, .int .i64 sz, .int .i64 sl, .int .i64 lt, .int .i64 ag, .int .i64 kk, .int .i64 mk, pv, ov] 137, Row 68 8 pv ms.length (encP.all ms), Row 63 10 ov os.length (encO.all os), Pool H], hV _ _ _ (fun _ h => h) (Fam.st (fun _ h => h.pick [2, 4])) ?_, H5⟩
        intro K hK
        go_simp
        refine hK _ ?_
        clear hK K hV V
        clear H5 h1 G1 w1 w2
        refine plan_one rfl rfl ?_
        intro V hV w1 h1
        go_simp
        refine (kt.out w1 hw (wds_own (h1.row 0 rfl) hwfh.out)).mono ?_
        rintro e w2 ⟨hk, hg, rfl, G1⟩
        have H5 : St S w w2 [Row 61 3 hk K.length (wds K), Row 3 1 hg G.length (intCells G), Row 61 3 hw ms.length (wds W), Blk bb #[.string ⟨#[]⟩, .int .i64 0, .int .i64 0] 61, Blk ob #[.string ⟨key.toArray⟩, .int .i64 tm, .int .i64 te] 61, Blk ib #[.int .i64 1, .string ⟨key.toArray⟩, .int .i64 tm, .int .i64 v] 56, Blk t #[.int .i64 3, .int .i64 sz, .int .i64 sl, .int .i64 lt, .int .i64 ag, .int .i64 kk, .int .i64 mk, pv, ov] 137, Row 68 8 pv ms.length (encP.all ms), Row 63 10 ov os.length (encO.all os), Pool H] := h1.call0 G1
        refine ⟨_, rfl, fun w' => St S w w' [Row 61 3 hk K.length (wds K), Row 3 1 hg G.length (intCells G), Row 61 3 hw ms.length (wds W), Blk bb #[.string ⟨#[]⟩, .int .i64 0, .int .i64 0] 61, Blk ob #[.string ⟨key.toArray⟩, .int .i64 tm, .int .i64 te] 61, Blk ib #[.int .i64 1, .string ⟨key.toArray⟩, .int .i64 tm, .int .i64 v] 56, Blk t #[.int .i64 3, .int .i64 sz, .int .i64 sl, .int .i64 lt, .int .i64 ag, .int .i64 kk, .int .i64 mk, pv, ov] 137, Row 68 8 pv ms.length (encP.all ms), Row 63 10 ov os.length (encO.all os), Pool H], hV _ _ _ (fun _ h => h) (Fam.st (fun _ h => h.pick [4, 6])) ?_, H5⟩
        intro K hK
        go_simp
        refine hK _ ?_
        clear hK K hV V
        clear H5 h1 G1 w1 w2
        iterate 5 first
          | (apply plan_pass
             · rfl
             · rfl
             intro K hK
             go_simp
             refine hK _ ?_
             clear hK K)
          | (apply plan_step
             · rfl
             · rfl
             · intro I hI w1 h1'
               have h1 := hI.2 _ h1'
               first
                 | (go_simp
                    first
                      | rfl
                      | exact ⟨rfl, h1'⟩
                   )
             intro K hK
             go_simp
             refine hK _ ?_
             clear hK K)
        refine plan_one rfl rfl ?_
        intro V hV w1 h1
        have r0 := h1.free 3 0 rfl
        have r1 := h1.free 3 1 rfl
        have r2 := h1.free 3 2 rfl
        have x0 := h1.cell 3 0 rfl rfl
        have x1 := h1.cell 3 1 rfl rfl
        have x2 := h1.cell 3 2 rfl rfl
        have H5 := ((h1.set 3 rfl 0 (.string ⟨bk.toArray⟩)).set 3 rfl 1 (.int .i64 bf)).set 3 rfl 2 (.int .i64 bt)
        go_simp
        refine ⟨fun w' => St S w w' [Row 61 3 hk K.length (wds K), Row 3 1 hg G.length (intCells G), Row 61 3 hw ms.length (wds W), Blk bb #[.string ⟨bk.toArray⟩, .int .i64 bf, .int .i64 bt] 61, Blk ob #[.string ⟨key.toArray⟩, .int .i64 tm, .int .i64 te] 61, Blk ib #[.int .i64 1, .string ⟨key.toArray⟩, .int .i64 tm, .int .i64 v] 56, Blk t #[.int .i64 3, .int .i64 sz, .int .i64 sl, .int .i64 lt, .int .i64 ag, .int .i64 kk, .int .i64 mk, pv, ov] 137, Row 68 8 pv ms.length (encP.all ms), Row 63 10 ov os.length (encO.all os), Pool H], hV _ _ _ (fun _ h => h) (Fam.st (fun _ h => h.pick [4, 6])) ?_, H5⟩
        intro K hK
        go_simp
        refine hK _ ?_
        clear hK K hV V
        clear H5 h1 w1 r0 r1 r2 x0 x1 x2
        iterate 1 first
          | (apply plan_pass
             · rfl
             · rfl
             intro K hK
             go_simp
             refine hK _ ?_
             clear hK K)
          | (apply plan_step
             · rfl
             · rfl
             · intro I hI w1 h1'
               have h1 := hI.2 _ h1'
               first
                 | (go_simp
                    first
                      | rfl
                      | exact ⟨rfl, h1'⟩
                   )
             intro K hK
             go_simp
             refine hK _ ?_
             clear hK K)
        refine plan_nil ?_
        intro w9 H9
        go_wp2
        go_meet
        exact ⟨bb, rfl, H9.pick [3, 1, 4, 5, 6, 7, 8, 9]⟩
    case rest =>
      obtain ⟨bb, rfl, HD⟩ := hcut
      clear HC kwin kt
      go_upto_region 3 with (fail)
      refine wp_calm (fun w' => St S w w' [Blk bb #[.string ⟨bk.toArray⟩, .int .i64 bf, .int .i64 bt] 61, Row 3 1 u9 G.length (intCells G), Blk ob #[.string ⟨key.toArray⟩, .int .i64 tm, .int .i64 te] 61, Blk ib #[.int .i64 1, .string ⟨key.toArray⟩, .int .i64 tm, .int .i64 v] 56, Blk t #[.int .i64 3, .int .i64 sz, .int .i64 sl, .int .i64 lt, .int .i64 ag, .int .i64 kk, .int .i64 mk, pv, ov] 137, Row 68 8 pv ms.length (encP.all ms), Row 63 10 ov os.length (encO.all os), Pool H]) (by kernel_rfl) (by kernel_rfl) (HD.drew) ?_
      iterate 11 first
        | (apply calm_pass
           · rfl
           intro K hK
           go_simp
           refine hK _ ?_
           clear hK K)
        | (apply calm_step
           · rfl
           · intro w1 h1
             have i0 := h1.cell 0 0 rfl rfl
             have i1 := h1.cell 0 1 rfl rfl
             have i2 := h1.cell 0 2 rfl rfl
             have d0 := h1.cell 4 0 rfl rfl
             have d1 := h1.cell 4 1 rfl rfl
             have d2 := h1.cell 4 2 rfl rfl
             have d3 := h1.cell 4 3 rfl rfl
             have d4 := h1.cell 4 4 rfl rfl
             have d5 := h1.cell 4 5 rfl rfl
             have d6 := h1.cell 4 6 rfl rfl
             first
               | (go_simp
                  first
                    | rfl
                    | exact ⟨rfl, h1⟩
                    | (go_at_call 136; with_reducible exact St.callPast (kg w1) h1)
                 )
           intro K hK
           go_simp
           refine hK _ ?_
           clear hK K)
      refine calm_nil ?_
      intro w5 H5
      clear HD kg
      have HS : St S w w5 [Blk t (stC qq mk pv ov) 137, Row 68 8 pv ms.length (encP.all ms), Row 63 10 ov os.length (encO.all os), Pool H, Blk bb #[.string ⟨bk.toArray⟩, .int .i64 bf, .int .i64 bt] 61, Row 3 1 u9 G.length (intCells G), Blk ob #[.string ⟨key.toArray⟩, .int .i64 tm, .int .i64 te] 61, Blk ib #[.int .i64 1, .string ⟨key.toArray⟩, .int .i64 tm, .int .i64 v] 56] := by rw [hqqh.out]; exact H5.pick [4, 5, 6, 7, 0, 1, 2, 3]
      have HS2 := Stp.mk' hmlh.out hol2h.out hmoh.out hooh.out HS
      clear HS
      cases gn with
      | true =>
        go_wp2
        rw [← hfnh.out]
        refine hfinh.out _ _ ?_
        rw [if_pos hgnh.out]
        exact ⟨rfl, HS2.pick [0]⟩
      | false =>
        have HS3 : St S w w5 [Stp t qq mk l o, Row 3 1 u9 G.length (intCells G), Blk bb #[.string ⟨bk.toArray⟩, .int .i64 bf, .int .i64 bt] 61, Blk ob #[.string ⟨key.toArray⟩, .int .i64 tm, .int .i64 te] 61, Blk ib #[.int .i64 1, .string ⟨key.toArray⟩, .int .i64 tm, .int .i64 v] 56] := HS2.pick [0, 2, 1, 3, 4]
        obtain ⟨S1, K1, G1⟩ := St.call (l1 := [_, _]) (l2 := [_, _, _]) HS3
        have kj1 := kj.out w5 S1 u9 K1
        have i0 := H5.cell 0 0 rfl rfl
        have i1 := H5.cell 0 1 rfl rfl
        have i2 := H5.cell 0 2 rfl rfl
        have hfin2 := Lib.hid (fun e w' h => (hfnh.out e w').mp (hfinh.out e w' (by rw [if_neg (by rw [hgnh.out]; simp)]; exact h)))
        clear HS2 HS3 K1 H5 kj
        rw [hBWh.out] at kj1
        unfold wdV wdC textV at kj1
        simp only at kj1
        cases GA with
        | none =>
          simp only at kj1
          go_wp2_with (go_at_call 194; go_must (refine kj1.mono ?_; rintro e w6 ⟨rfl, H6⟩))
          refine hfin2.out _ _ ?_
          exact ⟨rfl, (G1 _ _ H6).pick []⟩
        | some y =>
          have hy := hgath.out y rfl
          simp only at kj1
          rw [hBWh.out] at kp
          go_upto_region 8 with (go_at_call 194; go_must (refine kj1.mono ?_; rintro e w6 ⟨rfl, H6⟩))
          have H7 : St S w w6 [Stp t qq mk (withP L2 ⟨⟨bk, bf, bt⟩, y.1, y.2⟩) o, Blk bb #[.string ⟨bk.toArray⟩, .int .i64 bf, .int .i64 bt] 61, Blk ob #[.string ⟨key.toArray⟩, .int .i64 tm, .int .i64 te] 61, Blk ib #[.int .i64 1, .string ⟨key.toArray⟩, .int .i64 tm, .int .i64 v] 56] := G1 _ _ H6
          clear i0 i1 i2 H6
          obtain ⟨S2, K2, G2⟩ := St.call (l1 := [_]) (l2 := [_, _, _]) H7
          have kp1 := kp.out w6 S2 y hy K2
          rw [hBWh.out] at hwseth hfin2
          have hws := hwseth.out.out y.1 y.1 y.2
          obtain ⟨PR, hPR⟩ : ∃ z, putM qq mk ⟨bk, bf, bt⟩ y.1 y.2 v = z := ⟨_, rfl⟩
          simp only [hPR] at kp1 hfin2
          have hPRh := Lib.hid hPR
          have i3 := H7.cell 3 3 rfl rfl
          clear hPR K2 kp hwseth hws
          unfold PutOk at kp1
          cases PR with
          | none =>
            simp only at kp1
            go_wp2_with (go_at_call 139; go_must (refine kp1.mono ?_; rintro e w7 ⟨rfl, H8⟩))
            refine hfin2.out _ _ ?_
            exact ⟨rfl, (G2 _ _ H8).pick []⟩
          | some z =>
            simp only at kp1
            have hset2 := with_set L2 ⟨⟨bk, bf, bt⟩, y.1, y.2⟩ z.1 (put_w hPRh.out)
            simp only at hset2
            rw [hset2] at kp1
            clear hset2
            go_wp2_with (go_at_call 139; go_must (refine kp1.mono ?_; rintro e w7 ⟨rfl, H8⟩))
            refine hfin2.out _ _ ?_
            exact ⟨rfl, (G2 _ _ H8).pick [0]⟩

end Go.Proofs.YtiglgfonhdfpmaaGreat

/- Panes in their order: opening one, laying a value into one. Plain laws. -/
set_option linter.unusedVariables false
set_option linter.unusedSimpArgs false
namespace Go.Proofs.YtiglgfonhdfpmaaGreat
open Go.RowKit

theorem place_self (x : Wd) : x.place x = 0 := place_zero.2 rfl
/-- Panes in their order, cut at a window. -/
theorem ord_cut {l : List Pn} (h : Ord l) (x : Wd) : (∀ y ∈ l.take (placeP l x), y.w.place x < 0) ∧ ∀ y ∈ l.drop (placeP l x), 0 ≤ y.w.place x := by
  constructor
  · intro y hy
    obtain ⟨j, hj⟩ := List.getElem?_of_mem hy
    rw [List.getElem?_take] at hj
    split at hj
    · rename_i hlt
      exact placeP_lo hlt hj
    · cases hj
  · intro y hy
    obtain ⟨j, hj⟩ := List.getElem?_of_mem hy
    rw [List.getElem?_drop] at hj
    exact placeP_hi h (by omega) hj
theorem ord_app {a b : List Pn} {p : Pn} (ha : Ord a) (hb : Ord b) (h1 : ∀ y ∈ a, y.w.place p.w < 0) (h2 : ∀ y ∈ b, p.w.place y.w < 0) : Ord (a ++ p :: b) := by
  unfold Ord
  rw [List.pairwise_append]
  refine ⟨ha, List.pairwise_cons.2 ⟨h2, hb⟩, fun u hu v hv => ?_⟩
  rcases List.mem_cons.1 hv with rfl | hv
  · exact h1 u hu
  · exact place_trans (h1 u hu) (h2 v hv)
theorem placeP_app {a b : List Pn} {x : Wd} (h1 : ∀ y ∈ a, y.w.place x < 0) (h2 : ∀ y ∈ b, 0 ≤ y.w.place x) : placeP (a ++ b) x = a.length := by
  unfold placeP posW
  induction a with
  | nil =>
    cases b with
    | nil => rfl
    | cons z b =>
      have := h2 z (by simp)
      rw [List.nil_append, List.map_cons, List.takeWhile_cons, if_neg (by simp; omega)]
      rfl
  | cons z a ih =>
    rw [List.cons_append, List.map_cons, List.takeWhile_cons, if_pos (by simpa using h1 z (by simp)), List.length_cons, List.length_cons, ih (fun y hy => h1 y (List.mem_cons_of_mem _ hy))]
theorem gath_skip (q : Qry) (x : Wd) (old : Wd → Bool) : ∀ (l : List Pn) (s : Ag × Int), (∀ p ∈ l, old p.w = false) → gathM q x old l s = some s
  | [], s, _ => rfl
  | p :: l, s, h => by
    unfold gathM
    rw [if_neg (by rw [h p (by simp)]; simp)]
    exact gath_skip q x old l s (fun y hy => h y (List.mem_cons_of_mem _ hy))
theorem gath_cons (q : Qry) (x : Wd) (old : Wd → Bool) (p : Pn) (l : List Pn) (s : Ag × Int) : gathM q x old (p :: l) s = if old p.w = true then (match mergeM q s.1 p.g with | none => none | some g => gathM q x old l (g, if p.w = x then p.round else s.2)) else gathM q x old l s := rfl
theorem merge_zero (q : Qry) (g : Ag) : mergeM q Ag.zero g = some g := rfl
/-- A window's pane, or an empty one. -/
theorem lay_one {q : Qry} {mk v : Int} {x : Wd} {l : List Pn} (h : Ord l) : ∃ p0, (openM l x)[placeP l x]? = some p0 ∧ p0.w = x ∧ (p0 ∈ l ∨ p0 = ⟨x, Ag.zero, 0⟩) ∧ Ord (openM l x) ∧ (∀ y ∈ openM l x, y ∈ l ∨ y = ⟨x, Ag.zero, 0⟩) ∧ (openM l x).length ≤ l.length + 1 ∧
    layM q mk x (fun y => decide (y = x)) v l = (match putM q mk x p0.g p0.round v with | none => none | some y => some ((openM l x).set (placeP l x) y.1, y.2)) := by
  obtain ⟨h1, h2⟩ := ord_cut h x
  have hk := placeP_le l x
  have hlen : (l.take (placeP l x)).length = placeP l x := by rw [List.length_take]; omega
  have hne1 : ∀ y ∈ l.take (placeP l x), ¬ y.w = x := fun y hy e => by
    have := h1 y hy
    rw [e, place_self] at this
    omega
  by_cases hf : ∃ p, l[placeP l x]? = some p ∧ p.w = x
  · have ho : openM l x = l := by unfold openM; rw [if_pos hf]
    obtain ⟨p, hp, hpw⟩ := hf
    rw [ho]
    refine ⟨p, hp, hpw, .inl (List.mem_of_getElem? hp), h, fun y hy => .inl hy, by omega, ?_⟩
    have e0 : l = l.take (placeP l x) ++ p :: l.drop (placeP l x + 1) := by
      have := (List.getElem?_eq_some_iff.1 hp).2
      rw [← this, List.getElem_cons_drop, List.take_append_drop]
    have hB : ∀ y ∈ l.drop (placeP l x + 1), 0 < y.w.place x := fun y hy => by
      have ho2 : Ord (l.take (placeP l x) ++ p :: l.drop (placeP l x + 1)) := by rw [← e0]; exact h
      have h3 := (List.pairwise_cons.1 (List.pairwise_append.1 ho2).2.1).1 y hy
      rw [hpw] at h3
      have := place_swap x y.w
      omega
    obtain ⟨A, hA⟩ : ∃ A, l.take (placeP l x) = A := ⟨_, rfl⟩
    obtain ⟨B, hBB⟩ : ∃ B, l.drop (placeP l x + 1) = B := ⟨_, rfl⟩
    obtain ⟨k, hkk⟩ : ∃ k, placeP l x = k := ⟨_, rfl⟩
    rw [hA, hBB] at e0
    rw [hA] at h1 hne1 hlen
    rw [hBB] at hB
    rw [hkk] at hlen ⊢
    have hne2 : ∀ y ∈ B, ¬ y.w = x := fun y hy e => by
      have := hB y hy
      rw [e, place_self] at this
      omega
    clear hA hBB hkk hp h2 hk ho h
    subst hlen e0
    have hg : gathM q x (fun y => decide (y = x)) (A ++ p :: B) (Ag.zero, 0) = some (p.g, p.round) := by
      rw [gath_app, gath_skip q x _ A _ (fun y hy => decide_eq_false (hne1 y hy)), Option.bind_some, gath_cons, if_pos (decide_eq_true hpw)]
      simp only [merge_zero]
      rw [gath_skip q x _ B _ (fun y hy => decide_eq_false (hne2 y hy)), if_pos hpw]
    have hfil : ((A ++ p :: B).filter fun z => !decide (z.w = x)) = A ++ B := by
      rw [List.filter_append, List.filter_cons, if_neg (by simp [hpw]), List.filter_eq_self.2 (fun y hy => by simpa using hne1 y hy), List.filter_eq_self.2 (fun y hy => by simpa using hne2 y hy)]
    unfold layM
    rw [hg]
    simp only
    rw [hfil]
    cases hpm : putM q mk x p.g p.round v with
    | none => rfl
    | some y =>
      simp only
      have hy := put_w hpm
      unfold withP
      rw [hy, placeP_app h1 (fun z hz => by have := hB z hz; omega), List.take_append_of_le_length (Nat.le_refl _), List.take_length, List.drop_append_of_le_length (Nat.le_refl _), List.drop_length, List.nil_append, List.set_append_right _ _ (Nat.le_refl _), Nat.sub_self, List.set_cons_zero]
  · have ho : openM l x = withP l ⟨x, Ag.zero, 0⟩ := by unfold openM; rw [if_neg hf]
    rw [ho]
    have hne2 : ∀ y ∈ l.drop (placeP l x), ¬ y.w = x := by
      have hd : l = l.take (placeP l x) ++ l.drop (placeP l x) := (List.take_append_drop _ _).symm
      have ho2 : Ord (l.drop (placeP l x)) := h.sublist (List.drop_sublist _ _)
      have hh : ∀ z, l[placeP l x]? = some z → ¬ z.w = x := fun z hz e => hf ⟨z, hz, e⟩
      cases hdd : l.drop (placeP l x) with
      | nil => intro y hy; cases hy
      | cons z r =>
        have hz : l[placeP l x]? = some z := by
          have e : (l.drop (placeP l x))[0]? = some z := by rw [hdd]; rfl
          rw [List.getElem?_drop, Nat.add_zero] at e
          exact e
        rw [hdd] at ho2 h2
        intro y hy
        rcases List.mem_cons.1 hy with rfl | hy
        · exact hh _ hz
        · intro e
          have h3 := (List.pairwise_cons.1 ho2).1 y hy
          have h4 := h2 z (by simp)
          rw [e] at h3
          omega
    have hne : ∀ y ∈ l, ¬ y.w = x := fun y hy => by
      rw [← List.take_append_drop (placeP l x) l] at hy
      rcases List.mem_append.1 hy with hy | hy
      · exact hne1 y hy
      · exact hne2 y hy
    refine ⟨⟨x, Ag.zero, 0⟩, with_at l ⟨x, Ag.zero, 0⟩, rfl, .inr rfl, ?_, ?_, ?_, ?_⟩
    · unfold withP
      refine ord_app (h.sublist (List.take_sublist _ _)) (h.sublist (List.drop_sublist _ _)) h1 (fun y hy => ?_)
      have h3 := h2 y hy
      have h4 := place_swap y.w x
      have h5 : y.w.place x ≠ 0 := fun e => hne2 y hy (place_zero.1 e)
      show x.place y.w < 0
      omega
    · intro y hy
      unfold withP at hy
      rcases List.mem_append.1 hy with hy | hy
      · exact .inl (List.mem_of_mem_take hy)
      · rcases List.mem_cons.1 hy with rfl | hy
        · exact .inr rfl
        · exact .inl (List.mem_of_mem_drop hy)
    · unfold withP
      simp only [List.length_append, List.length_take, List.length_cons, List.length_drop]
      omega
    · unfold layM
      rw [gath_skip q x _ l _ (fun y hy => decide_eq_false (hne y hy))]
      simp only
      have hfil : (l.filter fun z => !decide (z.w = x)) = l := List.filter_eq_self.2 (fun y hy => by simpa using hne y hy)
      rw [hfil]
      cases hpm : putM q mk x Ag.zero 0 v with
      | none => rfl
      | some y =>
        simp only
        rw [with_set l ⟨x, Ag.zero, 0⟩ y.1 (put_w hpm)]
theorem ord_set {l : List Pn} (h : Ord l) {k : Nat} {p p' : Pn} (hp : l[k]? = some p) (hw : p'.w = p.w) : Ord (l.set k p') := by
  have e : (l.set k p').map (·.w) = l.map (·.w) := by
    rw [List.map_set, hw]
    refine List.ext_getElem? fun j => ?_
    rw [List.getElem?_set]
    split
    · rename_i hj
      subst hj
      have hlt := (List.getElem?_eq_some_iff.1 hp).1
      rw [if_pos (by simpa using hlt), List.getElem?_map, hp]
      rfl
    · rfl
  have h2 : (l.map (·.w)).Pairwise fun a b => a.place b < 0 := List.pairwise_map.2 h
  rw [← e] at h2
  exact List.pairwise_map.1 h2
theorem put_good {q : Qry} {mk : Int} {x : Wd} {g : Ag} {r v : Int} {y : Pn × List Ot} (hg : g.right q = true) (hr : 0 ≤ r ∧ r ≤ 1073741824) (hv : valB v = true) (h : putM q mk x g r v = some y) : y.1.g.right q = true ∧ (0 ≤ y.1.round ∧ y.1.round ≤ 1073741824) ∧ y.2.length ≤ 1 := by
  have hs := single_right (Ag.right_iff.1 hg).1 hv
  unfold putM at h
  cases hm : mergeM q g (singleM q v) with
  | none => rw [hm] at h; cases h
  | some a =>
    rw [hm] at h
    have ha := merge_right hg hs hm
    simp only at h
    split at h
    · split at h
      · cases h
      · rename_i hne
        cases h
        exact ⟨ha, ⟨by simp only; omega, by simp only; omega⟩, by simp⟩
    · cases h
      exact ⟨ha, hr, by simp⟩

end Go.Proofs.YtiglgfonhdfpmaaGreat
