import Derived.Test.YtiglgfonhdfpmaaGreatLw1
import Derived.Test.YtiglgfonhdfpmaaGreatLw2
import Derived.Test.YtiglgfonhdfpmaaGreatLw3
import Derived.Test.YtiglgfonhdfpmaaGreatLw4
import Derived.Test.YtiglgfonhdfpmaaGreatLw9
import Derived.Deep.CutBlock
import Derived.Lib.ItoaNum
import Derived.Lib.AtoiAll
import Derived.Lib.Split
import Derived.Lib.SplitLaws
import Derived.Lib.IndexLaws
import Derived.Lib.CountLaws
/- The stepper's join, first part: what gave way, joined. Conditions: the panes are right and in their order; so many. (Printed by a program of mine.) -/
set_option linter.unusedVariables false
set_option linter.unusedSimpArgs false
namespace Go.Proofs.YtiglgfonhdfpmaaGreat
open Go.RowKit

theorem gath_app (q : Qry) (x : Wd) (old : Wd → Bool) : ∀ (l m : List Pn) (s : Ag × Int), gathM q x old (l ++ m) s = (gathM q x old l s).bind (gathM q x old m)
  | [], m, s => rfl
  | p :: r, m, s => by
    rw [List.cons_append]
    unfold gathM
    split
    · split
      · rfl
      · exact gath_app q x old r m _
    · exact gath_app q x old r m s
def allW (_ : Wd) : Bool := true
theorem gath_filter (q : Qry) (x : Wd) (old : Wd → Bool) : ∀ (l : List Pn) (s : Ag × Int), gathM q x old l s = gathM q x allW (l.filter fun p => old p.w) s
  | [], s => rfl
  | p :: r, s => by
    by_cases h : old p.w = true
    · rw [List.filter_cons, if_pos h]
      unfold gathM
      rw [if_pos h, if_pos (show allW p.w = true from rfl)]
      split
      · rfl
      · exact gath_filter q x old r _
    · rw [List.filter_cons, if_neg h]
      unfold gathM
      rw [if_neg h]
      rw [gath_filter q x old r s]
      cases (r.filter fun p => old p.w) <;> rfl
/-- Which panes some places are. -/
def IdxOf (l : List Pn) (gave : List Int) (ps : List Pn) : Prop := gave.length = ps.length ∧ ∀ (j : Nat) p, ps[j]? = some p → ∃ n : Nat, gave[j]? = some (n : Int) ∧ l[n]? = some p
theorem pn_row {w : World} {base g n cap : Nat} {L : List Pm} {e : TypeId} (h : w.ownsRow base e 8 (.slice (some ⟨g, 0, none⟩) n cap) n (encP.all L)) {i : Nat} {x : Pm} (hx : L[i]? = some x) :
    w.cell? ⟨g, i * 8, none⟩ = some (textV x.p.w.key) ∧ w.cell? ⟨g, i * 8 + 1, none⟩ = some (.int .i64 x.p.w.frm) ∧ w.cell? ⟨g, i * 8 + 2, none⟩ = some (.int .i64 x.p.w.to) ∧ w.cell? ⟨g, i * 8 + 3, none⟩ = some (.int .i64 x.p.g.n) ∧
    w.cell? ⟨g, i * 8 + 4, none⟩ = some (.int .i64 x.p.g.a) ∧ w.cell? ⟨g, i * 8 + 5, none⟩ = some x.hd ∧ w.cell? ⟨g, i * 8 + 6, none⟩ = some (.complex .f64 (ib x.p.g.x) (ib x.p.g.y)) ∧ w.cell? ⟨g, i * 8 + 7, none⟩ = some (.int .i64 x.p.round) :=
  have key : ∀ c v, (pnC x).toList[c]? = some v → w.cell? ⟨g, i * 8 + c, none⟩ = some v := fun c v hv => own_cell h (encP.get hx (show (encP.cells x)[c]? = some v from hv))
  ⟨key 0 _ rfl, key 1 _ rfl, key 2 _ rfl, key 3 _ rfl, key 4 _ rfl, key 5 _ rfl, key 6 _ rfl, key 7 _ rfl⟩
/-- What the joined ones come to. -/
def JoinOk (t : Nat) (q : Qry) (mk : Int) (l : List Pn) (x : Wd) (o : List Ot) (S : Nat → Prop) (w : World) (r : Option (Ag × Int)) (e : Ending) (w' : World) : Prop :=
  match r with
  | none => e = .returned (.tuple #[.int .i64 0, .int .i64 20]) ∧ St S w w' []
  | some y => e = .returned (.tuple #[.int .i64 (placeP (l.filter fun p => !p.w.joins x) x), .int .i64 0]) ∧ St S w w' [Stp t q mk (withP (l.filter fun p => !p.w.joins x) ⟨x, y.1, y.2⟩) o]

set_option maxHeartbeats 8000000 in
set_option maxRecDepth 100000 in
theorem step_join {t : Nat} {q : Qry} {mk : Int} {l : List Pn} {o : List Ot} {x : Wd} {gave : List Int} {vg : Value} {ps : List Pn} {w : World} {S : Nat → Prop} (hq : q.right = true) (hord : Ord l) (hll : l.length ≤ 1073741823) (hgr : ∀ p ∈ l, p.g.right q = true) (hlf : ∀ p ∈ l, p.w.fits) (hx : x.fits) (hidx : IdxOf l gave ps) (hpl : ps.length ≤ 1073741824)
    (H0 : Sep w [Stp t q mk l o, Row 3 1 vg gave.length (intCells gave)] S) :
    Calls Tryz.prog 194 #[.pointer (some ⟨t, 0, none⟩), wdV x, vg] w fun e w' => JoinOk t q mk l x o S w (gathM q x allW ps (Ag.zero, 0)) e w' := by
  obtain ⟨pv, ov, ms, os, H, rfl, rfl, hmo, hoo, H1⟩ := Stp.open (St.refl H0)
  clear H0
  rw [List.length_map] at hll
  obtain ⟨pa, pc, rfl, hpc, hpa⟩ := slice_form' (H1.row 1 rfl)
  obtain ⟨va, vc, rfl, hvc, hva⟩ := slice_form' (H1.row 4 rfl)
  have kmg := Lib.hid (fun (w' : World) (g1 g2 : Ag) (hv hu : Value) (h1 : IntsRO w' hv g1.top) (h2 : IntsRO w' hu g2.top) (h3 : g1.right q = true) (h4 : g2.right q = true) => agg_merge q g1 g2 w' h1 h2 h3 h4)
  have hmrg := Lib.hid (fun (g1 g2 : Ag) (h3 : g1.right q = true) (h4 : g2.right q = true) => merge_lim h3 h4)
  have hgapp := Lib.hid (fun (a b : List Pn) (s : Ag × Int) => gath_app q x allW a b s)
  have hz := zero_right hq
  have hordh := Lib.hid hord
  have hgrh := Lib.hid hgr
  have hlfh := Lib.hid hlf
  have hidxh := Lib.hid hidx
  have hpah := Lib.hid hpa
  have hvah := Lib.hid hva
  have hxh := Lib.hid hx
  have hgl : gave.length = ps.length := hidx.1
  clear hq hord hgr hlf hidx hpa hva hx
  obtain ⟨gm, hgm⟩ : ∃ f : List Pn → Ag × Int → Option (Ag × Int), (fun l s => gathM q x allW l s) = f := ⟨_, rfl⟩
  have hgmh := Lib.hid (fun (l : List Pn) (s : Ag × Int) => congrFun (congrFun hgm l) s)
  obtain ⟨res, hres⟩ : ∃ r, gathM q x allW ps (Ag.zero, 0) = r := ⟨_, rfl⟩
  rw [hres]
  have hresh := Lib.hid hres
  clear hres hgm
  have hpm0 := Lib.hid (pm0_cells x)
  obtain ⟨qq, hqq⟩ : ∃ z, z = q := ⟨_, rfl⟩
  have hqqh := Lib.hid hqq
  obtain ⟨xx, hxx⟩ : ∃ z, z = x := ⟨_, rfl⟩
  have hxxh := Lib.hid hxx
  have hgoal : JoinOk t q mk (ms.map (·.p)) x (os.map (·.o)) S w res = JoinOk t qq mk (ms.map (·.p)) xx (os.map (·.o)) S w res := by rw [hqq, hxx]
  rw [hgoal]
  clear hqq hxx hgoal
  obtain ⟨kd, sz, sl, lt, ag, kk⟩ := q
  obtain ⟨yk, yf, yt⟩ := x
  unfold stC at H1
  unfold wdV wdC textV
  simp only at H1 ⊢
  have H2 : St S w _ (_ :: _) := H1.allocAt rfl #[.string ⟨yk.toArray⟩, .int .i64 yf, .int .i64 yt] 61
  obtain ⟨xb, hxb⟩ : ∃ b, w.heap.size = b := ⟨_, rfl⟩
  obtain ⟨w1, hw1⟩ : ∃ w1, w.alloc (.cells #[.string ⟨yk.toArray⟩, .int .i64 yf, .int .i64 yt] 61) = w1 := ⟨_, rfl⟩
  go_enter Tryz.func194, Tryz.ntmps194
  go_upto_region 1 with (fail)
  rw [hw1, hxb] at H2
  try rw [hw1]
  try simp only [hxb]
  have H3 : St S w w1 [Blk xb #[.string ⟨yk.toArray⟩, .int .i64 yf, .int .i64 yt] 61, Blk t #[.int .i64 kd, .int .i64 sz, .int .i64 sl, .int .i64 lt, .int .i64 ag, .int .i64 kk, .int .i64 mk, .slice pa ms.length pc, ov] 137, Row 68 8 (.slice pa ms.length pc) ms.length (encP.all ms), Row 63 10 ov os.length (encO.all os), Pool H, Row 3 1 (.slice va gave.length vc) gave.length (intCells gave)] := H2
  have hxbh := Lib.hid hxb
  clear hw1 hxb H1 H2
  have d0 := H3.cell 0 0 rfl rfl
  have d1 := H3.cell 0 1 rfl rfl
  have d2 := H3.cell 0 2 rfl rfl
  have H4 : St S w _ (_ :: _) := H3.allocAt rfl #[.string ⟨yk.toArray⟩, .int .i64 yf, .int .i64 yt, .int .i64 0, .int .i64 0, .slice none 0 0, .complex .f64 0 0, .int .i64 0] 68
  go_upto_block 1 with (fail)
  obtain ⟨nb, hnb⟩ : ∃ b, w1.heap.size = b := ⟨_, rfl⟩
  obtain ⟨w2, hw2⟩ : ∃ w2, w1.alloc (.cells #[.string ⟨yk.toArray⟩, .int .i64 yf, .int .i64 yt, .int .i64 0, .int .i64 0, .slice none 0 0, .complex .f64 0 0, .int .i64 0] 68) = w2 := ⟨_, rfl⟩
  rw [hw2, hnb] at H4
  try rw [hw2]
  try simp only [hnb]
  have H5 : St S w w2 [Blk nb #[.string ⟨yk.toArray⟩, .int .i64 yf, .int .i64 yt, .int .i64 0, .int .i64 0, .slice none 0 0, .complex .f64 0 0, .int .i64 0] 68, Blk xb #[.string ⟨yk.toArray⟩, .int .i64 yf, .int .i64 yt] 61, Row 3 1 (.slice va gave.length vc) gave.length (intCells gave), Blk t #[.int .i64 kd, .int .i64 sz, .int .i64 sl, .int .i64 lt, .int .i64 ag, .int .i64 kk, .int .i64 mk, .slice pa ms.length pc, ov] 137, Row 68 8 (.slice pa ms.length pc) ms.length (encP.all ms), Row 63 10 ov os.length (encO.all os), Pool H] := H4.pick [0, 1, 6, 2, 3, 4, 5]
  have H6 : St S w w2 [Blk nb #[.string ⟨yk.toArray⟩, .int .i64 yf, .int .i64 yt, .int .i64 0, .int .i64 0, .slice none 0 0, .complex .f64 0 0, .int .i64 0] 68, Blk xb #[.string ⟨yk.toArray⟩, .int .i64 yf, .int .i64 yt] 61, Row 3 1 (.slice va gave.length vc) gave.length (intCells gave), Blk t #[.int .i64 kd, .int .i64 sz, .int .i64 sl, .int .i64 lt, .int .i64 ag, .int .i64 kk, .int .i64 mk, .slice pa ms.length pc, ov] 137, Row 68 8 (.slice pa ms.length pc) ms.length (encP.all ms), Row 63 10 ov os.length (encO.all os), Pool ((.slice none 0 0, []) :: H)] := H5.pool_zero 6 rfl
  have hnbh := Lib.hid hnb
  clear hw2 hnb H3 H4 H5 d0 d1 d2
  go_loopw [10, 11, 12, 13, 20] (fun _ _ _ _ j wr => ∃ (n : Nat) (s : Ag × Int) (na : Option Addr) (nc : Nat) (H1 : List (Value × List Int)), n ≤ ps.length ∧ j = .int .i64 n ∧ Hid (gm (ps.take n) (Ag.zero, 0) = some s) ∧ Hid (s.1.right ⟨kd, sz, sl, lt, ag, kk⟩ = true) ∧ Hid ((Value.slice na s.1.top.length nc, s.1.top) ∈ H1) ∧ Hid (∀ m ∈ ms, Pm.own m ∈ H1) ∧ Hid (∀ y ∈ os, Om.own y ∈ H1) ∧ St S w wr [Blk nb #[.string ⟨yk.toArray⟩, .int .i64 yf, .int .i64 yt, .int .i64 s.1.n, .int .i64 s.1.a, .slice na s.1.top.length nc, .complex .f64 (ib s.1.x) (ib s.1.y), .int .i64 s.2] 68, Blk xb #[.string ⟨yk.toArray⟩, .int .i64 yf, .int .i64 yt] 61, Row 3 1 (.slice va gave.length vc) gave.length (intCells gave), Blk t #[.int .i64 kd, .int .i64 sz, .int .i64 sl, .int .i64 lt, .int .i64 ag, .int .i64 kk, .int .i64 mk, .slice pa ms.length pc, ov] 137, Row 68 8 (.slice pa ms.length pc) ms.length (encP.all ms), Row 63 10 ov os.length (encO.all os), Pool H1]) (fun _ _ _ _ j _ => ps.length - (intOf j).toNat)
  case atStart => exact ⟨0, (Ag.zero, 0), none, 0, (.slice none 0 0, []) :: H, by omega, rfl, Lib.hid (by rw [← hgmh.out]; rfl), Lib.hid hz, Lib.hid (List.mem_cons_self), Lib.hid (fun m hm => List.mem_cons_of_mem _ (hmo m hm)), Lib.hid (fun y hy => List.mem_cons_of_mem _ (hoo y hy)), by rw [show ib (Ag.zero).x = 0 from ib_zero, show ib (Ag.zero).y = 0 from ib_zero]; exact H6⟩
  case round =>
    clear H6 hmo hoo hz
    obtain ⟨n, s, na, nc, H1, hn, rfl, hs, hsr, hin, hmoh, hooh, HM⟩ := hrel
    by_cases hlt : n < ps.length
    · obtain ⟨p, hp⟩ : ∃ p, ps[n]? = some p := ⟨_, List.getElem?_eq_getElem hlt⟩
      obtain ⟨k, hk1, hk2⟩ := hidxh.out.2 n p hp
      rw [List.getElem?_map] at hk2
      obtain ⟨m, hm, hmp⟩ := Option.map_eq_some_iff.1 hk2
      subst hmp
      have hkl := (List.getElem?_eq_some_iff.1 hm).1
      obtain ⟨g, rfl⟩ := hpah.out (by omega)
      obtain ⟨gv, rfl⟩ := hvah.out (by omega)
      have hgc : wr.cell? ⟨gv, n, none⟩ = some (.int .i64 k) := own_cell (HM.row 2 rfl) (by unfold intCells; rw [List.getElem?_map, hk1]; rfl)
      obtain ⟨q0, q1, q2, q3, q4, q5, q6, q7⟩ := pn_row (HM.row 4 rfl) hm
      have hmm := List.mem_of_getElem? hm
      have hmr := hgrh.out m.p (List.mem_map.2 ⟨m, hmm, rfl⟩)
      have km := fun w' (h1 : IntsRO w' (.slice na s.1.top.length nc) s.1.top) (h2 : IntsRO w' m.hd m.p.g.top) => kmg.out w' s.1 m.p.g _ _ h1 h2 hsr.out hmr
      have hMr := hmrg.out s.1 m.p.g hsr.out hmr
      have hxin := hmoh.out m hmm
      have hinh := hin
      have hnext : gm (ps.take (n + 1)) (Ag.zero, 0) = match mergeM ⟨kd, sz, sl, lt, ag, kk⟩ s.1 m.p.g with | none => none | some g => some (g, if m.p.w = ⟨yk, yf, yt⟩ then m.p.round else s.2) := by
        rw [← hgmh.out, take_snoc' hp, hgapp.out, hgmh.out, hs.out, Option.bind_some]
        unfold gathM
        rw [if_pos (show allW m.p.w = true from rfl)]
        cases mergeM ⟨kd, sz, sl, lt, ag, kk⟩ s.1 m.p.g <;> rfl
      have hfail : mergeM ⟨kd, sz, sl, lt, ag, kk⟩ s.1 m.p.g = none → res = none := fun h => by
        rw [h] at hnext
        have e : ps = ps.take (n + 1) ++ ps.drop (n + 1) := (List.take_append_drop _ _).symm
        rw [← hresh.out, e, hgapp.out, hgmh.out, hnext]
        rfl
      obtain ⟨M, hM⟩ : ∃ M, mergeC ⟨kd, sz, sl, lt, ag, kk⟩ s.1 m.p.g = M := ⟨_, rfl⟩
      rw [hM] at hMr
      simp only [hM] at km
      have hcd : (M.2 = 20 ∧ res = none) ∨ (M.2 = 0 ∧ gm (ps.take (n + 1)) (Ag.zero, 0) = some (M.1, if m.p.w = ⟨yk, yf, yt⟩ then m.p.round else s.2)) := by
        cases hmg : mergeM ⟨kd, sz, sl, lt, ag, kk⟩ s.1 m.p.g with
        | none =>
          rw [mergeC_none hmg] at hM
          rw [← hM]
          exact .inl ⟨rfl, hfail hmg⟩
        | some gg =>
          rw [mergeC_some hmg] at hM
          rw [hmg] at hnext
          rw [← hM]
          exact .inr ⟨rfl, hnext⟩
      have htb := valB_of_top hMr
      have hcdh := Lib.hid hcd
      have hMrh := Lib.hid hMr
      have hmh := Lib.hid hm
      have hxinh := Lib.hid hxin
      have hkl2 : (k : Int) < (ms.length : Int) := by omega
      have hnl2 : (n : Int) < (gave.length : Int) := by omega
      clear hp hk1 hk2 hm hmm hmr hM hnext hfail hcd hMr hin hxin
      have hxin := hxinh
      obtain ⟨⟨sn, sa, st, sx, sy⟩, sr⟩ := s
      obtain ⟨⟨⟨xk, xf, xt⟩, ⟨gn, ga, gt, gx, gy⟩, xr⟩, xa, xc⟩ := m
      obtain ⟨⟨mn, ma, tm, mx, my⟩, cd⟩ := M
      unfold qyV qyC agV agC Pm.hd at km
      unfold textV at q0
      unfold Pm.hd at q5
      unfold Pm.own Pm.hd at hxin
      simp only at km q0 q1 q2 q3 q4 q5 q6 q7 HM hinh hcdh htb hxin
      obtain ⟨SX, hSX⟩ : ∃ X, ib sx = X := ⟨_, rfl⟩
      obtain ⟨SY, hSY⟩ : ∃ X, ib sy = X := ⟨_, rfl⟩
      obtain ⟨GX, hGX⟩ : ∃ X, ib gx = X := ⟨_, rfl⟩
      obtain ⟨GY, hGY⟩ : ∃ X, ib gy = X := ⟨_, rfl⟩
      obtain ⟨MX, hMX⟩ : ∃ X, ib mx = X := ⟨_, rfl⟩
      obtain ⟨MY, hMY⟩ : ∃ X, ib my = X := ⟨_, rfl⟩
      simp only [hSX, hSY, hGX, hGY, hMX, hMY] at km q6 HM
      have hMXh := Lib.hid hMX
      have hMYh := Lib.hid hMY
      clear hSX hSY hGX hGY hMX hMY
      have c7 := HM.cell 3 7 rfl rfl
      have HA : St S w _ (_ :: _) := HM.allocAt rfl #[.string ⟨xk.toArray⟩, .int .i64 xf, .int .i64 xt, .int .i64 gn, .int .i64 ga, .slice xa gt.length xc, .complex .f64 GX GY, .int .i64 xr] 68
      go_upto_region 6 with (fail)
      obtain ⟨wb, hwb⟩ : ∃ wb, wr.alloc (.cells #[.string ⟨xk.toArray⟩, .int .i64 xf, .int .i64 xt, .int .i64 gn, .int .i64 ga, .slice xa gt.length xc, .complex .f64 GX GY, .int .i64 xr] 68) = wb := ⟨_, rfl⟩
      obtain ⟨pb, hpb⟩ : ∃ pb, wr.heap.size = pb := ⟨_, rfl⟩
      rw [hwb, hpb] at HA
      try rw [hwb]
      try simp only [hpb]
      have HA2 : St S w wb [Blk pb #[.string ⟨xk.toArray⟩, .int .i64 xf, .int .i64 xt, .int .i64 gn, .int .i64 ga, .slice xa gt.length xc, .complex .f64 GX GY, .int .i64 xr] 68, Blk nb #[.string ⟨yk.toArray⟩, .int .i64 yf, .int .i64 yt, .int .i64 sn, .int .i64 sa, .slice na st.length nc, .complex .f64 SX SY, .int .i64 sr] 68, Blk xb #[.string ⟨yk.toArray⟩, .int .i64 yf, .int .i64 yt] 61, Blk t #[.int .i64 kd, .int .i64 sz, .int .i64 sl, .int .i64 lt, .int .i64 ag, .int .i64 kk, .int .i64 mk, .slice (some ⟨g, 0, none⟩) ms.length pc, ov] 137, Row 3 1 (.slice (some ⟨gv, 0, none⟩) gave.length vc) gave.length (intCells gave), Row 68 8 (.slice (some ⟨g, 0, none⟩) ms.length pc) ms.length (encP.all ms), Row 63 10 ov os.length (encO.all os), Pool H1] := HA.pick [0, 1, 2, 4, 3, 5, 6, 7]
      clear hwb hpb q0 q1 q2 q3 q4 q5 q6 q7 hgc c7 HM HA
      have HB : St S w wb [Pool H1, Blk pb #[.string ⟨xk.toArray⟩, .int .i64 xf, .int .i64 xt, .int .i64 gn, .int .i64 ga, .slice xa gt.length xc, .complex .f64 GX GY, .int .i64 xr] 68, Blk nb #[.string ⟨yk.toArray⟩, .int .i64 yf, .int .i64 yt, .int .i64 sn, .int .i64 sa, .slice na st.length nc, .complex .f64 SX SY, .int .i64 sr] 68, Blk xb #[.string ⟨yk.toArray⟩, .int .i64 yf, .int .i64 yt] 61, Blk t #[.int .i64 kd, .int .i64 sz, .int .i64 sl, .int .i64 lt, .int .i64 ag, .int .i64 kk, .int .i64 mk, .slice (some ⟨g, 0, none⟩) ms.length pc, ov] 137, Row 3 1 (.slice (some ⟨gv, 0, none⟩) gave.length vc) gave.length (intCells gave), Row 68 8 (.slice (some ⟨g, 0, none⟩) ms.length pc) ms.length (encP.all ms), Row 63 10 ov os.length (encO.all os)] := HA2.pick [7, 0, 1, 2, 3, 4, 5, 6]
      clear HA2
      go_cut [12, 13, 32] from 33 to 43 (fun p12 p13 _ wx => ∃ (ab : Nat) (am : Option Addr) (cm : Nat), p12 = .pointer (some ⟨ab, 0, none⟩) ∧ p13 = .int .i64 cd ∧ St S w wx [Blk ab #[.int .i64 mn, .int .i64 ma, .slice am tm.length cm, .complex .f64 MX MY] 66, Pool ((.slice am tm.length cm, tm) :: H1), Blk pb #[.string ⟨xk.toArray⟩, .int .i64 xf, .int .i64 xt, .int .i64 gn, .int .i64 ga, .slice xa gt.length xc, .complex .f64 GX GY, .int .i64 xr] 68, Blk nb #[.string ⟨yk.toArray⟩, .int .i64 yf, .int .i64 yt, .int .i64 sn, .int .i64 sa, .slice na st.length nc, .complex .f64 SX SY, .int .i64 sr] 68, Blk xb #[.string ⟨yk.toArray⟩, .int .i64 yf, .int .i64 yt] 61, Blk t #[.int .i64 kd, .int .i64 sz, .int .i64 sl, .int .i64 lt, .int .i64 ag, .int .i64 kk, .int .i64 mk, .slice (some ⟨g, 0, none⟩) ms.length pc, ov] 137, Row 3 1 (.slice (some ⟨gv, 0, none⟩) gave.length vc) gave.length (intCells gave), Row 68 8 (.slice (some ⟨g, 0, none⟩) ms.length pc) ms.length (encP.all ms), Row 63 10 ov os.length (encO.all os)])
      case first =>
        refine wp_plan (.small 0 (.small 1 (.small 2 (.small 3 (.small 4 (.small 5 (.small 6 (.small 7 (.fork 8 12 (.small 9 (.small 10 (.small 11 (.alone 12 (.alone 13 (.small 14 .nil)))))) (.alone 8 (.small 9 (.small 10 (.small 11 (.alone 13 (.small 14 .nil))))))))))))))) (Fam fun w' => St S w w' [Blk pb #[.string ⟨xk.toArray⟩, .int .i64 xf, .int .i64 xt, .int .i64 gn, .int .i64 ga, .slice xa gt.length xc, .complex .f64 GX GY, .int .i64 xr] 68, Blk nb #[.string ⟨yk.toArray⟩, .int .i64 yf, .int .i64 yt, .int .i64 sn, .int .i64 sa, .slice na st.length nc, .complex .f64 SX SY, .int .i64 sr] 68, Blk t #[.int .i64 kd, .int .i64 sz, .int .i64 sl, .int .i64 lt, .int .i64 ag, .int .i64 kk, .int .i64 mk, .slice (some ⟨g, 0, none⟩) ms.length pc, ov] 137]) (fun w' => St S w w' [Pool H1, Blk pb #[.string ⟨xk.toArray⟩, .int .i64 xf, .int .i64 xt, .int .i64 gn, .int .i64 ga, .slice xa gt.length xc, .complex .f64 GX GY, .int .i64 xr] 68, Blk nb #[.string ⟨yk.toArray⟩, .int .i64 yf, .int .i64 yt, .int .i64 sn, .int .i64 sa, .slice na st.length nc, .complex .f64 SX SY, .int .i64 sr] 68, Blk xb #[.string ⟨yk.toArray⟩, .int .i64 yf, .int .i64 yt] 61, Blk t #[.int .i64 kd, .int .i64 sz, .int .i64 sl, .int .i64 lt, .int .i64 ag, .int .i64 kk, .int .i64 mk, .slice (some ⟨g, 0, none⟩) ms.length pc, ov] 137, Row 3 1 (.slice (some ⟨gv, 0, none⟩) gave.length vc) gave.length (intCells gave), Row 68 8 (.slice (some ⟨g, 0, none⟩) ms.length pc) ms.length (encP.all ms), Row 63 10 ov os.length (encO.all os)]) (by kernel_rfl) (by rfl) (by kernel_rfl) (by kernel_rfl) HB.drew (Fam.st (fun _ h => h.pick [1, 2, 4])) ?_
        iterate 8 first
          | (apply plan_pass
             · rfl
             · rfl
             intro K hK
             go_simp
             refine hK _ ?_
             clear hK K)
          | (apply plan_step
             · rfl
             · rfl
             · intro I hI w1 h1'
               have h1 := hI.2 _ h1'
               have q3 := h1.cell 0 3 rfl rfl
               have q4 := h1.cell 0 4 rfl rfl
               have q5 := h1.cell 0 5 rfl rfl
               have q6 := h1.cell 0 6 rfl rfl
               have n3 := h1.cell 1 3 rfl rfl
               have n4 := h1.cell 1 4 rfl rfl
               have n5 := h1.cell 1 5 rfl rfl
               have n6 := h1.cell 1 6 rfl rfl
               have d0 := h1.cell 2 0 rfl rfl
               have d1 := h1.cell 2 1 rfl rfl
               have d2 := h1.cell 2 2 rfl rfl
               have d3 := h1.cell 2 3 rfl rfl
               have d4 := h1.cell 2 4 rfl rfl
               have d5 := h1.cell 2 5 rfl rfl
               first
                 | (go_simp
                    first
                      | rfl
                      | exact ⟨rfl, h1'⟩
                   )
             intro K hK
             go_simp
             refine hK _ ?_
             clear hK K)
        refine plan_two rfl rfl rfl rfl ?_ ?_
        · skip
          intro V hV w1 h1
          go_simp
          refine (km w1 (h1.pool_get 0 rfl hinh.out) (h1.pool_get 0 rfl hxin.out)).mono ?_
          rintro e w2 ⟨hs2, rfl, G1⟩
          obtain ⟨am, cm, rfl, -, -⟩ := slice_form' (G1.row 0 rfl)
          have H4 : St S w w2 [Row 3 1 (.slice am tm.length cm) tm.length (intCells tm), Pool H1, Blk pb #[.string ⟨xk.toArray⟩, .int .i64 xf, .int .i64 xt, .int .i64 gn, .int .i64 ga, .slice xa gt.length xc, .complex .f64 GX GY, .int .i64 xr] 68, Blk nb #[.string ⟨yk.toArray⟩, .int .i64 yf, .int .i64 yt, .int .i64 sn, .int .i64 sa, .slice na st.length nc, .complex .f64 SX SY, .int .i64 sr] 68, Blk xb #[.string ⟨yk.toArray⟩, .int .i64 yf, .int .i64 yt] 61, Blk t #[.int .i64 kd, .int .i64 sz, .int .i64 sl, .int .i64 lt, .int .i64 ag, .int .i64 kk, .int .i64 mk, .slice (some ⟨g, 0, none⟩) ms.length pc, ov] 137, Row 3 1 (.slice (some ⟨gv, 0, none⟩) gave.length vc) gave.length (intCells gave), Row 68 8 (.slice (some ⟨g, 0, none⟩) ms.length pc) ms.length (encP.all ms), Row 63 10 ov os.length (encO.all os)] := h1.call0 G1
          have H5 := St.pool_add H4 (ints_own (H4.row 0 rfl) htb)
          refine ⟨_, rfl, fun w' => St S w w' [Pool ((.slice am tm.length cm, tm) :: H1), Blk pb #[.string ⟨xk.toArray⟩, .int .i64 xf, .int .i64 xt, .int .i64 gn, .int .i64 ga, .slice xa gt.length xc, .complex .f64 GX GY, .int .i64 xr] 68, Blk nb #[.string ⟨yk.toArray⟩, .int .i64 yf, .int .i64 yt, .int .i64 sn, .int .i64 sa, .slice na st.length nc, .complex .f64 SX SY, .int .i64 sr] 68, Blk xb #[.string ⟨yk.toArray⟩, .int .i64 yf, .int .i64 yt] 61, Blk t #[.int .i64 kd, .int .i64 sz, .int .i64 sl, .int .i64 lt, .int .i64 ag, .int .i64 kk, .int .i64 mk, .slice (some ⟨g, 0, none⟩) ms.length pc, ov] 137, Row 3 1 (.slice (some ⟨gv, 0, none⟩) gave.length vc) gave.length (intCells gave), Row 68 8 (.slice (some ⟨g, 0, none⟩) ms.length pc) ms.length (encP.all ms), Row 63 10 ov os.length (encO.all os)], hV _ _ _ (fun _ h => h) (Fam.st (fun _ h => h.pick [1, 2, 4])) ?_, H5⟩
          intro K hK
          go_simp
          refine hK _ ?_
          clear hK K hV V
          clear H5 H4 h1 G1 w1 w2
          iterate 3 first
            | (apply plan_pass
               · rfl
               · rfl
               intro K hK
               go_simp
               refine hK _ ?_
               clear hK K)
            | (apply plan_step
               · rfl
               · rfl
               · intro I hI w1 h1'
                 have h1 := hI.2 _ h1'
                 first
                   | (go_simp
                      first
                        | rfl
                        | exact ⟨rfl, h1'⟩
                     )
               intro K hK
               go_simp
               refine hK _ ?_
               clear hK K)
          refine plan_one rfl rfl ?_
          intro V hV w1 h1
          go_simp
          obtain ⟨ab, hab⟩ : ∃ g, w1.heap.size = g := ⟨_, rfl⟩
          have H4 : St S w _ [Blk ab #[.int .i64 0, .int .i64 0, .slice none 0 0, .complex .f64 0 0] 66, Pool ((.slice am tm.length cm, tm) :: H1), Blk pb #[.string ⟨xk.toArray⟩, .int .i64 xf, .int .i64 xt, .int .i64 gn, .int .i64 ga, .slice xa gt.length xc, .complex .f64 GX GY, .int .i64 xr] 68, Blk nb #[.string ⟨yk.toArray⟩, .int .i64 yf, .int .i64 yt, .int .i64 sn, .int .i64 sa, .slice na st.length nc, .complex .f64 SX SY, .int .i64 sr] 68, Blk xb #[.string ⟨yk.toArray⟩, .int .i64 yf, .int .i64 yt] 61, Blk t #[.int .i64 kd, .int .i64 sz, .int .i64 sl, .int .i64 lt, .int .i64 ag, .int .i64 kk, .int .i64 mk, .slice (some ⟨g, 0, none⟩) ms.length pc, ov] 137, Row 3 1 (.slice (some ⟨gv, 0, none⟩) gave.length vc) gave.length (intCells gave), Row 68 8 (.slice (some ⟨g, 0, none⟩) ms.length pc) ms.length (encP.all ms), Row 63 10 ov os.length (encO.all os)] := h1.allocAt hab #[.int .i64 0, .int .i64 0, .slice none 0 0, .complex .f64 0 0] 66
          simp only [hab]
          refine ⟨fun w' => St S w w' [Blk ab #[.int .i64 0, .int .i64 0, .slice none 0 0, .complex .f64 0 0] 66, Pool ((.slice am tm.length cm, tm) :: H1), Blk pb #[.string ⟨xk.toArray⟩, .int .i64 xf, .int .i64 xt, .int .i64 gn, .int .i64 ga, .slice xa gt.length xc, .complex .f64 GX GY, .int .i64 xr] 68, Blk nb #[.string ⟨yk.toArray⟩, .int .i64 yf, .int .i64 yt, .int .i64 sn, .int .i64 sa, .slice na st.length nc, .complex .f64 SX SY, .int .i64 sr] 68, Blk xb #[.string ⟨yk.toArray⟩, .int .i64 yf, .int .i64 yt] 61, Blk t #[.int .i64 kd, .int .i64 sz, .int .i64 sl, .int .i64 lt, .int .i64 ag, .int .i64 kk, .int .i64 mk, .slice (some ⟨g, 0, none⟩) ms.length pc, ov] 137, Row 3 1 (.slice (some ⟨gv, 0, none⟩) gave.length vc) gave.length (intCells gave), Row 68 8 (.slice (some ⟨g, 0, none⟩) ms.length pc) ms.length (encP.all ms), Row 63 10 ov os.length (encO.all os)], hV _ _ _ (fun _ h => h) (Fam.st (fun _ h => h.pick [2, 3, 5])) ?_, H4⟩
          intro K hK
          go_simp
          refine hK _ ?_
          clear hK K hV V
          clear H4 h1 hab w1
          refine plan_one rfl rfl ?_
          intro V hV w1 h1
          have r0 := h1.free 0 0 rfl
          have r1 := h1.free 0 1 rfl
          have r2 := h1.free 0 2 rfl
          have r3 := h1.free 0 3 rfl
          have x0 := h1.cell 0 0 rfl rfl
          have x1 := h1.cell 0 1 rfl rfl
          have x2 := h1.cell 0 2 rfl rfl
          have x3 := h1.cell 0 3 rfl rfl
          have H5 := (((h1.set 0 rfl 0 (.int .i64 mn)).set 0 rfl 1 (.int .i64 ma)).set 0 rfl 2 (.slice am tm.length cm)).set 0 rfl 3 (.complex .f64 MX MY)
          go_simp
          refine ⟨fun w' => St S w w' [Blk ab #[.int .i64 mn, .int .i64 ma, .slice am tm.length cm, .complex .f64 MX MY] 66, Pool ((.slice am tm.length cm, tm) :: H1), Blk pb #[.string ⟨xk.toArray⟩, .int .i64 xf, .int .i64 xt, .int .i64 gn, .int .i64 ga, .slice xa gt.length xc, .complex .f64 GX GY, .int .i64 xr] 68, Blk nb #[.string ⟨yk.toArray⟩, .int .i64 yf, .int .i64 yt, .int .i64 sn, .int .i64 sa, .slice na st.length nc, .complex .f64 SX SY, .int .i64 sr] 68, Blk xb #[.string ⟨yk.toArray⟩, .int .i64 yf, .int .i64 yt] 61, Blk t #[.int .i64 kd, .int .i64 sz, .int .i64 sl, .int .i64 lt, .int .i64 ag, .int .i64 kk, .int .i64 mk, .slice (some ⟨g, 0, none⟩) ms.length pc, ov] 137, Row 3 1 (.slice (some ⟨gv, 0, none⟩) gave.length vc) gave.length (intCells gave), Row 68 8 (.slice (some ⟨g, 0, none⟩) ms.length pc) ms.length (encP.all ms), Row 63 10 ov os.length (encO.all os)], hV _ _ _ (fun _ h => h) (Fam.st (fun _ h => h.pick [2, 3, 5])) ?_, H5⟩
          intro K hK
          go_simp
          refine hK _ ?_
          clear hK K hV V
          clear H5 h1 w1 r0 r1 r2 r3 x0 x1 x2 x3
          iterate 1 first
            | (apply plan_pass
               · rfl
               · rfl
               intro K hK
               go_simp
               refine hK _ ?_
               clear hK K)
            | (apply plan_step
               · rfl
               · rfl
               · intro I hI w1 h1'
                 have h1 := hI.2 _ h1'
                 first
                   | (go_simp
                      first
                        | rfl
                        | exact ⟨rfl, h1'⟩
                     )
               intro K hK
               go_simp
               refine hK _ ?_
               clear hK K)
          refine plan_nil ?_
          intro w9 H9
          go_wp2
          go_meet
          exact ⟨ab, am, cm, rfl, rfl, H9⟩
        · skip
          intro V hV w1 h1
          go_simp
          obtain ⟨ab, hab⟩ : ∃ g, w1.heap.size = g := ⟨_, rfl⟩
          have H4 : St S w _ [Blk ab #[.int .i64 0, .int .i64 0, .slice none 0 0, .complex .f64 0 0] 66, Pool H1, Blk pb #[.string ⟨xk.toArray⟩, .int .i64 xf, .int .i64 xt, .int .i64 gn, .int .i64 ga, .slice xa gt.length xc, .complex .f64 GX GY, .int .i64 xr] 68, Blk nb #[.string ⟨yk.toArray⟩, .int .i64 yf, .int .i64 yt, .int .i64 sn, .int .i64 sa, .slice na st.length nc, .complex .f64 SX SY, .int .i64 sr] 68, Blk xb #[.string ⟨yk.toArray⟩, .int .i64 yf, .int .i64 yt] 61, Blk t #[.int .i64 kd, .int .i64 sz, .int .i64 sl, .int .i64 lt, .int .i64 ag, .int .i64 kk, .int .i64 mk, .slice (some ⟨g, 0, none⟩) ms.length pc, ov] 137, Row 3 1 (.slice (some ⟨gv, 0, none⟩) gave.length vc) gave.length (intCells gave), Row 68 8 (.slice (some ⟨g, 0, none⟩) ms.length pc) ms.length (encP.all ms), Row 63 10 ov os.length (encO.all os)] := h1.allocAt hab #[.int .i64 0, .int .i64 0, .slice none 0 0, .complex .f64 0 0] 66
          simp only [hab]
          refine ⟨fun w' => St S w w' [Blk ab #[.int .i64 0, .int .i64 0, .slice none 0 0, .complex .f64 0 0] 66, Pool H1, Blk pb #[.string ⟨xk.toArray⟩, .int .i64 xf, .int .i64 xt, .int .i64 gn, .int .i64 ga, .slice xa gt.length xc, .complex .f64 GX GY, .int .i64 xr] 68, Blk nb #[.string ⟨yk.toArray⟩, .int .i64 yf, .int .i64 yt, .int .i64 sn, .int .i64 sa, .slice na st.length nc, .complex .f64 SX SY, .int .i64 sr] 68, Blk xb #[.string ⟨yk.toArray⟩, .int .i64 yf, .int .i64 yt] 61, Blk t #[.int .i64 kd, .int .i64 sz, .int .i64 sl, .int .i64 lt, .int .i64 ag, .int .i64 kk, .int .i64 mk, .slice (some ⟨g, 0, none⟩) ms.length pc, ov] 137, Row 3 1 (.slice (some ⟨gv, 0, none⟩) gave.length vc) gave.length (intCells gave), Row 68 8 (.slice (some ⟨g, 0, none⟩) ms.length pc) ms.length (encP.all ms), Row 63 10 ov os.length (encO.all os)], hV _ _ _ (fun _ h => h) (Fam.st (fun _ h => h.pick [2, 3, 5])) ?_, H4⟩
          intro K hK
          go_simp
          refine hK _ ?_
          clear hK K hV V
          clear H4 h1 hab w1
          refine plan_one rfl rfl ?_
          intro V hV w1 h1
          go_simp
          refine (km w1 (h1.pool_get 1 rfl hinh.out) (h1.pool_get 1 rfl hxin.out)).mono ?_
          rintro e w2 ⟨hs2, rfl, G1⟩
          obtain ⟨am, cm, rfl, -, -⟩ := slice_form' (G1.row 0 rfl)
          have H4 : St S w w2 [Row 3 1 (.slice am tm.length cm) tm.length (intCells tm), Pool H1, Blk ab #[.int .i64 0, .int .i64 0, .slice none 0 0, .complex .f64 0 0] 66, Blk pb #[.string ⟨xk.toArray⟩, .int .i64 xf, .int .i64 xt, .int .i64 gn, .int .i64 ga, .slice xa gt.length xc, .complex .f64 GX GY, .int .i64 xr] 68, Blk nb #[.string ⟨yk.toArray⟩, .int .i64 yf, .int .i64 yt, .int .i64 sn, .int .i64 sa, .slice na st.length nc, .complex .f64 SX SY, .int .i64 sr] 68, Blk xb #[.string ⟨yk.toArray⟩, .int .i64 yf, .int .i64 yt] 61, Blk t #[.int .i64 kd, .int .i64 sz, .int .i64 sl, .int .i64 lt, .int .i64 ag, .int .i64 kk, .int .i64 mk, .slice (some ⟨g, 0, none⟩) ms.length pc, ov] 137, Row 3 1 (.slice (some ⟨gv, 0, none⟩) gave.length vc) gave.length (intCells gave), Row 68 8 (.slice (some ⟨g, 0, none⟩) ms.length pc) ms.length (encP.all ms), Row 63 10 ov os.length (encO.all os)] := (h1.call0 G1).pick [0, 2, 1, 3, 4, 5, 6, 7, 8, 9]
          have H5 := St.pool_add H4 (ints_own (H4.row 0 rfl) htb)
          refine ⟨_, rfl, fun w' => St S w w' [Pool ((.slice am tm.length cm, tm) :: H1), Blk ab #[.int .i64 0, .int .i64 0, .slice none 0 0, .complex .f64 0 0] 66, Blk pb #[.string ⟨xk.toArray⟩, .int .i64 xf, .int .i64 xt, .int .i64 gn, .int .i64 ga, .slice xa gt.length xc, .complex .f64 GX GY, .int .i64 xr] 68, Blk nb #[.string ⟨yk.toArray⟩, .int .i64 yf, .int .i64 yt, .int .i64 sn, .int .i64 sa, .slice na st.length nc, .complex .f64 SX SY, .int .i64 sr] 68, Blk xb #[.string ⟨yk.toArray⟩, .int .i64 yf, .int .i64 yt] 61, Blk t #[.int .i64 kd, .int .i64 sz, .int .i64 sl, .int .i64 lt, .int .i64 ag, .int .i64 kk, .int .i64 mk, .slice (some ⟨g, 0, none⟩) ms.length pc, ov] 137, Row 3 1 (.slice (some ⟨gv, 0, none⟩) gave.length vc) gave.length (intCells gave), Row 68 8 (.slice (some ⟨g, 0, none⟩) ms.length pc) ms.length (encP.all ms), Row 63 10 ov os.length (encO.all os)], hV _ _ _ (fun _ h => h) (Fam.st (fun _ h => h.pick [2, 3, 5])) ?_, H5⟩
          intro K hK
          go_simp
          refine hK _ ?_
          clear hK K hV V
          clear H5 H4 h1 G1 w1 w2
          iterate 3 first
            | (apply plan_pass
               · rfl
               · rfl
               intro K hK
               go_simp
               refine hK _ ?_
               clear hK K)
            | (apply plan_step
               · rfl
               · rfl
               · intro I hI w1 h1'
                 have h1 := hI.2 _ h1'
                 first
                   | (go_simp
                      first
                        | rfl
                        | exact ⟨rfl, h1'⟩
                     )
               intro K hK
               go_simp
               refine hK _ ?_
               clear hK K)
          refine plan_one rfl rfl ?_
          intro V hV w1 h1
          have r0 := h1.free 1 0 rfl
          have r1 := h1.free 1 1 rfl
          have r2 := h1.free 1 2 rfl
          have r3 := h1.free 1 3 rfl
          have x0 := h1.cell 1 0 rfl rfl
          have x1 := h1.cell 1 1 rfl rfl
          have x2 := h1.cell 1 2 rfl rfl
          have x3 := h1.cell 1 3 rfl rfl
          have H5 := (((h1.set 1 rfl 0 (.int .i64 mn)).set 1 rfl 1 (.int .i64 ma)).set 1 rfl 2 (.slice am tm.length cm)).set 1 rfl 3 (.complex .f64 MX MY)
          go_simp
          refine ⟨fun w' => St S w w' [Pool ((.slice am tm.length cm, tm) :: H1), Blk ab #[.int .i64 mn, .int .i64 ma, .slice am tm.length cm, .complex .f64 MX MY] 66, Blk pb #[.string ⟨xk.toArray⟩, .int .i64 xf, .int .i64 xt, .int .i64 gn, .int .i64 ga, .slice xa gt.length xc, .complex .f64 GX GY, .int .i64 xr] 68, Blk nb #[.string ⟨yk.toArray⟩, .int .i64 yf, .int .i64 yt, .int .i64 sn, .int .i64 sa, .slice na st.length nc, .complex .f64 SX SY, .int .i64 sr] 68, Blk xb #[.string ⟨yk.toArray⟩, .int .i64 yf, .int .i64 yt] 61, Blk t #[.int .i64 kd, .int .i64 sz, .int .i64 sl, .int .i64 lt, .int .i64 ag, .int .i64 kk, .int .i64 mk, .slice (some ⟨g, 0, none⟩) ms.length pc, ov] 137, Row 3 1 (.slice (some ⟨gv, 0, none⟩) gave.length vc) gave.length (intCells gave), Row 68 8 (.slice (some ⟨g, 0, none⟩) ms.length pc) ms.length (encP.all ms), Row 63 10 ov os.length (encO.all os)], hV _ _ _ (fun _ h => h) (Fam.st (fun _ h => h.pick [2, 3, 5])) ?_, H5⟩
          intro K hK
          go_simp
          refine hK _ ?_
          clear hK K hV V
          clear H5 h1 w1 r0 r1 r2 r3 x0 x1 x2 x3
          iterate 1 first
            | (apply plan_pass
               · rfl
               · rfl
               intro K hK
               go_simp
               refine hK _ ?_
               clear hK K)
            | (apply plan_step
               · rfl
               · rfl
               · intro I hI w1 h1'
                 have h1 := hI.2 _ h1'
                 first
                   | (go_simp
                      first
                        | rfl
                        | exact ⟨rfl, h1'⟩
                     )
               intro K hK
               go_simp
               refine hK _ ?_
               clear hK K)
          refine plan_nil ?_
          intro w9 H9
          go_wp2
          go_meet
          exact ⟨ab, am, cm, rfl, rfl, H9.pick [1, 0, 2, 3, 4, 5, 6, 7, 8]⟩
      case rest =>
        obtain ⟨ab, am, cm, rfl, rfl, HC⟩ := hcut
        clear HB km
        rcases hcdh.out with ⟨rfl, hr0⟩ | ⟨rfl, hr0⟩
        · have hr0h := Lib.hid hr0
          clear hr0
          go_wp2
          go_ret2
          rw [hr0h.out]
          exact ⟨rfl, HC.pick []⟩
        · have hr0h := Lib.hid hr0
          clear hr0
          have x0 := HC.cell 0 0 rfl rfl
          have x1 := HC.cell 0 1 rfl rfl
          have x2 := HC.cell 0 2 rfl rfl
          have x3 := HC.cell 0 3 rfl rfl
          go_upto_region 10 with ((with_reducible show Go.wpList _ _ _ (Oper.mk none (Op.store 66 _ _) _ _ _ _ :: _) _ _); go_must (refine St.list_storeMid HC 3 rfl (cs := [.string ⟨yk.toArray⟩, .int .i64 yf, .int .i64 yt, .int .i64 sn, .int .i64 sa, .slice na st.length nc, .complex .f64 SX SY, .int .i64 sr]) (ty := 66) (n := 4) (off := 3) (vs := #[.int .i64 mn, .int .i64 ma, .slice am tm.length cm, .complex .f64 MX MY]) (by kernel_rfl) rfl (by simp [allOne, Value.oneCell']) (by show 3 + 4 ≤ 8; decide) rfl (.tmp 48) (.tmp 47) rfl rfl rfl ?_; intro w5 H5 hz5))
          have H6 : St S w w5 [Pool ((.slice am tm.length cm, tm) :: H1), Blk pb #[.string ⟨xk.toArray⟩, .int .i64 xf, .int .i64 xt, .int .i64 gn, .int .i64 ga, .slice xa gt.length xc, .complex .f64 GX GY, .int .i64 xr] 68, Blk nb #[.string ⟨yk.toArray⟩, .int .i64 yf, .int .i64 yt, .int .i64 mn, .int .i64 ma, .slice am tm.length cm, .complex .f64 MX MY, .int .i64 sr] 68, Blk xb #[.string ⟨yk.toArray⟩, .int .i64 yf, .int .i64 yt] 61, Row 3 1 (.slice (some ⟨gv, 0, none⟩) gave.length vc) gave.length (intCells gave), Blk t #[.int .i64 kd, .int .i64 sz, .int .i64 sl, .int .i64 lt, .int .i64 ag, .int .i64 kk, .int .i64 mk, .slice (some ⟨g, 0, none⟩) ms.length pc, ov] 137, Row 68 8 (.slice (some ⟨g, 0, none⟩) ms.length pc) ms.length (encP.all ms), Row 63 10 ov os.length (encO.all os)] := H5.pick [1, 2, 3, 4, 6, 5, 7, 8]
          clear x0 x1 x2 x3 HC H5
          have d0 := H6.cell 3 0 rfl rfl
          have d1 := H6.cell 3 1 rfl rfl
          have d2 := H6.cell 3 2 rfl rfl
          have p0 := H6.cell 1 0 rfl rfl
          have p1 := H6.cell 1 1 rfl rfl
          have p2 := H6.cell 1 2 rfl rfl
          have p7 := H6.cell 1 7 rfl rfl
          have hmo2 := Lib.hid (fun m (hm : m ∈ ms) => List.mem_cons_of_mem (Value.slice am tm.length cm, tm) (hmoh.out m hm))
          have hoo2 := Lib.hid (fun y (hy : y ∈ os) => List.mem_cons_of_mem (Value.slice am tm.length cm, tm) (hooh.out y hy))
          by_cases hall : xk = yk ∧ xf = yf ∧ xt = yt
          · have hr1 : gm (ps.take (n + 1)) (Ag.zero, 0) = some (⟨mn, ma, tm, mx, my⟩, xr) := by
              rw [hr0h.out, if_pos (by rw [hall.1, hall.2.1, hall.2.2])]
            have hr1h := Lib.hid hr1
            obtain ⟨rfl, rfl, rfl⟩ := hall
            have f7 := H6.free 2 7 rfl
            have n7 := H6.cell 2 7 rfl rfl
            have H7 : St S w _ [Pool ((.slice am tm.length cm, tm) :: H1), Blk pb #[.string ⟨xk.toArray⟩, .int .i64 xf, .int .i64 xt, .int .i64 gn, .int .i64 ga, .slice xa gt.length xc, .complex .f64 GX GY, .int .i64 xr] 68, Blk nb #[.string ⟨xk.toArray⟩, .int .i64 xf, .int .i64 xt, .int .i64 mn, .int .i64 ma, .slice am tm.length cm, .complex .f64 MX MY, .int .i64 xr] 68, Blk xb #[.string ⟨xk.toArray⟩, .int .i64 xf, .int .i64 xt] 61, Row 3 1 (.slice (some ⟨gv, 0, none⟩) gave.length vc) gave.length (intCells gave), Blk t #[.int .i64 kd, .int .i64 sz, .int .i64 sl, .int .i64 lt, .int .i64 ag, .int .i64 kk, .int .i64 mk, .slice (some ⟨g, 0, none⟩) ms.length pc, ov] 137, Row 68 8 (.slice (some ⟨g, 0, none⟩) ms.length pc) ms.length (encP.all ms), Row 63 10 ov os.length (encO.all os)] := H6.set 2 rfl 7 (.int .i64 xr)
            clear hr1 hr0h hcdh
            go_wp2
            go_roundw
            case rel =>
              refine ⟨n + 1, (⟨mn, ma, tm, mx, my⟩, xr), am, cm, (.slice am tm.length cm, tm) :: H1, by omega, by go_num, Lib.hid hr1h.out, Lib.hid hMrh.out, Lib.hid (List.mem_cons_self), hmo2, hoo2, ?_⟩
              simp only [hMXh.out, hMYh.out]
              exact H7.pick [2, 3, 4, 5, 6, 7, 0]
            case measure => simp [intOf]; omega
          · have hr1 : gm (ps.take (n + 1)) (Ag.zero, 0) = some (⟨mn, ma, tm, mx, my⟩, sr) := by
              rw [hr0h.out, if_neg (fun e => hall (by cases e; exact ⟨rfl, rfl, rfl⟩))]
            have hr1h := Lib.hid hr1
            have h3 : (¬ xk = yk) ∨ (xk = yk ∧ ¬ xf = yf) ∨ (xk = yk ∧ xf = yf ∧ ¬ xt = yt) := by
              by_cases h1 : xk = yk
              · by_cases h2 : xf = yf
                · exact .inr (.inr ⟨h1, h2, fun h3 => hall ⟨h1, h2, h3⟩⟩)
                · exact .inr (.inl ⟨h1, h2⟩)
              · exact .inl h1
            clear hall hr1 hr0h hcdh
            rcases h3 with h3 | ⟨rfl, h3⟩ | ⟨rfl, rfl, h3⟩
            all_goals
              go_wp2
              go_roundw
              case rel =>
                refine ⟨n + 1, (⟨mn, ma, tm, mx, my⟩, sr), am, cm, (.slice am tm.length cm, tm) :: H1, by omega, by go_num, Lib.hid hr1h.out, Lib.hid hMrh.out, Lib.hid (List.mem_cons_self), hmo2, hoo2, ?_⟩
                simp only [hMXh.out, hMYh.out]
                exact H6.pick [2, 3, 4, 5, 6, 7, 0]
              case measure => simp [intOf]; omega
    · obtain rfl : n = ps.length := by omega
      have hs2 := hs.out
      rw [List.take_length] at hs2
      have hres2 : res = some s := by rw [← hresh.out, hgmh.out, hs2]
      have hres2h := Lib.hid hres2
      clear hs2 hres2 hs
      have hdelh := Lib.hid (fun (w' : World) (S' : Nat → Prop) (h : Sep w' [Row 68 8 (.slice pa ms.length pc) ms.length (encP.all ms), Blk xb (wdC ⟨yk, yf, yt⟩) 61] S') => pns_deleteJ (bw := xb) (y := ⟨yk, yf, yt⟩) (l := ms) (v := .slice pa ms.length pc) (fun m : Pm => m.p.w.joins ⟨yk, yf, yt⟩) (by omega) (fun m hm w hb => join_one m ⟨yk, yf, yt⟩ (hlfh.out m.p (List.mem_map.2 ⟨m, hm, rfl⟩)) hxh.out w hb) h)
      obtain ⟨ms2, hms2⟩ : ∃ z, (ms.filter fun m => !m.p.w.joins ⟨yk, yf, yt⟩) = z := ⟨_, rfl⟩
      have hl2 : ms2.map (·.p) = (ms.map (·.p)).filter fun p => !p.w.joins ⟨yk, yf, yt⟩ := by rw [← hms2, List.filter_map]; rfl
      have hsub : ∀ m ∈ ms2, m ∈ ms := fun m hm => by rw [← hms2] at hm; exact (List.mem_filter.1 hm).1
      have hlen2 : ms2.length ≤ ms.length := by rw [← hms2]; exact List.length_filter_le _ _
      have hord2 : Ord (ms2.map (·.p)) := by
        rw [hl2]
        exact hordh.out.sublist List.filter_sublist
      rw [hms2] at hdelh
      clear hms2
      have hk := placeP_le (ms2.map (·.p)) ⟨yk, yf, yt⟩
      rw [List.length_map] at hk
      have hlo := fun (j : Nat) (y : Pm) (h1 : j < placeP (ms2.map (·.p)) ⟨yk, yf, yt⟩) (h2 : ms2[j]? = some y) => placeP_lo (x := ⟨yk, yf, yt⟩) h1 (show (ms2.map (·.p))[j]? = some y.p by rw [List.getElem?_map, h2]; rfl)
      have hhi := fun (j : Nat) (y : Pm) (h1 : placeP (ms2.map (·.p)) ⟨yk, yf, yt⟩ ≤ j) (h2 : ms2[j]? = some y) => placeP_hi (x := ⟨yk, yf, yt⟩) hord2 h1 (show (ms2.map (·.p))[j]? = some y.p by rw [List.getElem?_map, h2]; rfl)
      have hwith : ∀ p : Pn, p.w = ⟨yk, yf, yt⟩ → withP (ms2.map (·.p)) p = (ms2.map (·.p)).take (placeP (ms2.map (·.p)) ⟨yk, yf, yt⟩) ++ p :: (ms2.map (·.p)).drop (placeP (ms2.map (·.p)) ⟨yk, yf, yt⟩) := fun p hp => by unfold withP; rw [hp]
      obtain ⟨k, hkk⟩ : ∃ k, placeP (ms2.map (·.p)) ⟨yk, yf, yt⟩ = k := ⟨_, rfl⟩
      rw [hkk] at hk hwith
      simp only [hkk] at hlo hhi
      have hkkh := Lib.hid hkk
      clear hkk hord2
      have kfin := Lib.hid (fun (w' : World) (v2 : Value) (h1 : w'.heap[t]? = some (.cells (stC ⟨kd, sz, sl, lt, ag, kk⟩ mk v2 ov) 137 (0, 0))) (h2 : encP.RO w' v2 ms2) => step_find (x := ⟨yk, yf, yt⟩) h1 h2 (by omega) hk hlo hhi)
      have hl2h := Lib.hid hl2
      have hsubh := Lib.hid hsub
      have hwithh := Lib.hid hwith
      clear hlo hhi hl2 hsub hwith
      obtain ⟨⟨sn, sa, st, sx, sy⟩, sr⟩ := s
      have hin2 := hin
      simp only at HM hin2
      obtain ⟨NP, hNP⟩ : ∃ z : Pm, z = ⟨⟨⟨yk, yf, yt⟩, ⟨sn, sa, st, sx, sy⟩, sr⟩, na, nc⟩ := ⟨_, rfl⟩
      have hNPh := Lib.hid hNP
      have hNC : pnC NP = #[.string ⟨yk.toArray⟩, .int .i64 yf, .int .i64 yt, .int .i64 sn, .int .i64 sa, .slice na st.length nc, .complex .f64 (ib sx) (ib sy), .int .i64 sr] := by rw [hNP]; rfl
      obtain ⟨SX, hSX⟩ : ∃ X, ib sx = X := ⟨_, rfl⟩
      obtain ⟨SY, hSY⟩ : ∃ X, ib sy = X := ⟨_, rfl⟩
      simp only [hSX, hSY] at HM hNC
      have hNCh := Lib.hid hNC
      have kins := Lib.hid (fun (w' : World) (S' : Nat → Prop) (v2 : Value) (g2 : Nat) (h : Sep w' [Row 68 8 v2 ms2.length (encP.all ms2), Blk g2 (pnC NP) 68] S') => pns_insert (x := NP) hk (by omega) h)
      clear hSX hSY hNP hNC hidxh hgapp hgmh hresh kmg hmrg hgrh hsr
      have c7 := HM.cell 3 7 rfl rfl
      have d0 := HM.cell 1 0 rfl rfl
      have d1 := HM.cell 1 1 rfl rfl
      have d2 := HM.cell 1 2 rfl rfl
      have HM2 : St S w wr [Row 68 8 (.slice pa ms.length pc) ms.length (encP.all ms), Blk xb #[.string ⟨yk.toArray⟩, .int .i64 yf, .int .i64 yt] 61, Blk nb #[.string ⟨yk.toArray⟩, .int .i64 yf, .int .i64 yt, .int .i64 sn, .int .i64 sa, .slice na st.length nc, .complex .f64 SX SY, .int .i64 sr] 68, Row 3 1 (.slice va gave.length vc) gave.length (intCells gave), Blk t #[.int .i64 kd, .int .i64 sz, .int .i64 sl, .int .i64 lt, .int .i64 ag, .int .i64 kk, .int .i64 mk, .slice pa ms.length pc, ov] 137, Row 63 10 ov os.length (encO.all os), Pool H1] := HM.pick [4, 1, 0, 2, 3, 5, 6]
      obtain ⟨S1, K1, G1⟩ := St.call (l1 := [_, _]) HM2
      have kd1 := hdelh.out wr S1 K1
      clear K1 HM hdelh
      go_upto_region 14 with (go_at_call 134; go_must (refine kd1.mono ?_; rintro e w3 ⟨v2, rfl, H3⟩; obtain ⟨va2, vc2, rfl, -, -⟩ := slice_form' (H3.row 0 rfl); have H4 : St S w w3 [Row 68 8 (.slice va2 ms2.length vc2) ms2.length (encP.all ms2), Blk xb #[.string ⟨yk.toArray⟩, .int .i64 yf, .int .i64 yt] 61, Blk nb #[.string ⟨yk.toArray⟩, .int .i64 yf, .int .i64 yt, .int .i64 sn, .int .i64 sa, .slice na st.length nc, .complex .f64 SX SY, .int .i64 sr] 68, Row 3 1 (.slice va gave.length vc) gave.length (intCells gave), Blk t #[.int .i64 kd, .int .i64 sz, .int .i64 sl, .int .i64 lt, .int .i64 ag, .int .i64 kk, .int .i64 mk, .slice pa ms.length pc, ov] 137, Row 63 10 ov os.length (encO.all os), Pool H1] := G1 _ _ H3; have f7 := H4.free 4 7 rfl; have c7 := H4.cell 4 7 rfl rfl))
      have H5 := H4.set 4 rfl 7 (.slice va2 ms2.length vc2)
      clear c7 f7 d0 d1 d2 G1 kd1
      obtain ⟨w4, hw4⟩ : ∃ z, w3.setCell ⟨t, 7, none⟩ (.slice va2 ms2.length vc2) = z := ⟨_, rfl⟩
      rw [hw4] at H5
      try rw [hw4]
      clear hw4 H4 H3
      obtain ⟨v2, hv2⟩ : ∃ z, Value.slice va2 ms2.length vc2 = z := ⟨_, rfl⟩
      rw [hv2] at H5
      try simp only [hv2]
      clear hv2
      have H6 : St S w w4 [Blk xb #[.string ⟨yk.toArray⟩, .int .i64 yf, .int .i64 yt] 61, Blk t #[.int .i64 kd, .int .i64 sz, .int .i64 sl, .int .i64 lt, .int .i64 ag, .int .i64 kk, .int .i64 mk, v2, ov] 137, Blk nb #[.string ⟨yk.toArray⟩, .int .i64 yf, .int .i64 yt, .int .i64 sn, .int .i64 sa, .slice na st.length nc, .complex .f64 SX SY, .int .i64 sr] 68, Row 68 8 v2 ms2.length (encP.all ms2), Row 3 1 (.slice va gave.length vc) gave.length (intCells gave), Row 63 10 ov os.length (encO.all os), Pool H1] := H5.pick [1, 4, 2, 0, 3, 5, 6]
      clear H5
      have d0 := H6.cell 0 0 rfl rfl
      have d1 := H6.cell 0 1 rfl rfl
      have d2 := H6.cell 0 2 rfl rfl
      have kf2 := kfin.out w4 v2 (H6.blk 1 rfl) (Enc.own encP (H6.row 3 rfl) rfl)
      unfold wdV wdC textV at kf2
      simp only at kf2
      go_upto_region 15 with (go_at_call 197; go_must (refine kf2.mono ?_; rintro e w5 ⟨⟨bv, rfl, -⟩, hb5⟩))
      have H7 := H6.past hb5
      clear H6 kf2 kfin hb5 d0 d1 d2
      refine wp_script_tail 13 [(0, false), (1, false), (2, false), (3, false), (4, false), (5, false), (6, false), (7, false), (8, true), (9, true), (10, false), (11, false), (12, false)] (Fam fun w' => St S w w' [Blk t #[.int .i64 kd, .int .i64 sz, .int .i64 sl, .int .i64 lt, .int .i64 ag, .int .i64 kk, .int .i64 mk, v2, ov] 137, Blk nb #[.string ⟨yk.toArray⟩, .int .i64 yf, .int .i64 yt, .int .i64 sn, .int .i64 sa, .slice na st.length nc, .complex .f64 SX SY, .int .i64 sr] 68]) (fun w' => St S w w' [Blk xb #[.string ⟨yk.toArray⟩, .int .i64 yf, .int .i64 yt] 61, Blk t #[.int .i64 kd, .int .i64 sz, .int .i64 sl, .int .i64 lt, .int .i64 ag, .int .i64 kk, .int .i64 mk, v2, ov] 137, Blk nb #[.string ⟨yk.toArray⟩, .int .i64 yf, .int .i64 yt, .int .i64 sn, .int .i64 sa, .slice na st.length nc, .complex .f64 SX SY, .int .i64 sr] 68, Row 68 8 v2 ms2.length (encP.all ms2), Row 3 1 (.slice va gave.length vc) gave.length (intCells gave), Row 63 10 ov os.length (encO.all os), Pool H1]) (by kernel_rfl) (by rfl) (by kernel_rfl) (by kernel_rfl) H7.drew (Fam.st (fun _ h => h.pick [1, 2])) ?_
      iterate 8 first
        | (apply script_pass
           · rfl
           · rfl
           intro K hK
           go_simp
           refine hK _ ?_
           clear hK K)
        | (apply script_step
           · rfl
           · rfl
           · intro I hI w1 h1'
             have h1 := hI.2 _ h1'
             have c7 := h1.cell 0 7 rfl rfl
             have n0 := h1.cell 1 0 rfl rfl
             have n1 := h1.cell 1 1 rfl rfl
             have n2 := h1.cell 1 2 rfl rfl
             have n3 := h1.cell 1 3 rfl rfl
             have n4 := h1.cell 1 4 rfl rfl
             have n5 := h1.cell 1 5 rfl rfl
             have n6 := h1.cell 1 6 rfl rfl
             have n7 := h1.cell 1 7 rfl rfl
             first
               | (go_simp
                  first
                    | rfl
                    | exact ⟨rfl, h1'⟩
                 )
           intro K hK
           go_simp
           refine hK _ ?_
           clear hK K)
      refine script_alone rfl rfl ?_
      intro V hV w1 h1
      go_simp
      obtain ⟨gn, hgn⟩ : ∃ g, w1.heap.size = g := ⟨_, rfl⟩
      have H8 : St S w _ [Blk gn #[.string ⟨yk.toArray⟩, .int .i64 yf, .int .i64 yt, .int .i64 sn, .int .i64 sa, .slice na st.length nc, .complex .f64 SX SY, .int .i64 sr] 68, Blk xb #[.string ⟨yk.toArray⟩, .int .i64 yf, .int .i64 yt] 61, Blk t #[.int .i64 kd, .int .i64 sz, .int .i64 sl, .int .i64 lt, .int .i64 ag, .int .i64 kk, .int .i64 mk, v2, ov] 137, Blk nb #[.string ⟨yk.toArray⟩, .int .i64 yf, .int .i64 yt, .int .i64 sn, .int .i64 sa, .slice na st.length nc, .complex .f64 SX SY, .int .i64 sr] 68, Row 68 8 v2 ms2.length (encP.all ms2), Row 3 1 (.slice va gave.length vc) gave.length (intCells gave), Row 63 10 ov os.length (encO.all os), Pool H1] := h1.allocAt hgn #[.string ⟨yk.toArray⟩, .int .i64 yf, .int .i64 yt, .int .i64 sn, .int .i64 sa, .slice na st.length nc, .complex .f64 SX SY, .int .i64 sr] 68
      simp only [hgn]
      refine ⟨fun w' => St S w w' [Blk gn #[.string ⟨yk.toArray⟩, .int .i64 yf, .int .i64 yt, .int .i64 sn, .int .i64 sa, .slice na st.length nc, .complex .f64 SX SY, .int .i64 sr] 68, Blk xb #[.string ⟨yk.toArray⟩, .int .i64 yf, .int .i64 yt] 61, Blk t #[.int .i64 kd, .int .i64 sz, .int .i64 sl, .int .i64 lt, .int .i64 ag, .int .i64 kk, .int .i64 mk, v2, ov] 137, Blk nb #[.string ⟨yk.toArray⟩, .int .i64 yf, .int .i64 yt, .int .i64 sn, .int .i64 sa, .slice na st.length nc, .complex .f64 SX SY, .int .i64 sr] 68, Row 68 8 v2 ms2.length (encP.all ms2), Row 3 1 (.slice va gave.length vc) gave.length (intCells gave), Row 63 10 ov os.length (encO.all os), Pool H1], hV _ _ _ (fun _ h => h) (Fam.st (fun _ h => h.pick [2, 3])) ?_, H8⟩
      intro K hK
      go_simp
      refine hK _ ?_
      clear hK K hV V
      clear H8 h1 hgn w1
      refine script_alone rfl rfl ?_
      intro V hV w1 h1
      go_simp
      have h1a := h1.pick [4, 0, 1, 2, 3, 5, 6, 7]
      have h1b : St S w w1 [Row 68 8 v2 ms2.length (encP.all ms2), Blk gn (pnC NP) 68, Blk xb #[.string ⟨yk.toArray⟩, .int .i64 yf, .int .i64 yt] 61, Blk t #[.int .i64 kd, .int .i64 sz, .int .i64 sl, .int .i64 lt, .int .i64 ag, .int .i64 kk, .int .i64 mk, v2, ov] 137, Blk nb #[.string ⟨yk.toArray⟩, .int .i64 yf, .int .i64 yt, .int .i64 sn, .int .i64 sa, .slice na st.length nc, .complex .f64 SX SY, .int .i64 sr] 68, Row 3 1 (.slice va gave.length vc) gave.length (intCells gave), Row 63 10 ov os.length (encO.all os), Pool H1] := by rw [hNCh.out]; exact h1a
      clear h1a
      obtain ⟨S1, K1, G1⟩ := St.call (l1 := [_, _]) h1b
      refine (kins.out w1 S1 v2 gn K1).mono ?_
      rintro e w2 ⟨nv, rfl, H8⟩
      have H9 : St S w w2 [Row 68 8 nv (ms2.length + 1) (encP.all (ms2.take k ++ NP :: ms2.drop k)), Blk gn (pnC NP) 68, Blk xb #[.string ⟨yk.toArray⟩, .int .i64 yf, .int .i64 yt] 61, Blk t #[.int .i64 kd, .int .i64 sz, .int .i64 sl, .int .i64 lt, .int .i64 ag, .int .i64 kk, .int .i64 mk, v2, ov] 137, Blk nb #[.string ⟨yk.toArray⟩, .int .i64 yf, .int .i64 yt, .int .i64 sn, .int .i64 sa, .slice na st.length nc, .complex .f64 SX SY, .int .i64 sr] 68, Row 3 1 (.slice va gave.length vc) gave.length (intCells gave), Row 63 10 ov os.length (encO.all os), Pool H1] := G1 _ _ H8
      clear h1b K1 G1
      refine ⟨_, rfl, fun w' => St S w w' [Row 68 8 nv (ms2.length + 1) (encP.all (ms2.take k ++ NP :: ms2.drop k)), Blk gn (pnC NP) 68, Blk xb #[.string ⟨yk.toArray⟩, .int .i64 yf, .int .i64 yt] 61, Blk t #[.int .i64 kd, .int .i64 sz, .int .i64 sl, .int .i64 lt, .int .i64 ag, .int .i64 kk, .int .i64 mk, v2, ov] 137, Blk nb #[.string ⟨yk.toArray⟩, .int .i64 yf, .int .i64 yt, .int .i64 sn, .int .i64 sa, .slice na st.length nc, .complex .f64 SX SY, .int .i64 sr] 68, Row 3 1 (.slice va gave.length vc) gave.length (intCells gave), Row 63 10 ov os.length (encO.all os), Pool H1], hV _ _ _ (fun _ h => h) (Fam.st (fun _ h => h.pick [3, 4])) ?_, H9⟩
      intro K hK
      go_simp
      refine hK _ ?_
      clear hK K hV V
      clear H9 H8 h1 w1 w2
      iterate 3 first
        | (apply script_pass
           · rfl
           · rfl
           intro K hK
           go_simp
           refine hK _ ?_
           clear hK K)
        | (apply script_step
           · rfl
           · rfl
           · intro I hI w1 h1'
             have h1 := hI.2 _ h1'
             first
               | (go_simp
                  first
                    | rfl
                    | exact ⟨rfl, h1'⟩
                 )
           intro K hK
           go_simp
           refine hK _ ?_
           clear hK K)
      refine script_nil ?_
      intro w6 H8
      simp only [List.drop_succ_cons, List.drop_zero]
      have f7 := H8.free 3 7 rfl
      have c7 := H8.cell 3 7 rfl rfl
      obtain ⟨na2, nc2, rfl, -, -⟩ := slice_form' (H8.row 0 rfl)
      have H9 := H8.set 3 rfl 7 (.slice na2 (ms2.length + 1) nc2)
      go_wp2
      go_ret2
      have hlen : (ms2.take k ++ NP :: ms2.drop k).length = ms2.length + 1 := by
        rw [List.length_append, List.length_take, List.length_cons, List.length_drop]
        omega
      rw [hres2h.out]
      unfold JoinOk
      simp only
      rw [hxxh.out, ← hl2h.out, hkkh.out]
      refine ⟨rfl, ?_⟩
      refine Stp.mk' (pv := .slice na2 (ms2.length + 1) nc2) (ov := ov) (ms := ms2.take k ++ NP :: ms2.drop k) (os := os) (H := H1) ?_ rfl ?_ hooh.out ?_
      · rw [hwithh.out _ rfl, List.map_append, List.map_cons, List.map_take, List.map_drop, hNPh.out]
      · intro m hm
        rcases List.mem_append.1 hm with hm | hm
        · exact hmoh.out m (hsubh.out m (List.mem_of_mem_take hm))
        · rcases List.mem_cons.1 hm with rfl | hm
          · rw [hNPh.out]
            exact hin2.out
          · exact hmoh.out m (hsubh.out m (List.mem_of_mem_drop hm))
      · rw [hqqh.out, hlen]
        exact H9.pick [3, 0, 6, 7]

end Go.Proofs.YtiglgfonhdfpmaaGreat

/- A settled list stays settled when one is taken in; sess.All. Condition: so many windows. -/
set_option linter.unusedVariables false
set_option linter.unusedSimpArgs false
namespace Go.Proofs.YtiglgfonhdfpmaaGreat
open Go.RowKit

theorem bec_ends (l : List Wd) (x : Wd) : ((becOf l x).frm = x.frm ∨ ∃ p ∈ l, p.joins x = true ∧ (becOf l x).frm = p.frm) ∧ ((becOf l x).to = x.to ∨ ∃ p ∈ l, p.joins x = true ∧ (becOf l x).to = p.to) := by
  have key : ∀ (m : List Wd) (b : Wd), ((m.foldl grow b).frm = b.frm ∨ ∃ p ∈ m, (m.foldl grow b).frm = p.frm) ∧ ((m.foldl grow b).to = b.to ∨ ∃ p ∈ m, (m.foldl grow b).to = p.to) := by
    intro m
    induction m with
    | nil => exact fun b => ⟨.inl rfl, .inl rfl⟩
    | cons o m ih =>
      intro b
      obtain ⟨h1, h2⟩ := ih (grow b o)
      rw [List.foldl_cons]
      constructor
      · rcases h1 with h1 | ⟨p, hp, h1⟩
        · rw [h1]
          simp only [grow]
          by_cases h : b.frm ≤ o.frm
          · exact .inl (by omega)
          · exact .inr ⟨o, by simp, by omega⟩
        · exact .inr ⟨p, by simp [hp], h1⟩
      · rcases h2 with h2 | ⟨p, hp, h2⟩
        · rw [h2]
          simp only [grow]
          by_cases h : o.to ≤ b.to
          · exact .inl (by omega)
          · exact .inr ⟨o, by simp, by omega⟩
        · exact .inr ⟨p, by simp [hp], h2⟩
  obtain ⟨h1, h2⟩ := key (l.filter (fun o => o.joins x)) x
  constructor
  · rcases h1 with h1 | ⟨p, hp, h1⟩
    · exact .inl h1
    · obtain ⟨g1, g2⟩ := List.mem_filter.1 hp
      exact .inr ⟨p, g1, by simpa using g2, h1⟩
  · rcases h2 with h2 | ⟨p, hp, h2⟩
    · exact .inl h2
    · obtain ⟨g1, g2⟩ := List.mem_filter.1 hp
      exact .inr ⟨p, g1, by simpa using g2, h2⟩
/-- Of a settled list two members are one or don't join. -/
theorem stl_apart {l : List Wd} (h : Stl l) {a b : Wd} (ha : a ∈ l) (hb : b ∈ l) : a = b ∨ a.joins b = false := by
  obtain ⟨_, h2⟩ := stl_iff.1 h
  obtain ⟨i, hi⟩ := List.getElem?_of_mem ha
  obtain ⟨k, hk⟩ := List.getElem?_of_mem hb
  rcases Nat.lt_trichotomy i k with g | g | g
  · exact .inr (h2 i k a b g hi hk).2
  · subst g
    rw [hi] at hk
    exact .inl (Option.some.inj hk)
  · exact .inr (by rw [joins_swap]; exact (h2 k i b a g hk hi).2)
theorem out_bec {l : List Wd} {x : Wd} (h : Stl l) (hx : x.right = true) : ∀ o ∈ outOf l x, o.joins (becOf l x) = false := by
  intro o ho
  obtain ⟨hol, hox⟩ := List.mem_filter.1 ho
  have hox : o.joins x = false := by simpa using hox
  have hor := (stl_iff.1 h).1 o hol
  obtain ⟨br, bk, bf, bt⟩ := bec_law hx l
  obtain ⟨e1, e2⟩ := bec_ends l x
  rw [Bool.eq_false_iff]
  intro hj
  obtain ⟨_, _, ek, j1, j2⟩ := joins_iff.1 hj
  have ekx : o.key = x.key := ek.trans bk
  have ho2 := right_iff.1 hor
  have hx2 := right_iff.1 hx
  have hno : ¬ (o.frm ≤ x.to ∧ x.frm ≤ o.to) := fun h => by
    rw [joins_iff.2 ⟨hor, hx, ekx, h.1, h.2⟩] at hox
    cases hox
  have hcl : ∀ p ∈ l, p.joins x = true → ¬ (o.frm ≤ p.to ∧ p.frm ≤ o.to) := by
    intro p hp hpx hc
    obtain ⟨pr, _, pk, _, _⟩ := joins_iff.1 hpx
    rcases stl_apart h hol hp with e | e
    · rw [e, hpx] at hox; cases hox
    · rw [joins_iff.2 ⟨hor, pr, ekx.trans pk.symm, hc.1, hc.2⟩] at e
      cases e
  by_cases hc : o.frm ≤ x.to
  · -- then x begins behind o
    rcases e1 with e1 | ⟨p, hp, hpx, e1⟩
    · exact hno ⟨hc, by omega⟩
    · obtain ⟨pr, _, _, p1, p2⟩ := joins_iff.1 hpx
      have pr2 := right_iff.1 pr
      exact hcl p hp hpx ⟨by omega, by omega⟩
  · rcases e2 with e2 | ⟨p, hp, hpx, e2⟩
    · omega
    · obtain ⟨pr, _, _, p1, p2⟩ := joins_iff.1 hpx
      exact hcl p hp hpx ⟨by omega, by omega⟩
end Go.Proofs.YtiglgfonhdfpmaaGreat

/- A settled list is told by what its windows cover; what taking in, and all of a list, come to. Plain laws. -/
set_option linter.unusedVariables false
set_option linter.unusedSimpArgs false
namespace Go.Proofs.YtiglgfonhdfpmaaGreat

theorem bec_wide {l : List Wd} {x : Wd} : ∀ o ∈ l, o.joins x = true → (becOf l x).frm ≤ o.frm ∧ o.to ≤ (becOf l x).to := by
  have key : ∀ (m : List Wd) (b : Wd), ((m.foldl grow b).frm ≤ b.frm ∧ b.to ≤ (m.foldl grow b).to) ∧ ∀ o ∈ m, (m.foldl grow b).frm ≤ o.frm ∧ o.to ≤ (m.foldl grow b).to := by
    intro m
    induction m with
    | nil => exact fun b => ⟨⟨Int.le_refl _, Int.le_refl _⟩, by simp⟩
    | cons o m ih =>
      intro b
      obtain ⟨h1, h2⟩ := ih (grow b o)
      rw [List.foldl_cons]
      simp only [grow] at h1
      refine ⟨by simp only [grow]; omega, fun p hp => ?_⟩
      rcases List.mem_cons.1 hp with rfl | hp
      · simp only [grow]; omega
      · exact h2 p hp
  intro o ho hj
  exact (key _ x).2 o (List.mem_filter.2 ⟨ho, by simpa using hj⟩)
end Go.Proofs.YtiglgfonhdfpmaaGreat
