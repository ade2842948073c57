import Derived.Test.YtiglgfonhdfpmaaGreatLw1
import Derived.Test.YtiglgfonhdfpmaaGreatLw2
import Derived.Test.YtiglgfonhdfpmaaGreatLw3
import Derived.Test.YtiglgfonhdfpmaaGreatLw4
import Derived.Test.YtiglgfonhdfpmaaGreatLw15
import Derived.Deep.CutBlock
import Derived.Lib.ItoaNum
import Derived.Lib.AtoiAll
import Derived.Lib.Split
import Derived.Lib.SplitLaws
import Derived.Lib.IndexLaws
import Derived.Lib.CountLaws
/- lanes.Step. Conditions: the item and what the lanes hold fit the machine; so many. (Printed by a program of mine.) -/
set_option linter.unusedVariables false
set_option linter.unusedSimpArgs false
namespace Go.Proofs.YtiglgfonhdfpmaaGreat
open Go.RowKit

def lm0 : Lm := ⟨⟨0, 0, 0, 0, 0, 0⟩, 0, [], none, 0, [], none, 0⟩
def encSt : Enc Lm where
  cells y := [.int .i64 y.mr, y.ph]
  k := 2
  len _ := rfl
  pos := by decide
  one m v hv := by
    simp only [List.mem_cons, List.not_mem_nil, or_false] at hv
    rcases hv with rfl | rfl <;> rfl
def encOh : Enc Lm where
  cells y := [y.oh]
  k := 1
  len _ := rfl
  pos := by decide
  one m v hv := by
    simp only [List.mem_cons, List.not_mem_nil, or_false] at hv
    rcases hv with rfl <;> rfl
theorem Tryz.info45 : (Tryz.prog.info? 45).map (fun i => (i.zero, i.size, i.bytes)) = some (some (.agg #[.int .i64 0, .slice none 0 0]), 2, 32) := by kernel_rfl
theorem Tryz.info46 : (Tryz.prog.info? 46).map (fun i => (i.zero, i.size, i.bytes)) = some (some (.slice none 0 0), 1, 24) := by kernel_rfl
theorem made_st : ∀ n : Nat, n ≤ 16 → madeCells (Value.agg #[.int .i64 0, .slice none 0 0]).cells (n * 2) = (encSt.all (List.replicate n lm0)).toArray
  | 0, _ => by kernel_rfl
  | 1, _ => by kernel_rfl
  | 2, _ => by kernel_rfl
  | 3, _ => by kernel_rfl
  | 4, _ => by kernel_rfl
  | 5, _ => by kernel_rfl
  | 6, _ => by kernel_rfl
  | 7, _ => by kernel_rfl
  | 8, _ => by kernel_rfl
  | 9, _ => by kernel_rfl
  | 10, _ => by kernel_rfl
  | 11, _ => by kernel_rfl
  | 12, _ => by kernel_rfl
  | 13, _ => by kernel_rfl
  | 14, _ => by kernel_rfl
  | 15, _ => by kernel_rfl
  | 16, _ => by kernel_rfl
  | n + 17, h => absurd h (by omega)
theorem made_oh : ∀ n : Nat, n ≤ 16 → madeCells (Value.slice none 0 0).cells (n * 1) = (encOh.all (List.replicate n lm0)).toArray
  | 0, _ => by kernel_rfl
  | 1, _ => by kernel_rfl
  | 2, _ => by kernel_rfl
  | 3, _ => by kernel_rfl
  | 4, _ => by kernel_rfl
  | 5, _ => by kernel_rfl
  | 6, _ => by kernel_rfl
  | 7, _ => by kernel_rfl
  | 8, _ => by kernel_rfl
  | 9, _ => by kernel_rfl
  | 10, _ => by kernel_rfl
  | 11, _ => by kernel_rfl
  | 12, _ => by kernel_rfl
  | 13, _ => by kernel_rfl
  | 14, _ => by kernel_rfl
  | 15, _ => by kernel_rfl
  | 16, _ => by kernel_rfl
  | n + 17, h => absurd h (by omega)
theorem make_states (n : Nat) (hn : n ≤ 16) : ∀ w, (Instr.makeSlice 115 (.int .i64 n) (.int .i64 n)).run Tryz.prog w = .ok (.slice (some ⟨w.heap.size, 0, none⟩) n n) (w.alloc (.cells (encSt.all (List.replicate n lm0)).toArray 45)) := by
  obtain ⟨i5, hi5, hz5, hs5, hb5⟩ := info_parts Tryz.info45
  intro w
  have hm1 := run_make (P := Tryz.prog) w 115 45 i5 _ Tryz.underlying115 hi5 hz5 .i64 .i64 n n (by omega) (by omega) (by rw [hb5]; omega) (by omega)
  rw [hm1]
  have e : madeCells (Value.agg #[.int .i64 0, .slice none 0 0]).cells (n * i5.size) = (encSt.all (List.replicate n lm0)).toArray := by
    rw [hs5]
    exact made_st n hn
  rw [Int.toNat_natCast, e]
theorem make_outs (n : Nat) (hn : n ≤ 16) : ∀ w, (Instr.makeSlice 78 (.int .i64 n) (.int .i64 n)).run Tryz.prog w = .ok (.slice (some ⟨w.heap.size, 0, none⟩) n n) (w.alloc (.cells (encOh.all (List.replicate n lm0)).toArray 46)) := by
  obtain ⟨i5, hi5, hz5, hs5, hb5⟩ := info_parts Tryz.info46
  intro w
  have hm1 := run_make (P := Tryz.prog) w 78 46 i5 _ Tryz.underlying78 hi5 hz5 .i64 .i64 n n (by omega) (by omega) (by rw [hb5]; omega) (by omega)
  rw [hm1]
  have e : madeCells (Value.slice none 0 0).cells (n * i5.size) = (encOh.all (List.replicate n lm0)).toArray := by
    rw [hs5]
    exact made_oh n hn
  rw [Int.toNat_natCast, e]
/-- The cells of a lane of a block. -/
theorem lm_blk {w : World} {g : Nat} {B : List Lm} {R : List Value} {t : TypeId} (h : w.heap[g]? = some (.cells (encL.all B ++ R).toArray t (0, 0))) {i : Nat} {y : Lm} (hy : B[i]? = some y) :
    w.cell? ⟨g, i * 9, none⟩ = some (.int .i64 y.q.kind) ∧ w.cell? ⟨g, i * 9 + 1, none⟩ = some (.int .i64 y.q.size) ∧ w.cell? ⟨g, i * 9 + 2, none⟩ = some (.int .i64 y.q.slide) ∧ w.cell? ⟨g, i * 9 + 3, none⟩ = some (.int .i64 y.q.late) ∧ w.cell? ⟨g, i * 9 + 4, none⟩ = some (.int .i64 y.q.agg) ∧
    w.cell? ⟨g, i * 9 + 5, none⟩ = some (.int .i64 y.q.k) ∧ w.cell? ⟨g, i * 9 + 6, none⟩ = some (.int .i64 y.mr) ∧ w.cell? ⟨g, i * 9 + 7, none⟩ = some y.ph ∧ w.cell? ⟨g, i * 9 + 8, none⟩ = some y.oh := by
  have key : ∀ c v, (lmC y).toList[c]? = some v → w.cell? ⟨g, i * 9 + c, none⟩ = some v := fun c v hv => by
    have h2 := encL.get hy (show (encL.cells y)[c]? = some v from hv)
    have hlt := (List.getElem?_eq_some_iff.1 h2).1
    refine cell_blk' h ?_
    rw [List.getElem?_toArray, List.getElem?_append_left (show i * 9 + c < _ from hlt)]
    exact h2
  exact ⟨key 0 _ rfl, key 1 _ rfl, key 2 _ rfl, key 3 _ rfl, key 4 _ rfl, key 5 _ rfl, key 6 _ rfl, key 7 _ rfl, key 8 _ rfl⟩
theorem Enc.set0 {α : Type} (E : Enc α) {l : List α} {i : Nat} (x : α) (hi : i < l.length) : splice (E.all l) (i * E.k) (E.cells x) = E.all (l.set i x) := by
  have := E.set (l := l) [] x hi
  rwa [List.append_nil, List.append_nil] at this
theorem oh_all : ∀ A : List Lm, encOh.all A = A.map Lm.oh
  | [] => rfl
  | y :: l => by rw [encOh.all_cons, oh_all l]; rfl
theorem oh_set {A : List Lm} {i : Nat} (y : Lm) (h : i < A.length) : (encOh.all A).toArray.setIfInBounds i y.oh = (encOh.all (A.set i y)).toArray := by
  rw [oh_all, oh_all, List.setIfInBounds_toArray, List.map_set]
theorem st_blk {w : World} {g : Nat} {A : List Lm} {t : TypeId} (h : w.heap[g]? = some (.cells (encSt.all A).toArray t (0, 0))) {i : Nat} {y : Lm} (hy : A[i]? = some y) : w.cell? ⟨g, i * 2, none⟩ = some (.int .i64 y.mr) ∧ w.cell? ⟨g, i * 2 + 1, none⟩ = some y.ph := by
  have key : ∀ (c : Nat) v, (encSt.cells y)[c]? = some v → w.cell? ⟨g, i * 2 + c, none⟩ = some v := fun c v hv => by
    refine cell_blk' h ?_
    rw [List.getElem?_toArray]
    exact encSt.get hy hv
  exact ⟨key 0 _ rfl, key 1 _ rfl⟩
theorem take_set0 {α : Type} {L : List α} {i : Nat} {x : α} : (L.set i x).take i = L.take i := by
  refine List.ext_getElem? fun j => ?_
  rw [List.getElem?_take, List.getElem?_take]
  split
  · rw [List.getElem?_set_ne (by omega)]
  · rfl
theorem set_same_of {α : Type} {l : List α} {i : Nat} {x : α} (h : l[i]? = some x) : l.set i x = l := by
  obtain ⟨hlt, e⟩ := List.getElem?_eq_some_iff.1 h
  rw [← e, List.set_getElem_self]
theorem own_more {y : Lm} {H H' : List (Value × List Int)} (h : y.own H) (hs : ∀ z ∈ H, z ∈ H') : y.own H' := ⟨fun m hm => hs _ (h.1 m hm), fun m hm => hs _ (h.2 m hm)⟩
def Ln.nw (x : Itm) (y : Ln) : Ln := ⟨y.q, (stepM y.q y.s x).s, (stepM y.q y.s x).outs⟩
/-- Lists of outs that can be read. -/
def OtssRO (w : World) (hs : List Value) (ll : List (List Ot)) : Prop := hs.length = ll.length ∧ ∀ (k : Nat) (o : List Ot), ll[k]? = some o → ∃ u, hs[k]? = some u ∧ OtsRO w u o
theorem OtssRO.later {w w' : World} {hs : List Value} {ll : List (List Ot)} (h : OtssRO w hs ll) (hk : Kept (fun _ => False) w w') : OtssRO w' hs ll :=
  ⟨h.1, fun k o ho => by obtain ⟨u, h1, h2⟩ := h.2 k o ho; exact ⟨u, h1, h2.later hk⟩⟩
def LnStep (S : Nat → Prop) (b : Nat) (l : List Ln) (items : List Itm) (x : Itm) (w : World) (e : Ending) (w' : World) : Prop :=
  if x.right = true then
    match badLn x l 0 with
    | some (i, er) => e = .returned (.tuple #[.slice none 0 0, .int .i64 i, .int .i64 er]) ∧ St S w w' [LnsAt b l items]
    | none => ∃ g hs, e = .returned (.tuple #[.slice (some ⟨g, 0, none⟩) l.length l.length, .int .i64 (-1), .int .i64 0]) ∧ OtssRO w' hs (l.map fun y => (stepM y.q y.s x).outs) ∧ St S w w' [LnsAt b (l.map (Ln.go x)) (items ++ [x]), Blk g hs.toArray 46]
  else e = .returned (.tuple #[.slice none 0 0, .int .i64 (-1), .int .i64 2]) ∧ St S w w' [LnsAt b l items]

set_option maxHeartbeats 8000000 in
set_option maxRecDepth 100000 in
theorem lns_step {lb : Nat} {l : List Ln} {items : List Itm} {S : Nat → Prop} (x : Itm) (w : World) (hx : x.fits) (hif : ∀ y ∈ items, y.fits) (hil : items.length ≤ 4194304) (hl0 : l ≠ []) (hl : l.length ≤ 16) (hfit : LnFit l) (HS : Sep w [LnsAt lb l items] S) :
    Calls Tryz.prog 35 #[.pointer (some ⟨lb, 0, none⟩), itmV x] w (LnStep S lb l items x w) := by
  have hno : x.right = false → ∀ w', St S w w' [LnsAt lb l items] → LnStep S lb l items x w (.returned (.tuple #[.slice none 0 0, .int .i64 (-1), .int .i64 2])) w' := fun h w' H => by
    unfold LnStep
    rw [if_neg (by rw [h]; decide)]
    exact ⟨rfl, H⟩
  have hbd : x.right = true → ∀ (i : Nat) (er : Int), badLn x l 0 = some (i, er) → ∀ w', St S w w' [LnsAt lb l items] → LnStep S lb l items x w (.returned (.tuple #[.slice none 0 0, .int .i64 i, .int .i64 er])) w' := fun h i er hb w' H => by
    unfold LnStep
    rw [if_pos h, hb]
    exact ⟨rfl, H⟩
  have hok : x.right = true → badLn x l 0 = none → ∀ g hs w', OtssRO w' hs (l.map fun y => (stepM y.q y.s x).outs) → St S w w' [LnsAt lb (l.map (Ln.go x)) (items ++ [x]), Blk g hs.toArray 46] → LnStep S lb l items x w (.returned (.tuple #[.slice (some ⟨g, 0, none⟩) l.length l.length, .int .i64 (-1), .int .i64 0])) w' := fun h hb g hs w' h1 H => by
    unfold LnStep
    rw [if_pos h, hb]
    exact ⟨g, hs, rfl, h1, H⟩
  obtain ⟨fin, hfin⟩ : ∃ z, LnStep S lb l items x w = z := ⟨_, rfl⟩
  rw [hfin] at hno hbd hok ⊢
  clear hfin
  have hnoh := Lib.hid hno
  have hbdh := Lib.hid hbd
  have hokh := Lib.hid hok
  have hfith := Lib.hid hfit
  have kst := Lib.hid (fun (q : Qry) (st : Stt) (v : Value) w' (hv : PnsRO w' v st.panes) (hl : st.panes.length ≤ 1073741824) (hf : ∀ p ∈ st.panes, p.fits) => oper_step q st x w' hv hl hf hx)
  have houts := Lib.hid (fun (q : Qry) (st : Stt) => step_outs q st x)
  have hvals := Lib.hid (fun (q : Qry) (st : Stt) => step_vals (q := q) (s := st) (x := x))
  have hbdr := Lib.hid (fun (i : Nat) (y : Ln) (h : l[i]? = some y) => bad_drop (x := x) h)
  have hxh := Lib.hid hx
  have kev := fun w' => ev_right x hx w'
  have hl1 := Lib.hid (List.length_pos_iff.2 hl0)
  have hifh := Lib.hid hif
  obtain ⟨ms, la, lc, ia, ic, HH, g1, g2, H1⟩ := LnsAt.open (St.refl HS)
  have hn : l.length = ms.length := by rw [← g1, List.length_map]
  have hown := Lib.hid g2
  have hms := Lib.hid g1
  obtain ⟨rb, cap, R, hv', hnc, hcm, hxl, hcs, H2⟩ := H1.row_blk 1 rfl (by have := hl1.out; omega)
  obtain ⟨rfl, rfl⟩ : la = some ⟨rb, 0, none⟩ ∧ lc = cap := by injection hv' with h1 _ h2; exact ⟨h1, h2⟩
  have hrow := Lib.hid (And.intro hnc (And.intro hcm (And.intro hxl hcs)))
  obtain ⟨n, hnn⟩ : ∃ z, ms.length = z := ⟨_, rfl⟩
  rw [hnn] at H2 hn
  have hn16 : n ≤ 16 := by omega
  have hnnh := Lib.hid hnn
  have hnl := Lib.hid hn
  clear hno hbd hok hfit hx hl0 hif HS g1 g2 H1 hv' hnc hcm hxl hcs hnn hl hn
  obtain ⟨X, hX⟩ : ∃ X, X = x := ⟨_, rfl⟩
  rw [← hX] at kev
  have kstX : Hid (∀ (q : Qry) (st : Stt) (v : Value) w', PnsRO w' v st.panes → st.panes.length ≤ 1073741824 → (∀ p ∈ st.panes, p.fits) → Calls Tryz.prog 27 #[qyV q, .agg #[.int .i64 st.mark, v], itmV X] w' fun e w2 => StepOk (fun _ => False) w' (stepM q st x) e w2) := by rw [hX]; exact kst
  show Calls _ _ #[_, itmV x] _ _
  rw [← hX]
  have hXh := Lib.hid hX
  clear hX kst
  obtain ⟨xr, hxr⟩ : ∃ z, X.right = z := ⟨_, rfl⟩
  simp only [hxr] at kev
  have hxrh := Lib.hid hxr
  clear hxr
  obtain ⟨xk, xy, xt, xv⟩ := X
  unfold itmV textV at kstX kev
  unfold itmV textV
  simp only at kstX kev ⊢
  have hmk1 := fun w' => make_states n hn16 w'
  have hmk2 := fun w' => make_outs n hn16 w'
  have H3 : St S w _ (_ :: _) := H2.allocAt rfl #[.int .i64 xk, .string ⟨xy.toArray⟩, .int .i64 xt, .int .i64 xv] 56
  go_enter Tryz.func35, Tryz.ntmps35
  go_upto_region 3 with (fail)
  obtain ⟨xb, hxb⟩ : ∃ z, w.heap.size = z := ⟨_, rfl⟩
  obtain ⟨wa, hwa⟩ : ∃ z, w.alloc (.cells #[.int .i64 xk, .string ⟨xy.toArray⟩, .int .i64 xt, .int .i64 xv] 56) = z := ⟨_, rfl⟩
  rw [hwa, hxb] at H3
  try rw [hwa]
  try simp only [hxb]
  have H4 : St S w wa [Blk lb #[.slice (some ⟨rb, 0, none⟩) n lc, .slice ia items.length ic] 153, Blk rb (encL.all ms ++ R).toArray 155, Row 56 4 (.slice ia items.length ic) items.length (itms items), Many LmP ms, Many LmO ms, Pool HH, Blk xb #[.int .i64 xk, .string ⟨xy.toArray⟩, .int .i64 xt, .int .i64 xv] 56] := H3.pick [1, 2, 3, 4, 5, 6, 0]
  have hxbh := Lib.hid hxb
  clear hwa hxb H2 H3
  have y0 := H4.cell 6 0 rfl rfl
  have y1 := H4.cell 6 1 rfl rfl
  have y2 := H4.cell 6 2 rfl rfl
  have y3 := H4.cell 6 3 rfl rfl
  have hback : Hid (∀ w', St S w w' [Blk lb #[.slice (some ⟨rb, 0, none⟩) n lc, .slice ia items.length ic] 153, Blk rb (encL.all ms ++ R).toArray 155, Row 56 4 (.slice ia items.length ic) items.length (itms items), Many LmP ms, Many LmO ms, Pool HH] → St S w w' [LnsAt lb l items]) := Lib.hid fun w' H => by
    obtain ⟨h1, h2, h3, h4⟩ := hrow.out
    have H5 := H.blk_row 1 (e := 155) (size := 9) (cap := lc) (n := ms.length) (xs := encL.all ms) rfl h1 h2 (by rw [List.length_append] at h4 ⊢; exact h4) (by rw [List.take_append_of_le_length (by rw [h3]; exact Nat.le_refl _), List.take_of_length_le (by rw [h3]; exact Nat.le_refl _)])
    refine LnsAt.mk hms.out hown.out (la := some ⟨rb, 0, none⟩) (lc := lc) (ia := ia) (ic := ic) ?_
    rw [hnnh.out] at H5 ⊢
    exact H5
  cases xr
  case false =>
    have hb := hnoh.out (by rw [← hXh.out]; exact hxrh.out)
    go_wp2_with (go_at_call 71; go_must (refine (St.callPast (kev _) H4).mono ?_; rintro e w1 ⟨rfl, H5⟩))
    go_ret3
    exact hb _ (hback.out _ (H5.pick [0, 1, 2, 3, 4, 5]))
  case true =>
    have hxt : Hid (x.right = true) := Lib.hid (by rw [← hXh.out]; exact hxrh.out)
    go_upto_region 5 with (go_at_call 71; go_must (refine (St.callPast (kev _) H4).mono ?_; rintro e w1 ⟨rfl, H5⟩))
    clear H4 y0 y1 y2 y3 kev hnoh
    have l0 := H5.cell 0 0 rfl rfl
    have H6 : St S w _ (_ :: _) := H5.allocAt rfl (encSt.all (List.replicate n lm0)).toArray 45
    go_upto_region 6 with (fail)
    obtain ⟨wb, hwb⟩ : ∃ z, w1.alloc (.cells (encSt.all (List.replicate n lm0)).toArray 45) = z := ⟨_, rfl⟩
    obtain ⟨sb, hsb⟩ : ∃ z, w1.heap.size = z := ⟨_, rfl⟩
    rw [hwb, hsb] at H6
    try rw [hwb]
    try simp only [hsb]
    clear l0 hwb H5
    have l0 := H6.cell 1 0 rfl rfl
    have H7 : St S w _ (_ :: _) := H6.allocAt rfl (encOh.all (List.replicate n lm0)).toArray 46
    go_upto_region 7 with (fail)
    obtain ⟨wc, hwc⟩ : ∃ z, wb.alloc (.cells (encOh.all (List.replicate n lm0)).toArray 46) = z := ⟨_, rfl⟩
    obtain ⟨ob, hob⟩ : ∃ z, wb.heap.size = z := ⟨_, rfl⟩
    rw [hwc, hob] at H7
    try rw [hwc]
    try simp only [hob]
    clear l0 hwc H6
    have H6 := H7
    have l0 := H6.cell 2 0 rfl rfl
    go_upto_block 2 with (fail)
    obtain ⟨A0, hA0⟩ : ∃ z, List.replicate n lm0 = z := ⟨_, rfl⟩
    have hA0l : A0.length = n := by rw [← hA0, List.length_replicate]
    rw [hA0] at H6
    have H7 : St S w wc [Blk sb (encSt.all A0).toArray 45, Blk ob (encOh.all A0).toArray 46, Many LmP (A0.take 0), Many LmO (A0.take 0), Pool [], Blk lb #[.slice (some ⟨rb, 0, none⟩) n lc, .slice ia items.length ic] 153, Blk rb (encL.all ms ++ R).toArray 155, Row 56 4 (.slice ia items.length ic) items.length (itms items), Many LmP ms, Many LmO ms, Pool HH, Blk xb #[.int .i64 xk, .string ⟨xy.toArray⟩, .int .i64 xt, .int .i64 xv] 56] := by
      have h := (Many.nil (f := LmP) (Many.nil (f := LmO) H6.pool_nil))
      exact h.pick [4, 3, 0, 1, 2, 5, 6, 7, 8, 9, 10, 11]
    have hobh := Lib.hid hob
    have hsbh := Lib.hid hsb
    have hA0h := Lib.hid hA0l
    have hA0e := Lib.hid hA0
    clear hsb hob H6 l0 hmk1 hmk2 hA0l hA0
    go_loopw [9, 10, 11, 12, 13, 39] (fun _ _ _ _ _ u39 wr => ∃ (i : Nat) (A : List Lm) (HA : List (Value × List Int)), i ≤ n ∧ u39 = .int .i64 i ∧ Hid (A.length = n ∧ badLn x l 0 = badLn x (l.drop i) i ∧ (A.take i).map Lm.ln = (l.take i).map (Ln.nw x) ∧ ∀ y ∈ A.take i, y.own HA) ∧ St S w wr [Blk sb (encSt.all A).toArray 45, Blk ob (encOh.all A).toArray 46, Many LmP (A.take i), Many LmO (A.take i), Pool HA, Blk lb #[.slice (some ⟨rb, 0, none⟩) n lc, .slice ia items.length ic] 153, Blk rb (encL.all ms ++ R).toArray 155, Row 56 4 (.slice ia items.length ic) items.length (itms items), Many LmP ms, Many LmO ms, Pool HH, Blk xb #[.int .i64 xk, .string ⟨xy.toArray⟩, .int .i64 xt, .int .i64 xv] 56]) (fun _ _ _ _ _ u39 _ => n - (intOf u39).toNat)
    case atStart => exact ⟨0, A0, [], by omega, rfl, Lib.hid ⟨hA0h.out, rfl, rfl, fun y hy => (by cases hy)⟩, H7⟩
    case round =>
      clear H7
      obtain ⟨i, A, HA, hi, rfl, hall, HM⟩ := hrel
      by_cases hlt : i < n
      · obtain ⟨y, hy⟩ : ∃ y, ms[i]? = some y := ⟨_, List.getElem?_eq_getElem (by rw [hnnh.out]; exact hlt)⟩
        have hY : l[i]? = some y.ln := by rw [← hms.out, List.getElem?_map, hy]; rfl
        have hYh := Lib.hid hY
        obtain ⟨k0, k1, k2, k3, k4, k5, k6, k7, k8⟩ := lm_blk (HM.blk 6 rfl) hy
        have HP : St S w wr (LmP y :: _) := Many.out (HM.front 8 rfl) hy
        have hro : PnsRO wr y.ph (y.ps.map (·.p)) := HP.pnsRO 0 11 rfl rfl (hown.out y (List.mem_of_getElem? hy)).1
        have hf := hfith.out _ (List.mem_of_getElem? hY)
        have hst := fun w' (hk : Kept (fun _ => False) wr w') => kstX.out y.q y.ln.s y.ph w' (hro.later hk) hf.1 hf.2.1
        have hr := hbdr.out i _ hY
        have hnw : Ln.nw x y.ln = ⟨y.q, (stepM y.q y.ln.s x).s, (stepM y.q y.ln.s x).outs⟩ := rfl
        rw [show y.ln.q = y.q from rfl] at hr
        have hyln := Lib.hid (rfl : y.ln = y.ln)
        obtain ⟨Z, hZ⟩ : ∃ z, stepM y.q y.ln.s x = z := ⟨_, rfl⟩
        rw [hZ] at hr hnw
        simp only [hZ] at hst
        have hrh := Lib.hid hr
        have hnwh := Lib.hid hnw
        have hi2 : (i : Int) < (n : Int) := by omega
        clear hZ hy hY HP hro hf hr hnw
        obtain ⟨⟨kd, sz, sl, lt, ag, kk⟩, mk, ps, pa, pc, os, oa, oc⟩ := y
        obtain ⟨⟨mk2, ps2⟩, O2, e2⟩ := Z
        unfold StepOk qyV qyC at hst
        unfold Lm.ph Lm.ln at hst
        simp only at k0 k1 k2 k3 k4 k5 k6 k7 k8 hst hrh
        have HN : St S w _ (_ :: _) := HM.allocAt rfl #[.int .i64 kd, .int .i64 sz, .int .i64 sl, .int .i64 lt, .int .i64 ag, .int .i64 kk, .int .i64 mk, .slice pa ps.length pc, .slice oa os.length oc] 155
        have hst := hst _ ((Kept.refl _ wr).alloc (.cells #[.int .i64 kd, .int .i64 sz, .int .i64 sl, .int .i64 lt, .int .i64 ag, .int .i64 kk, .int .i64 mk, .slice pa ps.length pc, .slice oa os.length oc] 155))
        go_upto_region 10 with (fail)
        obtain ⟨wc1, hwc⟩ : ∃ z, wr.alloc (.cells #[.int .i64 kd, .int .i64 sz, .int .i64 sl, .int .i64 lt, .int .i64 ag, .int .i64 kk, .int .i64 mk, .slice pa ps.length pc, .slice oa os.length oc] 155) = z := ⟨_, rfl⟩
        obtain ⟨yb, hyb⟩ : ∃ z, wr.heap.size = z := ⟨_, rfl⟩
        rw [hwc, hyb] at HN
        rw [hwc] at hst
        try rw [hwc]
        try simp only [hyb]
        have HB : St S w wc1 [Blk yb #[.int .i64 kd, .int .i64 sz, .int .i64 sl, .int .i64 lt, .int .i64 ag, .int .i64 kk, .int .i64 mk, .slice pa ps.length pc, .slice oa os.length oc] 155, Blk sb (encSt.all A).toArray 45, Blk ob (encOh.all A).toArray 46, Many LmP (A.take i), Many LmO (A.take i), Pool HA, Blk lb #[.slice (some ⟨rb, 0, none⟩) n lc, .slice ia items.length ic] 153, Blk rb (encL.all ms ++ R).toArray 155, Row 56 4 (.slice ia items.length ic) items.length (itms items), Many LmP ms, Many LmO ms, Pool HH, Blk xb #[.int .i64 xk, .string ⟨xy.toArray⟩, .int .i64 xt, .int .i64 xv] 56] := HN
        have hybh := Lib.hid hyb
        clear hwc hyb k0 k1 k2 k3 k4 k5 k6 k7 k8 HM HN
        have d0 := HB.cell 0 0 rfl rfl
        have d1 := HB.cell 0 1 rfl rfl
        have d2 := HB.cell 0 2 rfl rfl
        have d3 := HB.cell 0 3 rfl rfl
        have d4 := HB.cell 0 4 rfl rfl
        have d5 := HB.cell 0 5 rfl rfl
        have d6 := HB.cell 0 6 rfl rfl
        have d7 := HB.cell 0 7 rfl rfl
        have y0 := HB.cell 12 0 rfl rfl
        have y1 := HB.cell 12 1 rfl rfl
        have y2 := HB.cell 12 2 rfl rfl
        have y3 := HB.cell 12 3 rfl rfl
        go_upto_region 11 with (go_at_call 27; go_must (refine hst.mono ?_; rintro e w3 ⟨hs, ho, ms2, os2, H2, rfl, hm2, ho2, hmo2, hoo2, G1⟩; have hm2h := Lib.hid hm2; have ho2h := Lib.hid ho2; have hmo2h := Lib.hid hmo2; have hoo2h := Lib.hid hoo2; clear hm2 ho2 hmo2 hoo2; obtain ⟨p2, c2, rfl, -, -⟩ := slice_form' (G1.row 0 rfl); obtain ⟨o2, k2, rfl, -, -⟩ := slice_form' (G1.row 1 rfl); have HC0 : St S w w3 [Row 68 8 (.slice p2 ms2.length c2) ms2.length (encP.all ms2), Row 63 10 (.slice o2 os2.length k2) os2.length (encO.all os2), Pool H2, Blk yb #[.int .i64 kd, .int .i64 sz, .int .i64 sl, .int .i64 lt, .int .i64 ag, .int .i64 kk, .int .i64 mk, .slice pa ps.length pc, .slice oa os.length oc] 155, Blk sb (encSt.all A).toArray 45, Blk ob (encOh.all A).toArray 46, Many LmP (A.take i), Many LmO (A.take i), Pool HA, Blk lb #[.slice (some ⟨rb, 0, none⟩) n lc, .slice ia items.length ic] 153, Blk rb (encL.all ms ++ R).toArray 155, Row 56 4 (.slice ia items.length ic) items.length (itms items), Many LmP ms, Many LmO ms, Pool HH, Blk xb #[.int .i64 xk, .string ⟨xy.toArray⟩, .int .i64 xt, .int .i64 xv] 56] := HB.call0 G1; have HC : St S w _ (_ :: _) := HC0.allocAt rfl #[.int .i64 mk2, .slice p2 ms2.length c2] 45))
        obtain ⟨w4, hw4⟩ : ∃ z, w3.alloc (.cells #[.int .i64 mk2, .slice p2 ms2.length c2] 45) = z := ⟨_, rfl⟩
        obtain ⟨nb, hnb⟩ : ∃ z, w3.heap.size = z := ⟨_, rfl⟩
        rw [hw4, hnb] at HC
        try rw [hw4]
        try simp only [hnb]
        have HD : St S w w4 [Blk nb #[.int .i64 mk2, .slice p2 ms2.length c2] 45, Row 68 8 (.slice p2 ms2.length c2) ms2.length (encP.all ms2), Row 63 10 (.slice o2 os2.length k2) os2.length (encO.all os2), Pool H2, Blk yb #[.int .i64 kd, .int .i64 sz, .int .i64 sl, .int .i64 lt, .int .i64 ag, .int .i64 kk, .int .i64 mk, .slice pa ps.length pc, .slice oa os.length oc] 155, Blk sb (encSt.all A).toArray 45, Blk ob (encOh.all A).toArray 46, Many LmP (A.take i), Many LmO (A.take i), Pool HA, Blk lb #[.slice (some ⟨rb, 0, none⟩) n lc, .slice ia items.length ic] 153, Blk rb (encL.all ms ++ R).toArray 155, Row 56 4 (.slice ia items.length ic) items.length (itms items), Many LmP ms, Many LmO ms, Pool HH, Blk xb #[.int .i64 xk, .string ⟨xy.toArray⟩, .int .i64 xt, .int .i64 xv] 56] := HC
        have hnbh := Lib.hid hnb
        clear hw4 hnb HC0 HC HB G1 y0 y1 y2 y3 d0 d1 d2 d3 d4 d5 d6 d7 hst
        by_cases he : e2 = 0
        · subst he
          have n0 := HD.cell 0 0 rfl rfl
          have n1 := HD.cell 0 1 rfl rfl
          obtain ⟨hAl, hb1, hl2, hw2⟩ := hall.out
          have hbr : badLn x l 0 = badLn x (l.drop (i + 1)) (i + 1) := by rw [hb1, hrh.out, if_pos rfl]
          have hbrh := Lib.hid hbr
          have hAlh := Lib.hid hAl
          have hl2h := Lib.hid hl2
          have hw2h := Lib.hid hw2
          have hsf : i * 2 + 2 ≤ (encSt.all A).length := by rw [encSt.all_len, hAl]; show i * 2 + 2 ≤ n * 2; omega
          have hof : i < (encOh.all A).length := by rw [encOh.all_len, hAl]; show i < n * 1; omega
          clear hAl hb1 hl2 hw2 hbr hall hrh
          go_upto_region 14 with ((with_reducible show Go.wpList _ _ _ (Oper.mk none (Op.store 45 _ _) _ _ _ _ :: _) _ _); go_must (refine St.list_storeMid HD 5 rfl (n := 2) (by kernel_rfl) (vs := #[.int .i64 mk2, .slice p2 ms2.length c2]) rfl (by simp [allOne, Value.oneCell']) hsf rfl (.tmp 64) (.tmp 62) rfl rfl rfl ?_; intro w5 HE hz5; clear hz5; have b0 := HE.free 6 i rfl; have b1 : w5.cell? ⟨ob, i, none⟩ = some _ := HE.cell 6 i rfl (by rw [List.getElem?_toArray]; exact List.getElem?_eq_getElem hof)))
          have hAi := hAlh.out
          have HG : St S w (w5.setCell ⟨ob, i, none⟩ (.slice o2 os2.length k2)) [Blk nb #[.int .i64 mk2, .slice p2 ms2.length c2] 45, Row 68 8 (.slice p2 ms2.length c2) ms2.length (encP.all ms2), Row 63 10 (.slice o2 os2.length k2) os2.length (encO.all os2), Pool H2, Blk yb #[.int .i64 kd, .int .i64 sz, .int .i64 sl, .int .i64 lt, .int .i64 ag, .int .i64 kk, .int .i64 mk, .slice pa ps.length pc, .slice oa os.length oc] 155, Blk sb (encSt.all (A.set i ⟨⟨kd, sz, sl, lt, ag, kk⟩, mk2, ms2, p2, c2, os2, o2, k2⟩)).toArray 45, Blk ob (encOh.all (A.set i ⟨⟨kd, sz, sl, lt, ag, kk⟩, mk2, ms2, p2, c2, os2, o2, k2⟩)).toArray 46, Many LmP (A.take i), Many LmO (A.take i), Pool HA, Blk lb #[.slice (some ⟨rb, 0, none⟩) n lc, .slice ia items.length ic] 153, Blk rb (encL.all ms ++ R).toArray 155, Row 56 4 (.slice ia items.length ic) items.length (itms items), Many LmP ms, Many LmO ms, Pool HH, Blk xb #[.int .i64 xk, .string ⟨xy.toArray⟩, .int .i64 xt, .int .i64 xv] 56] := by
            have h1 : splice (encSt.all A) (i * 2) [.int .i64 mk2, .slice p2 ms2.length c2] = encSt.all (A.set i ⟨⟨kd, sz, sl, lt, ag, kk⟩, mk2, ms2, p2, c2, os2, o2, k2⟩) := encSt.set0 ⟨⟨kd, sz, sl, lt, ag, kk⟩, mk2, ms2, p2, c2, os2, o2, k2⟩ (by omega)
            rw [← h1, ← oh_set ⟨⟨kd, sz, sl, lt, ag, kk⟩, mk2, ms2, p2, c2, os2, o2, k2⟩ (by omega)]
            exact HE.set 6 rfl i (.slice o2 os2.length k2)
          have h1 : St S w (w5.setCell ⟨ob, i, none⟩ (.slice o2 os2.length k2)) (Many LmP (A.take i) :: LmP ⟨⟨kd, sz, sl, lt, ag, kk⟩, mk2, ms2, p2, c2, os2, o2, k2⟩ :: _) := HG.pick [7, 1, 8, 2, 3, 9, 5, 6, 10, 11, 12, 13, 14, 15, 16]
          have h2 := Many.snoc h1
          have h3 : St S w (w5.setCell ⟨ob, i, none⟩ (.slice o2 os2.length k2)) (Many LmO (A.take i) :: LmO ⟨⟨kd, sz, sl, lt, ag, kk⟩, mk2, ms2, p2, c2, os2, o2, k2⟩ :: _) := h2.pick [1, 2, 0, 3, 4, 5, 6, 7, 8, 9, 10, 11, 12, 13]
          have h4 := Many.snoc h3
          have h5 : St S w (w5.setCell ⟨ob, i, none⟩ (.slice o2 os2.length k2)) (Pool H2 :: Pool HA :: _) := h4.pick [2, 3, 0, 1, 4, 5, 6, 7, 8, 9, 10, 11, 12]
          have h6 := St.pool_join h5
          have hts : (A.set i ⟨⟨kd, sz, sl, lt, ag, kk⟩, mk2, ms2, p2, c2, os2, o2, k2⟩).take (i + 1) = A.take i ++ [⟨⟨kd, sz, sl, lt, ag, kk⟩, mk2, ms2, p2, c2, os2, o2, k2⟩] := take_set1 _ (by omega)
          have hfin : St S w (w5.setCell ⟨ob, i, none⟩ (.slice o2 os2.length k2)) [Blk sb (encSt.all (A.set i ⟨⟨kd, sz, sl, lt, ag, kk⟩, mk2, ms2, p2, c2, os2, o2, k2⟩)).toArray 45, Blk ob (encOh.all (A.set i ⟨⟨kd, sz, sl, lt, ag, kk⟩, mk2, ms2, p2, c2, os2, o2, k2⟩)).toArray 46, Many LmP ((A.set i ⟨⟨kd, sz, sl, lt, ag, kk⟩, mk2, ms2, p2, c2, os2, o2, k2⟩).take (i + 1)), Many LmO ((A.set i ⟨⟨kd, sz, sl, lt, ag, kk⟩, mk2, ms2, p2, c2, os2, o2, k2⟩).take (i + 1)), Pool (H2 ++ HA), Blk lb #[.slice (some ⟨rb, 0, none⟩) n lc, .slice ia items.length ic] 153, Blk rb (encL.all ms ++ R).toArray 155, Row 56 4 (.slice ia items.length ic) items.length (itms items), Many LmP ms, Many LmO ms, Pool HH, Blk xb #[.int .i64 xk, .string ⟨xy.toArray⟩, .int .i64 xt, .int .i64 xv] 56] := by
            rw [hts]
            exact h6.pick [3, 4, 2, 1, 0, 5, 6, 7, 8, 9, 10, 11]
          have hl2n : (l.take (i + 1)).map (Ln.nw x) = (l.take i).map (Ln.nw x) ++ [⟨⟨kd, sz, sl, lt, ag, kk⟩, ⟨mk2, ps2⟩, O2⟩] := by
            rw [take_snoc' hYh.out, List.map_append]
            rw [show [(⟨⟨kd, sz, sl, lt, ag, kk⟩, mk, ps, pa, pc, os, oa, oc⟩ : Lm).ln].map (Ln.nw x) = [Ln.nw x (⟨⟨kd, sz, sl, lt, ag, kk⟩, mk, ps, pa, pc, os, oa, oc⟩ : Lm).ln] from rfl, hnwh.out]
          have hl2nh := Lib.hid hl2n
          have htsh := Lib.hid hts
          clear h1 h2 h3 h4 h5 h6 HG HE b0 b1 hts hl2n HD n0 n1 hsf hof
          go_wp2
          go_roundw
          case rel =>
            refine ⟨i + 1, A.set i ⟨⟨kd, sz, sl, lt, ag, kk⟩, mk2, ms2, p2, c2, os2, o2, k2⟩, H2 ++ HA, by omega, by go_num, Lib.hid ⟨by rw [List.length_set]; exact hAlh.out, hbrh.out, ?_, ?_⟩, hfin⟩
            · rw [htsh.out, List.map_append, hl2h.out, hl2nh.out]
              unfold Lm.ln
              simp only [List.map_cons, List.map_nil, hm2h.out, ho2h.out]
            · intro y hy
              rw [htsh.out] at hy
              rcases List.mem_append.1 hy with hy | hy
              · obtain ⟨u1, u2⟩ := hw2h.out y hy
                exact ⟨fun m hm => List.mem_append_right _ (u1 m hm), fun m hm => List.mem_append_right _ (u2 m hm)⟩
              · obtain rfl := List.mem_singleton.1 hy
                exact ⟨fun m hm => List.mem_append_left _ (hmo2h.out m hm), fun m hm => List.mem_append_left _ (hoo2h.out m hm)⟩
          case measure => simp [intOf]; omega
        · have he3 : (e2 != 0) = true := by simpa using he
          have hb := hbdh.out hxt.out i e2 (by rw [hall.out.2.1, hrh.out, if_neg he])
          clear hrh hall
          go_wp2
          go_ret3
          exact hb _ (hback.out _ (HD.pick [10, 11, 12, 13, 14, 15]))
      · obtain rfl : i = n := by omega
        obtain ⟨hAl, hb1, hl2, hw2⟩ := hall.out
        rw [show l.drop i = [] from List.drop_of_length_le (by rw [hnl.out]; exact Nat.le_refl _)] at hb1
        have hbn : badLn x l 0 = none := hb1
        rw [List.take_of_length_le (by omega)] at hl2 hw2 HM
        rw [List.take_of_length_le (l := l) (by rw [hnl.out]; exact Nat.le_refl _)] at hl2
        have hokn := Lib.hid (hokh.out hxt.out hbn)
        have hAlh := Lib.hid hAl
        have hl2h := Lib.hid hl2
        have hw2h := Lib.hid hw2
        have l0 := HM.cell 5 0 rfl rfl
        have h1 : St S w wr (Pool HA :: Pool HH :: _) := HM.pick [4, 10, 5, 6, 7, 9, 2, 3, 0, 1, 11]
        have h2 := St.pool_join h1
        have HB0 : St S w wr [Blk lb #[.slice (some ⟨rb, 0, none⟩) i lc, .slice ia items.length ic] 153, Blk rb (encL.all ms ++ R).toArray 155, Row 56 4 (.slice ia items.length ic) items.length (itms items), Many LmO ms, Many LmP A, Many LmO A, Pool (HA ++ HH), Blk sb (encSt.all A).toArray 45, Blk ob (encOh.all A).toArray 46, Blk xb #[.int .i64 xk, .string ⟨xy.toArray⟩, .int .i64 xt, .int .i64 xv] 56] := by
          exact h2.pick [1, 2, 3, 4, 5, 6, 0, 7, 8, 9]
        clear h1 h2 hAl hb1 hl2 hw2 hbn hall HM hbdh hokh kstX
        go_upto_block 4 with (fail)
        clear l0
        go_loopw [14, 72] (fun _ u72 wr => ∃ (k : Nat) (B : List Lm) (HB : List (Value × List Int)), k ≤ i ∧ u72 = .int .i64 k ∧ Hid (B.length = i ∧ (B.take k).map Lm.ln = (l.take k).map (Ln.go x) ∧ (B.take k).map LmP = (A.take k).map LmP ∧ B.drop k = ms.drop k ∧ (∀ y ∈ B, y.own HB) ∧ ∀ y ∈ A, y.own HB) ∧ St S w wr [Blk lb #[.slice (some ⟨rb, 0, none⟩) i lc, .slice ia items.length ic] 153, Blk rb (encL.all B ++ R).toArray 155, Row 56 4 (.slice ia items.length ic) items.length (itms items), Many LmO B, Many LmP A, Many LmO A, Pool HB, Blk sb (encSt.all A).toArray 45, Blk ob (encOh.all A).toArray 46, Blk xb #[.int .i64 xk, .string ⟨xy.toArray⟩, .int .i64 xt, .int .i64 xv] 56]) (fun _ u72 _ => i - (intOf u72).toNat)
        case atStart => exact ⟨0, ms, HA ++ HH, by omega, rfl, Lib.hid ⟨hnnh.out, rfl, rfl, rfl, fun y hy => (own_more (hown.out y hy) fun z hz => List.mem_append_right _ hz), fun y hy => (own_more (hw2h.out y hy) fun z hz => List.mem_append_left _ hz)⟩, HB0⟩
        case round =>
          clear HB0
          obtain ⟨k, B, HB, hk, rfl, hall, HM⟩ := hrel
          by_cases hlt2 : k < i
          · obtain ⟨y, hy⟩ : ∃ y, B[k]? = some y := ⟨_, List.getElem?_eq_getElem (by rw [hall.out.1]; exact hlt2)⟩
            obtain ⟨z, hz⟩ : ∃ z, A[k]? = some z := ⟨_, List.getElem?_eq_getElem (by rw [hAlh.out]; exact hlt2)⟩
            have hyh := Lib.hid hy
            have hzh := Lib.hid hz
            have hkl : k < B.length := by rw [hall.out.1]; exact hlt2
            have hY : l[k]? = some y.ln := by
              rw [← hms.out, List.getElem?_map]
              have e1 : (B.drop k)[0]? = B[k]? := by simp
              have e2 : (ms.drop k)[0]? = ms[k]? := by simp
              rw [← e2, ← hall.out.2.2.2.1, e1, hy]
              rfl
            have hYh := Lib.hid hY
            have hzl : z.ln = Ln.nw x y.ln := by
              have e1 : (A.map Lm.ln)[k]? = some z.ln := by rw [List.getElem?_map, hz]; rfl
              rw [hl2h.out, List.getElem?_map, hY] at e1
              exact (Option.some.inj e1).symm
            have hzlh := Lib.hid hzl
            obtain ⟨⟨kd, sz, sl, lt, ag, kk⟩, mk, ps, pa, pc, os, oa, oc⟩ := y
            obtain ⟨zq, mk2, ms2, p2, c2, os2, o2, k2⟩ := z
            have hsf : k * 9 + 6 + 2 ≤ (encL.all B ++ R).length := by
              rw [List.length_append, encL.all_len]
              have h9 : encL.k = 9 := rfl
              rw [h9]
              omega
            have hk2 : (k : Int) < (i : Int) := by omega
            have hi16 : (i : Int) ≤ 16 := by omega
            have hzf : os2.length ≤ 256 ∧ ∀ o ∈ os2.map (·.o), o.value.length ≤ 1073741824 := by
              have e1 : os2.map (·.o) = (Ln.nw x (⟨⟨kd, sz, sl, lt, ag, kk⟩, mk, ps, pa, pc, os, oa, oc⟩ : Lm).ln).outs := by rw [← hzl]; rfl
              refine ⟨?_, fun o ho => ?_⟩
              · rw [show os2.length = (os2.map (·.o)).length by simp, e1]
                exact houts.out _ _
              · rw [e1] at ho
                have := hvals.out _ _ o ho
                omega
            have hof : os.length ≤ 1073741824 := by
              have := (hfith.out _ (List.mem_of_getElem? hY)).2.2
              unfold Lm.ln at this
              simpa using this
            have hzfh := Lib.hid hzf
            have hw9 := Lib.hid hall.out.2.2.2.2.2
            clear hy hz hY hzl hzf
            go_upto_region 18 with (fail)
            refine wp_calm_tail 11 (fun w' => St S w w' [Blk lb #[.slice (some ⟨rb, 0, none⟩) i lc, .slice ia items.length ic] 153, Blk rb (encL.all B ++ R).toArray 155, Row 56 4 (.slice ia items.length ic) items.length (itms items), Many LmO B, Many LmP A, Many LmO A, Pool HB, Blk sb (encSt.all A).toArray 45, Blk ob (encOh.all A).toArray 46, Blk xb #[.int .i64 xk, .string ⟨xy.toArray⟩, .int .i64 xt, .int .i64 xv] 56]) (by kernel_rfl) (by kernel_rfl) (HM.drew) ?_
            simp only [List.take_succ_cons, List.take_zero, List.drop_succ_cons, List.drop_zero]
            iterate 11 first
              | (apply calm_pass
                 · rfl
                 intro K hK
                 go_simp
                 refine hK _ ?_
                 clear hK K)
              | (apply calm_step
                 · rfl
                 · intro w1 h1
                   have c0 := h1.cell 0 0 rfl rfl
                   obtain ⟨s0, s1⟩ := st_blk (h1.blk 7 rfl) hzh.out
                   try simp only at s0 s1
                   first
                     | (go_simp
                        first
                          | rfl
                          | exact ⟨rfl, h1⟩
                       )
                 intro K hK
                 go_simp
                 refine hK _ ?_
                 clear hK K)
            refine calm_nil ?_
            intro w6 H8
            refine St.list_storeMid H8 1 rfl (n := 2) (by kernel_rfl) (vs := #[.int .i64 mk2, .slice p2 ms2.length c2]) rfl (by simp [allOne, Value.oneCell']) hsf rfl (.tmp 85) (.tmp 83) rfl rfl rfl ?_
            intro w7 H9 hz9
            go_simp
            clear hz9 H8 HM hsf
            have e1 : splice (encL.all B ++ R) (k * 9 + 6) [.int .i64 mk2, .slice p2 ms2.length c2] = encL.all (B.set k ⟨⟨kd, sz, sl, lt, ag, kk⟩, mk2, ms2, p2, c2, os, oa, oc⟩) ++ R := encL.setN hyh.out (by show 6 + 2 ≤ 9; omega) rfl
            have e2 : B.map LmO = (B.set k ⟨⟨kd, sz, sl, lt, ag, kk⟩, mk2, ms2, p2, c2, os, oa, oc⟩).map LmO := by rw [List.map_set]; exact (set_same_of (by rw [List.getElem?_map, hyh.out]; rfl)).symm
            obtain ⟨B1, hB1⟩ : ∃ z, B.set k ⟨⟨kd, sz, sl, lt, ag, kk⟩, mk2, ms2, p2, c2, os, oa, oc⟩ = z := ⟨_, rfl⟩
            have hB1l : B1.length = B.length := by rw [← hB1, List.length_set]
            have hy1 : B1[k]? = some ⟨⟨kd, sz, sl, lt, ag, kk⟩, mk2, ms2, p2, c2, os, oa, oc⟩ := by rw [← hB1, List.getElem?_set_self hkl]
            rw [hB1] at e1 e2
            have hMM : Many LmO B = Many LmO B1 := by unfold Many; rw [e2]
            have H10 : St S w w7 (Many LmO B :: _) := H9.pick [3, 0, 1, 2, 4, 5, 6, 7, 8, 9]
            rw [hMM] at H10
            have h11 : St S w w7 (LmO ⟨⟨kd, sz, sl, lt, ag, kk⟩, mk2, ms2, p2, c2, os, oa, oc⟩ :: _) := Many.out H10 hy1
            have e3 : (Blk rb (splice (encL.all B ++ R) (k * 9 + 6) (#[.int .i64 mk2, .slice p2 ms2.length c2] : Array Value).toList).toArray 155) = Blk rb (encL.all B1 ++ R).toArray 155 := congrArg (fun z : List Value => Blk rb z.toArray 155) e1
            have H12 : St S w w7 [Blk lb #[.slice (some ⟨rb, 0, none⟩) i lc, .slice ia items.length ic] 153, Blk rb (encL.all B1 ++ R).toArray 155, Blk ob (encOh.all A).toArray 46, Row 63 10 (.slice oa os.length oc) os.length (encO.all os), Many LmO (B1.eraseIdx k), Row 56 4 (.slice ia items.length ic) items.length (itms items), Many LmP A, Many LmO A, Pool HB, Blk sb (encSt.all A).toArray 45, Blk xb #[.int .i64 xk, .string ⟨xy.toArray⟩, .int .i64 xt, .int .i64 xv] 56] := by
              have h := h11.pick [2, 3, 9, 0, 1, 4, 5, 6, 7, 8, 10]
              rw [← e3]
              exact h
            have hrowlen : k * 9 + 8 < (encL.all B1 ++ R).length := by
              rw [List.length_append, encL.all_len]
              have h9 : encL.k = 9 := rfl
              rw [h9]
              omega
            have hy1h := Lib.hid hy1
            have hB1h := Lib.hid hB1
            have hB1lh := Lib.hid hB1l
            have hob0 : ∀ w' : World, w'.heap[ob]? = some (.cells (encOh.all A).toArray 46 (0, 0)) → w'.cell? ⟨ob, k, none⟩ = some (.slice o2 os2.length k2) := fun w' h => by
              refine cell_blk' h ?_
              rw [oh_all, List.getElem?_toArray, List.getElem?_map, hzh.out]
              rfl
            have hobh2 := Lib.hid hob0
            have hkA : k < A.length := by rw [hAlh.out]; exact hlt2
            clear hy1 hB1 hB1l e1 e2 e3 hMM H9 H10 h11 hob0
            go_upto_region 19 with (fail)
            refine wp_script_tail 21 [(0, false), (1, false), (2, false), (3, false), (4, false), (5, false), (6, false), (7, false), (8, false), (9, false), (10, false), (11, false), (12, false), (13, false), (14, false), (15, false), (16, false), (17, true), (18, true), (19, false), (20, false)] (Fam fun w' => St S w w' [Blk lb #[.slice (some ⟨rb, 0, none⟩) i lc, .slice ia items.length ic] 153, Blk rb (encL.all B1 ++ R).toArray 155, Blk ob (encOh.all A).toArray 46]) (fun w' => St S w w' [Blk lb #[.slice (some ⟨rb, 0, none⟩) i lc, .slice ia items.length ic] 153, Blk rb (encL.all B1 ++ R).toArray 155, Blk ob (encOh.all A).toArray 46, Row 63 10 (.slice oa os.length oc) os.length (encO.all os), Many LmO (B1.eraseIdx k), Row 56 4 (.slice ia items.length ic) items.length (itms items), Many LmP A, Many LmO A, Pool HB, Blk sb (encSt.all A).toArray 45, Blk xb #[.int .i64 xk, .string ⟨xy.toArray⟩, .int .i64 xt, .int .i64 xv] 56]) (by kernel_rfl) (by rfl) (by kernel_rfl) (by kernel_rfl) H12.drew (Fam.st (fun _ h => h.pick [0, 1, 2])) ?_
            iterate 17 first
              | (apply script_pass
                 · rfl
                 · rfl
                 intro K hK
                 go_simp
                 refine hK _ ?_
                 clear hK K)
              | (apply script_step
                 · rfl
                 · rfl
                 · intro I hI w1 h1'
                   have h1 := hI.2 _ h1'
                   have c0 := h1.cell 0 0 rfl rfl
                   obtain ⟨-, -, -, -, -, -, -, -, r8⟩ := lm_blk (h1.blk 1 rfl) hy1h.out
                   have o0 := hobh2.out w1 (h1.blk 2 rfl)
                   try simp only at r8
                   first
                     | (go_simp
                        first
                          | rfl
                          | exact ⟨rfl, h1'⟩
                       )
                 intro K hK
                 go_simp
                 refine hK _ ?_
                 clear hK K)
            refine script_alone rfl rfl ?_
            intro V hV w1 h1
            go_simp
            have hz0 : St S w w1 (LmO ⟨zq, mk2, ms2, p2, c2, os2, o2, k2⟩ :: _) := Many.out (h1.front 7 rfl) hzh.out
            have hro : OtsRO w1 (.slice o2 os2.length k2) (os2.map (·.o)) := hz0.otsRO 0 9 rfl rfl (hw9.out _ (List.mem_of_getElem? hzh.out)).2
            refine (lns_copied hro (by rw [List.length_map]; have := hzfh.out.1; omega) hzfh.out.2).mono ?_
            rintro e w2 ⟨cv, cs, rfl, hcs0, G1⟩
            obtain ⟨ca, cc, rfl, -, -⟩ := slice_form' (G1.row 0 rfl)
            have hcsh := Lib.hid hcs0
            clear hcs0
            have HX : St S w w2 [Row 63 10 (.slice ca cs.length cc) cs.length (encO.all cs), Pool (cs.map Om.own), Blk lb #[.slice (some ⟨rb, 0, none⟩) i lc, .slice ia items.length ic] 153, Blk rb (encL.all B1 ++ R).toArray 155, Blk ob (encOh.all A).toArray 46, Row 63 10 (.slice oa os.length oc) os.length (encO.all os), Many LmO (B1.eraseIdx k), Row 56 4 (.slice ia items.length ic) items.length (itms items), Many LmP A, Many LmO A, Pool HB, Blk sb (encSt.all A).toArray 45, Blk xb #[.int .i64 xk, .string ⟨xy.toArray⟩, .int .i64 xt, .int .i64 xv] 56] := h1.call0 G1
            refine ⟨_, rfl, fun w' => St S w w' [Row 63 10 (.slice ca cs.length cc) cs.length (encO.all cs), Pool (cs.map Om.own), Blk lb #[.slice (some ⟨rb, 0, none⟩) i lc, .slice ia items.length ic] 153, Blk rb (encL.all B1 ++ R).toArray 155, Blk ob (encOh.all A).toArray 46, Row 63 10 (.slice oa os.length oc) os.length (encO.all os), Many LmO (B1.eraseIdx k), Row 56 4 (.slice ia items.length ic) items.length (itms items), Many LmP A, Many LmO A, Pool HB, Blk sb (encSt.all A).toArray 45, Blk xb #[.int .i64 xk, .string ⟨xy.toArray⟩, .int .i64 xt, .int .i64 xv] 56], hV _ _ _ (fun _ h => h) (Fam.st (fun _ h => h.pick [2, 3, 4])) ?_, HX⟩
            intro K hK
            go_simp
            refine hK _ ?_
            clear hK K hV V
            clear HX h1 G1 hz0 hro w1 w2
            have hcl : cs.length ≤ 256 := by
              have := congrArg List.length hcsh.out
              rw [List.length_map, List.length_map] at this
              rw [this]
              exact hzfh.out.1
            refine script_alone rfl rfl ?_
            intro V hV w1 h1
            obtain ⟨ro1, ro2, ro3, ro4, ro5⟩ := Enc.RO.cells (Enc.own encO (h1.row 0 rfl) rfl)
            cases ro3
            refine h1.came_append 5 rfl (.tmp 98) (.tmp 103) 46 rfl Tryz.underlying46 Tryz.info63 (by decide) rfl (encO.all cs) rfl (encO.all_len cs) (fun e => by rw [ro4 e]; rfl) (fun ad e j u hj => ro5 ad e j u hj) (encO.all_one1 cs) (by omega) ?_
            intro v' w2 HX
            obtain ⟨na, nc, rfl, -, -⟩ := slice_form' (HX.row 5 rfl)
            have HY : St S w w2 [Row 63 10 (.slice ca cs.length cc) cs.length (encO.all cs), Pool (cs.map Om.own), Blk lb #[.slice (some ⟨rb, 0, none⟩) i lc, .slice ia items.length ic] 153, Blk rb (encL.all B1 ++ R).toArray 155, Blk ob (encOh.all A).toArray 46, Row 63 10 (.slice na (os.length + cs.length) nc) (os.length + cs.length) (encO.all os ++ encO.all cs), Many LmO (B1.eraseIdx k), Row 56 4 (.slice ia items.length ic) items.length (itms items), Many LmP A, Many LmO A, Pool HB, Blk sb (encSt.all A).toArray 45, Blk xb #[.int .i64 xk, .string ⟨xy.toArray⟩, .int .i64 xt, .int .i64 xv] 56] := HX
            refine ⟨fun w' => St S w w' [Row 63 10 (.slice ca cs.length cc) cs.length (encO.all cs), Pool (cs.map Om.own), Blk lb #[.slice (some ⟨rb, 0, none⟩) i lc, .slice ia items.length ic] 153, Blk rb (encL.all B1 ++ R).toArray 155, Blk ob (encOh.all A).toArray 46, Row 63 10 (.slice na (os.length + cs.length) nc) (os.length + cs.length) (encO.all os ++ encO.all cs), Many LmO (B1.eraseIdx k), Row 56 4 (.slice ia items.length ic) items.length (itms items), Many LmP A, Many LmO A, Pool HB, Blk sb (encSt.all A).toArray 45, Blk xb #[.int .i64 xk, .string ⟨xy.toArray⟩, .int .i64 xt, .int .i64 xv] 56], hV _ _ _ (fun _ h => h) (Fam.st (fun _ h => h.pick [2, 3, 4])) ?_, HY⟩
            intro K hK
            go_simp
            refine hK _ ?_
            clear hK K hV V
            clear HY HX ro4 ro5 h1 w1 w2
            iterate 2 first
              | (apply script_pass
                 · rfl
                 · rfl
                 intro K hK
                 go_simp
                 refine hK _ ?_
                 clear hK K)
              | (apply script_step
                 · rfl
                 · rfl
                 · intro I hI w1 h1'
                   have h1 := hI.2 _ h1'
                   first
                     | (go_simp
                        first
                          | rfl
                          | exact ⟨rfl, h1'⟩
                       )
                 intro K hK
                 go_simp
                 refine hK _ ?_
                 clear hK K)
            refine script_nil ?_
            intro w8 H8
            simp only [List.drop_succ_cons, List.drop_zero]
            have f8 := H8.free 3 (k * 9 + 8) rfl
            obtain ⟨-, -, -, -, -, -, -, -, r8⟩ := lm_blk (H8.blk 3 rfl) hy1h.out
            try simp only at r8
            have hs8 := encL.set1 (R := R) (j := 8) (x' := (⟨⟨kd, sz, sl, lt, ag, kk⟩, mk2, ms2, p2, c2, os ++ cs, na, nc⟩ : Lm)) (v := .slice na (os.length + cs.length) nc) hy1h.out (by decide) (by rw [← List.length_append]; rfl)
            have H9 : St S w (w8.setCell ⟨rb, k * 9 + 8, none⟩ (.slice na (os.length + cs.length) nc)) [Row 63 10 (.slice ca cs.length cc) cs.length (encO.all cs), Pool (cs.map Om.own), Blk lb #[.slice (some ⟨rb, 0, none⟩) i lc, .slice ia items.length ic] 153, Blk rb (encL.all (B1.set k ⟨⟨kd, sz, sl, lt, ag, kk⟩, mk2, ms2, p2, c2, os ++ cs, na, nc⟩) ++ R).toArray 155, Blk ob (encOh.all A).toArray 46, Row 63 10 (.slice na (os.length + cs.length) nc) (os.length + cs.length) (encO.all os ++ encO.all cs), Many LmO (B1.eraseIdx k), Row 56 4 (.slice ia items.length ic) items.length (itms items), Many LmP A, Many LmO A, Pool HB, Blk sb (encSt.all A).toArray 45, Blk xb #[.int .i64 xk, .string ⟨xy.toArray⟩, .int .i64 xt, .int .i64 xv] 56] := by rw [← hs8]; exact H8.set 3 rfl (k * 9 + 8) (.slice na (os.length + cs.length) nc)
            obtain ⟨w9, hw9⟩ : ∃ z, w8.setCell ⟨rb, k * 9 + 8, none⟩ (.slice na (os.length + cs.length) nc) = z := ⟨_, rfl⟩
            go_upto_region 20 with (fail)
            rw [hw9] at H9
            try rw [hw9]
            clear hw9 f8 r8 hs8 H8
            have e5 : Row 63 10 (.slice na (os.length + cs.length) nc) (os.length + cs.length) (encO.all os ++ encO.all cs) = LmO ⟨⟨kd, sz, sl, lt, ag, kk⟩, mk2, ms2, p2, c2, os ++ cs, na, nc⟩ := by
              unfold LmO Lm.oh
              simp only [List.length_append, Enc.all_app]
            have h20 : St S w w9 (Row 63 10 (.slice na (os.length + cs.length) nc) (os.length + cs.length) (encO.all os ++ encO.all cs) :: Many LmO (B1.eraseIdx k) :: _) := H9.pick [5, 6, 0, 1, 2, 3, 4, 7, 8, 9, 10, 11, 12]
            rw [e5] at h20
            have h21 := Many.back h20 (by rw [hB1lh.out]; exact hkl)
            have h22 : St S w w9 (Pool (cs.map Om.own) :: Pool HB :: _) := h21.pick [2, 9, 3, 4, 6, 0, 7, 8, 10, 5, 11]
            have h23 := St.pool_join h22
            have hfin : St S w w9 [Blk lb #[.slice (some ⟨rb, 0, none⟩) i lc, .slice ia items.length ic] 153, Blk rb (encL.all (B1.set k ⟨⟨kd, sz, sl, lt, ag, kk⟩, mk2, ms2, p2, c2, os ++ cs, na, nc⟩) ++ R).toArray 155, Row 56 4 (.slice ia items.length ic) items.length (itms items), Many LmO (B1.set k ⟨⟨kd, sz, sl, lt, ag, kk⟩, mk2, ms2, p2, c2, os ++ cs, na, nc⟩), Many LmP A, Many LmO A, Pool (cs.map Om.own ++ HB), Blk sb (encSt.all A).toArray 45, Blk ob (encOh.all A).toArray 46, Blk xb #[.int .i64 xk, .string ⟨xy.toArray⟩, .int .i64 xt, .int .i64 xv] 56] := h23.pick [1, 2, 3, 4, 5, 6, 0, 7, 8, 9]
            clear e5 h20 h21 h22 h23 H9 hobh2 hrowlen H12
            go_wp2
            go_roundw
            case rel =>
              have hB1o := hB1h.out
              have hkl1 : k < B1.length := by rw [hB1lh.out]; exact hkl
              have ht0 : B1.take k = B.take k := by rw [← hB1o]; exact take_set0
              obtain ⟨a1, a2, a3, a4, a5, a6⟩ := hall.out
              have hz6 := a6 _ (List.mem_of_getElem? hzh.out)
              have hy6 := a5 _ (List.mem_of_getElem? hyh.out)
              refine ⟨k + 1, B1.set k ⟨⟨kd, sz, sl, lt, ag, kk⟩, mk2, ms2, p2, c2, os ++ cs, na, nc⟩, cs.map Om.own ++ HB, by omega, by go_num, Lib.hid ⟨by rw [List.length_set, hB1lh.out]; exact a1, ?_, ?_, ?_, ?_, fun y hy => own_more (a6 y hy) fun z hz => List.mem_append_right _ hz⟩, hfin⟩
              · rw [take_set1 _ hkl1, List.map_append, take_snoc' hYh.out, List.map_append, ht0, a2]
                refine congrArg (fun z => (l.take k).map (Ln.go x) ++ [z]) ?_
                have e1 := hzlh.out
                unfold Lm.ln Ln.nw at e1
                simp only [Ln.mk.injEq] at e1
                obtain ⟨-, e2, e3⟩ := e1
                unfold Lm.ln Ln.go
                simp only [List.map_append]
                rw [hcsh.out, e2, e3]
              · rw [take_set1 _ hkl1, List.map_append, take_snoc' hzh.out, List.map_append, ht0, a3]
                rfl
              · rw [List.drop_set_of_lt (by omega), ← hB1o, List.drop_set_of_lt (by omega), ← List.drop_drop, a4, List.drop_drop]
              · intro y hy
                rcases List.mem_or_eq_of_mem_set hy with hy | rfl
                · rw [← hB1o] at hy
                  rcases List.mem_or_eq_of_mem_set hy with hy | rfl
                  · exact own_more (a5 y hy) fun z hz => List.mem_append_right _ hz
                  · exact ⟨fun m hm => List.mem_append_right _ (hz6.1 m hm), fun m hm => List.mem_append_right _ (hy6.2 m hm)⟩
                · refine ⟨fun m hm => List.mem_append_right _ (hz6.1 m hm), fun m hm => ?_⟩
                  rcases List.mem_append.1 hm with hm | hm
                  · exact List.mem_append_right _ (hy6.2 m hm)
                  · exact List.mem_append_left _ (List.mem_map_of_mem hm)
            case measure => simp [intOf]; omega
          · obtain rfl : i = k := by omega
            obtain ⟨a1, a2, a3, -, a5, a6⟩ := hall.out
            rw [List.take_of_length_le (by omega)] at a2 a3
            rw [List.take_of_length_le (l := l) (by rw [hnl.out]; exact Nat.le_refl _)] at a2
            rw [List.take_of_length_le (l := A) (by rw [hAlh.out]; exact Nat.le_refl _)] at a3
            have a1h := Lib.hid a1
            have a2h := Lib.hid a2
            have a3h := Lib.hid a3
            have a5h := Lib.hid a5
            have a6h := Lib.hid a6
            have HP : St S w wr [Blk lb #[.slice (some ⟨rb, 0, none⟩) i lc, .slice ia items.length ic] 153, Blk xb #[.int .i64 xk, .string ⟨xy.toArray⟩, .int .i64 xt, .int .i64 xv] 56, Row 56 4 (.slice ia items.length ic) items.length (itms items), Blk rb (encL.all B ++ R).toArray 155, Many LmO B, Many LmP A, Many LmO A, Pool HB, Blk ob (encOh.all A).toArray 46] := HM.pick [0, 9, 2, 1, 3, 4, 5, 6, 8]
            clear hall a1 a2 a3 a5 a6 HM
            go_upto_region 21 with (fail)
            refine wp_script_tail 10 [(0, false), (1, false), (2, false), (3, false), (4, false), (5, false), (6, true), (7, true), (8, false), (9, false)] (Fam fun w' => St S w w' [Blk lb #[.slice (some ⟨rb, 0, none⟩) i lc, .slice ia items.length ic] 153, Blk xb #[.int .i64 xk, .string ⟨xy.toArray⟩, .int .i64 xt, .int .i64 xv] 56]) (fun w' => St S w w' [Blk lb #[.slice (some ⟨rb, 0, none⟩) i lc, .slice ia items.length ic] 153, Blk xb #[.int .i64 xk, .string ⟨xy.toArray⟩, .int .i64 xt, .int .i64 xv] 56, Row 56 4 (.slice ia items.length ic) items.length (itms items), Blk rb (encL.all B ++ R).toArray 155, Many LmO B, Many LmP A, Many LmO A, Pool HB, Blk ob (encOh.all A).toArray 46]) (by kernel_rfl) (by rfl) (by kernel_rfl) (by kernel_rfl) HP.drew (Fam.st (fun _ h => h.pick [0, 1])) ?_
            iterate 6 first
              | (apply script_pass
                 · rfl
                 · rfl
                 intro K hK
                 go_simp
                 refine hK _ ?_
                 clear hK K)
              | (apply script_step
                 · rfl
                 · rfl
                 · intro I hI w1 h1'
                   have h1 := hI.2 _ h1'
                   have c1 := h1.cell 0 1 rfl rfl
                   have x0 := h1.cell 1 0 rfl rfl
                   have x1 := h1.cell 1 1 rfl rfl
                   have x2 := h1.cell 1 2 rfl rfl
                   have x3 := h1.cell 1 3 rfl rfl
                   first
                     | (go_simp
                        first
                          | rfl
                          | exact ⟨rfl, h1'⟩
                       )
                 intro K hK
                 go_simp
                 refine hK _ ?_
                 clear hK K)
            refine script_alone rfl rfl ?_
            intro V hV w1 h1
            go_simp
            obtain ⟨nb, hnb⟩ : ∃ g, w1.heap.size = g := ⟨_, rfl⟩
            have HX : St S w _ [Blk nb #[.int .i64 xk, .string ⟨xy.toArray⟩, .int .i64 xt, .int .i64 xv] 56, Blk lb #[.slice (some ⟨rb, 0, none⟩) i lc, .slice ia items.length ic] 153, Blk xb #[.int .i64 xk, .string ⟨xy.toArray⟩, .int .i64 xt, .int .i64 xv] 56, Row 56 4 (.slice ia items.length ic) items.length (itms items), Blk rb (encL.all B ++ R).toArray 155, Many LmO B, Many LmP A, Many LmO A, Pool HB, Blk ob (encOh.all A).toArray 46] := h1.allocAt hnb #[.int .i64 xk, .string ⟨xy.toArray⟩, .int .i64 xt, .int .i64 xv] 56
            simp only [hnb]
            refine ⟨fun w' => St S w w' [Blk nb #[.int .i64 xk, .string ⟨xy.toArray⟩, .int .i64 xt, .int .i64 xv] 56, Blk lb #[.slice (some ⟨rb, 0, none⟩) i lc, .slice ia items.length ic] 153, Blk xb #[.int .i64 xk, .string ⟨xy.toArray⟩, .int .i64 xt, .int .i64 xv] 56, Row 56 4 (.slice ia items.length ic) items.length (itms items), Blk rb (encL.all B ++ R).toArray 155, Many LmO B, Many LmP A, Many LmO A, Pool HB, Blk ob (encOh.all A).toArray 46], hV _ _ _ (fun _ h => h) (Fam.st (fun _ h => h.pick [1, 2])) ?_, HX⟩
            intro K hK
            go_simp
            refine hK _ ?_
            clear hK K hV V
            clear HX h1 hnb w1
            refine script_alone rfl rfl ?_
            intro V hV w1 h1
            refine h1.came_append 3 rfl (.tmp 112) (.tmp 114) 41 rfl Tryz.underlying41 Tryz.info56 (by decide) rfl [.int .i64 xk, .string ⟨xy.toArray⟩, .int .i64 xt, .int .i64 xv] rfl rfl (by intro h; cases h) (blk_add (h1.blk 0 rfl)) (by simp [Value.oneCell']) (by omega) ?_
            intro v' w2 HX
            obtain ⟨ja, jc, rfl, -, -⟩ := slice_form' (HX.row 3 rfl)
            have HY : St S w w2 [Blk nb #[.int .i64 xk, .string ⟨xy.toArray⟩, .int .i64 xt, .int .i64 xv] 56, Blk lb #[.slice (some ⟨rb, 0, none⟩) i lc, .slice ia items.length ic] 153, Blk xb #[.int .i64 xk, .string ⟨xy.toArray⟩, .int .i64 xt, .int .i64 xv] 56, Row 56 4 (.slice ja (items.length + 1) jc) (items.length + 1) (itms items ++ [.int .i64 xk, .string ⟨xy.toArray⟩, .int .i64 xt, .int .i64 xv]), Blk rb (encL.all B ++ R).toArray 155, Many LmO B, Many LmP A, Many LmO A, Pool HB, Blk ob (encOh.all A).toArray 46] := HX
            refine ⟨fun w' => St S w w' [Blk nb #[.int .i64 xk, .string ⟨xy.toArray⟩, .int .i64 xt, .int .i64 xv] 56, Blk lb #[.slice (some ⟨rb, 0, none⟩) i lc, .slice ia items.length ic] 153, Blk xb #[.int .i64 xk, .string ⟨xy.toArray⟩, .int .i64 xt, .int .i64 xv] 56, Row 56 4 (.slice ja (items.length + 1) jc) (items.length + 1) (itms items ++ [.int .i64 xk, .string ⟨xy.toArray⟩, .int .i64 xt, .int .i64 xv]), Blk rb (encL.all B ++ R).toArray 155, Many LmO B, Many LmP A, Many LmO A, Pool HB, Blk ob (encOh.all A).toArray 46], hV _ _ _ (fun _ h => h) (Fam.st (fun _ h => h.pick [1, 2])) ?_, HY⟩
            intro K hK
            go_simp
            refine hK _ ?_
            clear hK K hV V
            clear HY HX h1 w1 w2
            iterate 2 first
              | (apply script_pass
                 · rfl
                 · rfl
                 intro K hK
                 go_simp
                 refine hK _ ?_
                 clear hK K)
              | (apply script_step
                 · rfl
                 · rfl
                 · intro I hI w1 h1'
                   have h1 := hI.2 _ h1'
                   first
                     | (go_simp
                        first
                          | rfl
                          | exact ⟨rfl, h1'⟩
                       )
                 intro K hK
                 go_simp
                 refine hK _ ?_
                 clear hK K)
            refine script_nil ?_
            intro w8 H8
            simp only [List.drop_succ_cons, List.drop_zero]
            have f1 := H8.free 1 1 rfl
            have z1 := H8.cell 1 1 rfl rfl
            have H9 : St S w _ [Blk nb #[.int .i64 xk, .string ⟨xy.toArray⟩, .int .i64 xt, .int .i64 xv] 56, Blk lb #[.slice (some ⟨rb, 0, none⟩) i lc, .slice ja (items.length + 1) jc] 153, Blk xb #[.int .i64 xk, .string ⟨xy.toArray⟩, .int .i64 xt, .int .i64 xv] 56, Row 56 4 (.slice ja (items.length + 1) jc) (items.length + 1) (itms items ++ [.int .i64 xk, .string ⟨xy.toArray⟩, .int .i64 xt, .int .i64 xv]), Blk rb (encL.all B ++ R).toArray 155, Many LmO B, Many LmP A, Many LmO A, Pool HB, Blk ob (encOh.all A).toArray 46] := H8.set 1 rfl 1 (.slice ja (items.length + 1) jc)
            go_upto_region 22 with (fail)
            obtain ⟨w9, hw9⟩ : ∃ z, w8.setCell ⟨lb, 1, none⟩ (.slice ja (items.length + 1) jc) = z := ⟨_, rfl⟩
            rw [hw9] at H9
            try rw [hw9]
            clear hw9 f1 z1 H8 HP
            have hro : OtssRO w9 (A.map Lm.oh) (l.map fun y => (stepM y.q y.s x).outs) := by
              refine ⟨by rw [List.length_map, List.length_map, hAlh.out, hnl.out], fun j o hj => ?_⟩
              rw [List.getElem?_map] at hj
              obtain ⟨y, hy, rfl⟩ := Option.map_eq_some_iff.1 hj
              obtain ⟨z, hz⟩ : ∃ z, A[j]? = some z := ⟨_, List.getElem?_eq_getElem (by rw [hAlh.out, ← hnl.out]; exact (List.getElem?_eq_some_iff.1 hy).1)⟩
              have e1 : (A.map Lm.ln)[j]? = some z.ln := by rw [List.getElem?_map, hz]; rfl
              rw [hl2h.out, List.getElem?_map, hy] at e1
              have e2 : z.os.map (·.o) = (stepM y.q y.s x).outs := congrArg (fun z : Ln => z.outs) (Option.some.inj e1).symm
              refine ⟨z.oh, by rw [List.getElem?_map, hz]; rfl, ?_⟩
              have hz0 : St S w w9 (LmO z :: _) := Many.out (H9.front 7 rfl) hz
              rw [← e2]
              exact hz0.otsRO 0 9 rfl rfl (a6h.out _ (List.mem_of_getElem? hz)).2
            have hfinal : St S w w9 [LnsAt lb (l.map (Ln.go x)) (items ++ [x]), Blk ob (A.map Lm.oh).toArray 46] := by
              obtain ⟨b1, b2, b3, b4⟩ := hrow.out
              have h1 := H9.blk_row 4 (e := 155) (size := 9) (cap := lc) (n := B.length) (xs := encL.all B) rfl (by rw [a1h.out, ← hnnh.out]; exact b1) b2 (by
                rw [List.length_append] at b4 ⊢
                rw [encL.all_len, a1h.out, ← hnnh.out]
                rw [b3] at b4
                exact b4) (by rw [List.take_append_of_le_length (by rw [encL.all_len]; exact Nat.le_refl _), List.take_of_length_le (by rw [encL.all_len]; exact Nat.le_refl _)])
              have h2 : St S w w9 [Blk lb #[.slice (some ⟨rb, 0, none⟩) B.length lc, .slice ja (items ++ [x]).length jc] 153, Row 155 9 (.slice (some ⟨rb, 0, none⟩) B.length lc) B.length (encL.all B), Row 56 4 (.slice ja (items ++ [x]).length jc) (items ++ [x]).length (itms (items ++ [x])), Many LmP B, Many LmO B, Pool HB, Blk ob (A.map Lm.oh).toArray 46] := by
                have e1 : Many LmP A = Many LmP B := by unfold Many; rw [a3h.out]
                have e2 : itms (items ++ [x]) = itms items ++ [.int .i64 xk, .string ⟨xy.toArray⟩, .int .i64 xt, .int .i64 xv] := by rw [itms_app, itms_one, ← hXh.out]; rfl
                rw [e2, ← e1, ← oh_all, List.length_append, a1h.out]
                rw [a1h.out] at h1
                exact h1.pick [1, 4, 3, 6, 5, 8, 9]
              exact LnsAt.mk a2h.out a5h.out h2
            have hend := hokn.out _ _ _ hro hfinal
            rw [hnl.out] at hend
            clear hro hfinal hokn
            go_wp2
            go_ret3
            exact hend

end Go.Proofs.YtiglgfonhdfpmaaGreat

/- lanes.Add. Conditions: what the lanes hold fits the machine; so many. (Printed by a program of mine.) -/
set_option linter.unusedVariables false
set_option linter.unusedSimpArgs false
namespace Go.Proofs.YtiglgfonhdfpmaaGreat
open Go.RowKit

def LnAdd (S : Nat → Prop) (b : Nat) (l : List Ln) (items : List Itm) (q : Qry) (w : World) (e : Ending) (w' : World) : Prop :=
  if q.right = true ∧ l.length < 16 ∧ (runsM q items ⟨stt0, [], 0, 0⟩).e = 0 then e = .returned (.tuple #[.int .i64 l.length, .int .i64 0]) ∧ St S w w' [LnsAt b (l ++ [⟨q, (runsM q items ⟨stt0, [], 0, 0⟩).s, (runsM q items ⟨stt0, [], 0, 0⟩).outs⟩]) items]
  else e = .returned (.tuple #[.int .i64 0, .int .i64 (if q.right = true then (if l.length < 16 then (runsM q items ⟨stt0, [], 0, 0⟩).e else 30) else 2)]) ∧ St S w w' [LnsAt b l items]

set_option maxHeartbeats 8000000 in
set_option maxRecDepth 100000 in
theorem lns_add {lb : Nat} {l : List Ln} {items : List Itm} {S : Nat → Prop} (q : Qry) (w : World) (hif : ∀ y ∈ items, y.fits) (hil : items.length ≤ 1048576) (hl : l.length ≤ 1048576) (HS : Sep w [LnsAt lb l items] S) :
    Calls Tryz.prog 36 #[.pointer (some ⟨lb, 0, none⟩), qyV q] w (LnAdd S lb l items q w) := by
  have kq := fun w' => query_right q w'
  have kr := Lib.hid (fun w' (iv : Value) (h : ItmsRO w' iv items) => oper_run q stt0 items w' (PnsRO.nil w') (by simp [stt0]) (fun p hp => by simp [stt0] at hp) h hil)
  have hfin : ∃ fin, LnAdd S lb l items q w = fin := ⟨_, rfl⟩
  obtain ⟨fin, hfin⟩ := hfin
  have f1 : q.right = false → ∀ w', St S w w' [LnsAt lb l items] → fin (.returned (.tuple #[.int .i64 0, .int .i64 2])) w' := fun h w' H => by
    rw [← hfin]
    unfold LnAdd
    rw [if_neg (by rw [h]; exact fun h => by simp at h), if_neg (by rw [h]; decide)]
    exact ⟨rfl, H⟩
  have f2 : q.right = true → ¬ l.length < 16 → ∀ w', St S w w' [LnsAt lb l items] → fin (.returned (.tuple #[.int .i64 0, .int .i64 30])) w' := fun h h2 w' H => by
    rw [← hfin]
    unfold LnAdd
    rw [if_neg (fun h => h2 h.2.1), if_pos h, if_neg h2]
    exact ⟨rfl, H⟩
  have f3 : q.right = true → l.length < 16 → ∀ w', (runsM q items ⟨stt0, [], 0, 0⟩).e ≠ 0 → St S w w' [LnsAt lb l items] → fin (.returned (.tuple #[.int .i64 0, .int .i64 (runsM q items ⟨stt0, [], 0, 0⟩).e])) w' := fun h h2 w' h3 H => by
    rw [← hfin]
    unfold LnAdd
    rw [if_neg (fun h => h3 h.2.2), if_pos h, if_pos h2]
    exact ⟨rfl, H⟩
  have f4 : q.right = true → l.length < 16 → ∀ w', (runsM q items ⟨stt0, [], 0, 0⟩).e = 0 → St S w w' [LnsAt lb (l ++ [⟨q, (runsM q items ⟨stt0, [], 0, 0⟩).s, (runsM q items ⟨stt0, [], 0, 0⟩).outs⟩]) items] → fin (.returned (.tuple #[.int .i64 l.length, .int .i64 0])) w' := fun h h2 w' h3 H => by
    rw [← hfin]
    unfold LnAdd
    rw [if_pos ⟨h, h2, h3⟩]
    exact ⟨rfl, H⟩
  rw [hfin]
  clear hfin
  have hifh := Lib.hid hif
  obtain ⟨r0, hr0⟩ : ∃ z, runsM q items ⟨stt0, [], 0, 0⟩ = z := ⟨_, rfl⟩
  simp only [hr0] at kr f3 f4
  clear hr0
  obtain ⟨⟨mk0, ps0⟩, O0, n0, e0⟩ := r0
  simp only [stt0] at kr
  unfold RunOk at kr
  simp only at kr f3 f4
  have knew := fun w' => new_below w'
  obtain ⟨ms, la, lc, ia, ic, HH, g1, g2, H1⟩ := LnsAt.open (St.refl HS)
  have hn : ms.length = l.length := by rw [← g1, List.length_map]
  rw [hn] at H1
  have hown := Lib.hid g2
  have hms := Lib.hid g1
  have hnh := Lib.hid hn
  obtain ⟨kd, sz, sl, lt, ag, kk⟩ := q
  unfold qyV qyC at kq kr
  unfold qyV qyC
  simp only at kq kr ⊢
  obtain ⟨qr, hqr⟩ : ∃ z, Qry.right ⟨kd, sz, sl, lt, ag, kk⟩ = z := ⟨_, rfl⟩
  rw [hqr] at f1 f2 f3 f4
  simp only [hqr] at kq
  have f1h := Lib.hid f1
  have f2h := Lib.hid f2
  have f3h := Lib.hid f3
  have f4h := Lib.hid f4
  clear hif HS g1 g2 hn hqr f1 f2 f3 f4
  have H2 : St S w _ (_ :: _) := H1.allocAt rfl #[.int .i64 kd, .int .i64 sz, .int .i64 sl, .int .i64 lt, .int .i64 ag, .int .i64 kk] 23
  go_enter Tryz.func36, Tryz.ntmps36
  go_upto_region 3 with (fail)
  obtain ⟨qb, hqb⟩ : ∃ z, w.heap.size = z := ⟨_, rfl⟩
  obtain ⟨wa, hwa⟩ : ∃ z, w.alloc (.cells #[.int .i64 kd, .int .i64 sz, .int .i64 sl, .int .i64 lt, .int .i64 ag, .int .i64 kk] 23) = z := ⟨_, rfl⟩
  rw [hwa, hqb] at H2
  try rw [hwa]
  try simp only [hqb]
  have H3 : St S w wa [Blk qb #[.int .i64 kd, .int .i64 sz, .int .i64 sl, .int .i64 lt, .int .i64 ag, .int .i64 kk] 23, Blk lb #[.slice la l.length lc, .slice ia items.length ic] 153, Row 155 9 (.slice la l.length lc) l.length (encL.all ms), Row 56 4 (.slice ia items.length ic) items.length (itms items), Many LmP ms, Many LmO ms, Pool HH] := H2
  have hqbh := Lib.hid hqb
  clear hwa hqb H1 H2
  have hback : Hid (∀ w', St S w w' [Blk lb #[.slice la l.length lc, .slice ia items.length ic] 153, Row 155 9 (.slice la l.length lc) l.length (encL.all ms), Row 56 4 (.slice ia items.length ic) items.length (itms items), Many LmP ms, Many LmO ms, Pool HH] → St S w w' [LnsAt lb l items]) := Lib.hid fun w' H => by
    refine LnsAt.mk hms.out hown.out (la := la) (lc := lc) (ia := ia) (ic := ic) ?_
    rw [hnh.out]
    exact H
  have c0 := H3.cell 0 0 rfl rfl
  have c1 := H3.cell 0 1 rfl rfl
  have c2 := H3.cell 0 2 rfl rfl
  have c3 := H3.cell 0 3 rfl rfl
  have c4 := H3.cell 0 4 rfl rfl
  have c5 := H3.cell 0 5 rfl rfl
  cases qr
  case false =>
    go_wp2_with (go_at_call 60; go_must (refine (St.callPast (kq _) H3).mono ?_; rintro e w1 ⟨rfl, H4⟩))
    exact f1h.out (by first | rfl | trivial) _ (hback.out _ (H4.pick [1, 2, 3, 4, 5, 6]))
  case true =>
    by_cases hlt : l.length < 16
    case neg =>
      have z : decide ((16 : Int) ≤ (l.length : Int)) = true := by simpa using (by omega : (16 : Int) ≤ (l.length : Int))
      go_wp2_with (go_at_call 60; go_must (refine (St.callPast (kq _) H3).mono ?_; rintro e w1 ⟨rfl, H4⟩; have l0 := H4.cell 1 0 rfl rfl))
      exact f2h.out (by first | rfl | trivial) hlt _ (hback.out _ (H4.pick [1, 2, 3, 4, 5, 6]))
    case pos =>
    have z : decide ((16 : Int) ≤ (l.length : Int)) = false := by simpa using (by omega : ¬ (16 : Int) ≤ (l.length : Int))
    go_upto_region 7 with (go_at_call 60; go_must (refine (St.callPast (kq _) H3).mono ?_; rintro e w1 ⟨rfl, H2⟩; have l0 := H2.cell 1 0 rfl rfl))
    clear H3 c0 c1 c2 c3 c4 c5 z l0 kq
    go_cut [6, 7, 8, 9, 24] from 25 to 35 (fun p8 p9 p10 p11 _ wx => ∃ (sb0 : Nat) (pa0 : Option Addr) (pc0 : Nat) (oa0 : Option Addr) (oc0 : Nat) (ms0 : List Pm) (os0 : List Om) (H0 : List (Value × List Int)), p8 = .pointer (some ⟨sb0, 0, none⟩) ∧ p9 = .slice oa0 os0.length oc0 ∧ p10 = .int .i64 n0 ∧ p11 = .int .i64 e0 ∧ Hid (ms0.map (·.p) = ps0 ∧ os0.map (·.o) = O0 ∧ (∀ m ∈ ms0, Pm.own m ∈ H0) ∧ ∀ y ∈ os0, Om.own y ∈ H0) ∧ St S w wx [Blk sb0 #[.int .i64 mk0, .slice pa0 ms0.length pc0] 45, Row 68 8 (.slice pa0 ms0.length pc0) ms0.length (encP.all ms0), Row 63 10 (.slice oa0 os0.length oc0) os0.length (encO.all os0), Pool H0, Blk qb #[.int .i64 kd, .int .i64 sz, .int .i64 sl, .int .i64 lt, .int .i64 ag, .int .i64 kk] 23, Blk lb #[.slice la l.length lc, .slice ia items.length ic] 153, Row 155 9 (.slice la l.length lc) l.length (encL.all ms), Row 56 4 (.slice ia items.length ic) items.length (itms items), Many LmP ms, Many LmO ms, Pool HH])
    case first =>
      refine wp_plan (.small 0 (.small 1 (.small 2 (.small 3 (.small 4 (.small 5 (.fork 6 12 (.small 7 (.small 8 (.small 9 (.small 10 (.small 11 (.alone 12 (.alone 13 (.small 14 (.small 15 (.small 16 .nil)))))))))) (.alone 6 (.small 7 (.small 8 (.small 9 (.small 10 (.small 11 (.alone 13 (.small 14 (.small 15 (.small 16 .nil))))))))))))))))) (Fam fun w' => St S w w' [Blk qb #[.int .i64 kd, .int .i64 sz, .int .i64 sl, .int .i64 lt, .int .i64 ag, .int .i64 kk] 23, Blk lb #[.slice la l.length lc, .slice ia items.length ic] 153, Row 155 9 (.slice la l.length lc) l.length (encL.all ms), Row 56 4 (.slice ia items.length ic) items.length (itms items), Many LmP ms, Many LmO ms, Pool HH]) (fun w' => St S w w' [Blk qb #[.int .i64 kd, .int .i64 sz, .int .i64 sl, .int .i64 lt, .int .i64 ag, .int .i64 kk] 23, Blk lb #[.slice la l.length lc, .slice ia items.length ic] 153, Row 155 9 (.slice la l.length lc) l.length (encL.all ms), Row 56 4 (.slice ia items.length ic) items.length (itms items), Many LmP ms, Many LmO ms, Pool HH]) (by kernel_rfl) (by rfl) (by kernel_rfl) (by kernel_rfl) H2.drew (Fam.st (fun _ h => h.pick [0, 1, 2, 3, 4, 5, 6])) ?_
      iterate 6 first
        | (apply plan_pass
           · rfl
           · rfl
           intro K hK
           go_simp
           refine hK _ ?_
           clear hK K)
        | (apply plan_step
           · rfl
           · rfl
           · intro I hI w1 h1'
             have h1 := hI.2 _ h1'
             have c0 := h1.cell 0 0 rfl rfl
             have c1 := h1.cell 0 1 rfl rfl
             have c2 := h1.cell 0 2 rfl rfl
             have c3 := h1.cell 0 3 rfl rfl
             have c4 := h1.cell 0 4 rfl rfl
             have c5 := h1.cell 0 5 rfl rfl
             have l1 := h1.cell 1 1 rfl rfl
             first
               | (go_simp
                  first
                    | rfl
                    | exact ⟨rfl, h1'⟩
                    | (go_at_call 22; with_reducible exact Fam.call hI h1' (knew w1))
                 )
           intro K hK
           go_simp
           refine hK _ ?_
           clear hK K)
      refine plan_two rfl rfl rfl rfl ?_ ?_
      · skip
        intro V hV w1 h1
        go_simp
        refine (kr.out w1 _ (itms_own (h1.row 3 rfl) hifh.out)).mono ?_
        rintro e w2 ⟨hs, ho, ms0, os0, H0, rfl, hm, ho2, hmo, hoo, G1⟩
        have hall0 : Hid (ms0.map (·.p) = ps0 ∧ os0.map (·.o) = O0 ∧ (∀ m ∈ ms0, Pm.own m ∈ H0) ∧ ∀ y ∈ os0, Om.own y ∈ H0) := Lib.hid ⟨hm, ho2, hmo, hoo⟩
        clear hm ho2 hmo hoo
        obtain ⟨pa0, pc0, rfl, -, -⟩ := slice_form' (G1.row 0 rfl)
        obtain ⟨oa0, oc0, rfl, -, -⟩ := slice_form' (G1.row 1 rfl)
        have HX : St S w w2 [Row 68 8 (.slice pa0 ms0.length pc0) ms0.length (encP.all ms0), Row 63 10 (.slice oa0 os0.length oc0) os0.length (encO.all os0), Pool H0, Blk qb #[.int .i64 kd, .int .i64 sz, .int .i64 sl, .int .i64 lt, .int .i64 ag, .int .i64 kk] 23, Blk lb #[.slice la l.length lc, .slice ia items.length ic] 153, Row 155 9 (.slice la l.length lc) l.length (encL.all ms), Row 56 4 (.slice ia items.length ic) items.length (itms items), Many LmP ms, Many LmO ms, Pool HH] := h1.call0 G1
        refine ⟨_, rfl, fun w' => St S w w' [Row 68 8 (.slice pa0 ms0.length pc0) ms0.length (encP.all ms0), Row 63 10 (.slice oa0 os0.length oc0) os0.length (encO.all os0), Pool H0, Blk qb #[.int .i64 kd, .int .i64 sz, .int .i64 sl, .int .i64 lt, .int .i64 ag, .int .i64 kk] 23, Blk lb #[.slice la l.length lc, .slice ia items.length ic] 153, Row 155 9 (.slice la l.length lc) l.length (encL.all ms), Row 56 4 (.slice ia items.length ic) items.length (itms items), Many LmP ms, Many LmO ms, Pool HH], hV _ _ _ (fun _ h => h) (Fam.st (fun _ h => h.pick [3, 4, 5, 6, 7, 8, 9])) ?_, HX⟩
        intro K hK
        go_simp
        refine hK _ ?_
        clear hK K hV V
        clear HX h1 G1 w1 w2
        iterate 5 first
          | (apply plan_pass
             · rfl
             · rfl
             intro K hK
             go_simp
             refine hK _ ?_
             clear hK K)
          | (apply plan_step
             · rfl
             · rfl
             · intro I hI w1 h1'
               have h1 := hI.2 _ h1'
               first
                 | (go_simp
                    first
                      | rfl
                      | exact ⟨rfl, h1'⟩
                   )
             intro K hK
             go_simp
             refine hK _ ?_
             clear hK K)
        refine plan_one rfl rfl ?_
        intro V hV w1 h1
        go_simp
        obtain ⟨sb0, hsb0⟩ : ∃ g, w1.heap.size = g := ⟨_, rfl⟩
        have HX : St S w _ [Blk sb0 #[.int .i64 0, .slice none 0 0] 45, Row 68 8 (.slice pa0 ms0.length pc0) ms0.length (encP.all ms0), Row 63 10 (.slice oa0 os0.length oc0) os0.length (encO.all os0), Pool H0, Blk qb #[.int .i64 kd, .int .i64 sz, .int .i64 sl, .int .i64 lt, .int .i64 ag, .int .i64 kk] 23, Blk lb #[.slice la l.length lc, .slice ia items.length ic] 153, Row 155 9 (.slice la l.length lc) l.length (encL.all ms), Row 56 4 (.slice ia items.length ic) items.length (itms items), Many LmP ms, Many LmO ms, Pool HH] := h1.allocAt hsb0 #[.int .i64 0, .slice none 0 0] 45
        simp only [hsb0]
        refine ⟨fun w' => St S w w' [Blk sb0 #[.int .i64 0, .slice none 0 0] 45, Row 68 8 (.slice pa0 ms0.length pc0) ms0.length (encP.all ms0), Row 63 10 (.slice oa0 os0.length oc0) os0.length (encO.all os0), Pool H0, Blk qb #[.int .i64 kd, .int .i64 sz, .int .i64 sl, .int .i64 lt, .int .i64 ag, .int .i64 kk] 23, Blk lb #[.slice la l.length lc, .slice ia items.length ic] 153, Row 155 9 (.slice la l.length lc) l.length (encL.all ms), Row 56 4 (.slice ia items.length ic) items.length (itms items), Many LmP ms, Many LmO ms, Pool HH], hV _ _ _ (fun _ h => h) (Fam.st (fun _ h => h.pick [4, 5, 6, 7, 8, 9, 10])) ?_, HX⟩
        intro K hK
        go_simp
        refine hK _ ?_
        clear hK K hV V
        clear HX h1 hsb0 w1
        refine plan_one rfl rfl ?_
        intro V hV w1 h1
        refine h1.came_store 0 rfl 45 (.tmp 6) (.tmp 32) rfl #[.int .i64 mk0, .slice pa0 ms0.length pc0] rfl rfl (by kernel_rfl) (Nat.zero_lt_succ _) rfl (by simp [allOne, Value.oneCell']) ?_
        intro w2 HX
        refine ⟨fun w' => St S w w' [Blk sb0 #[.int .i64 mk0, .slice pa0 ms0.length pc0] 45, Row 68 8 (.slice pa0 ms0.length pc0) ms0.length (encP.all ms0), Row 63 10 (.slice oa0 os0.length oc0) os0.length (encO.all os0), Pool H0, Blk qb #[.int .i64 kd, .int .i64 sz, .int .i64 sl, .int .i64 lt, .int .i64 ag, .int .i64 kk] 23, Blk lb #[.slice la l.length lc, .slice ia items.length ic] 153, Row 155 9 (.slice la l.length lc) l.length (encL.all ms), Row 56 4 (.slice ia items.length ic) items.length (itms items), Many LmP ms, Many LmO ms, Pool HH], hV _ _ _ (fun _ h => h) (Fam.st (fun _ h => h.pick [4, 5, 6, 7, 8, 9, 10])) ?_, HX⟩
        intro K hK
        go_simp
        refine hK _ ?_
        clear hK K hV V
        clear HX h1 w1 w2
        iterate 3 first
          | (apply plan_pass
             · rfl
             · rfl
             intro K hK
             go_simp
             refine hK _ ?_
             clear hK K)
          | (apply plan_step
             · rfl
             · rfl
             · intro I hI w1 h1'
               have h1 := hI.2 _ h1'
               first
                 | (go_simp
                    first
                      | rfl
                      | exact ⟨rfl, h1'⟩
                   )
             intro K hK
             go_simp
             refine hK _ ?_
             clear hK K)
        refine plan_nil ?_
        intro w9 H9
        go_wp2
        go_meet
        exact ⟨sb0, pa0, pc0, oa0, oc0, ms0, os0, H0, rfl, rfl, rfl, rfl, by assumption, H9.pick [0, 1, 2, 3, 4, 5, 6, 7, 8, 9, 10]⟩
      · skip
        intro V hV w1 h1
        go_simp
        obtain ⟨sb0, hsb0⟩ : ∃ g, w1.heap.size = g := ⟨_, rfl⟩
        have HX : St S w _ [Blk sb0 #[.int .i64 0, .slice none 0 0] 45, Blk qb #[.int .i64 kd, .int .i64 sz, .int .i64 sl, .int .i64 lt, .int .i64 ag, .int .i64 kk] 23, Blk lb #[.slice la l.length lc, .slice ia items.length ic] 153, Row 155 9 (.slice la l.length lc) l.length (encL.all ms), Row 56 4 (.slice ia items.length ic) items.length (itms items), Many LmP ms, Many LmO ms, Pool HH] := h1.allocAt hsb0 #[.int .i64 0, .slice none 0 0] 45
        simp only [hsb0]
        refine ⟨fun w' => St S w w' [Blk sb0 #[.int .i64 0, .slice none 0 0] 45, Blk qb #[.int .i64 kd, .int .i64 sz, .int .i64 sl, .int .i64 lt, .int .i64 ag, .int .i64 kk] 23, Blk lb #[.slice la l.length lc, .slice ia items.length ic] 153, Row 155 9 (.slice la l.length lc) l.length (encL.all ms), Row 56 4 (.slice ia items.length ic) items.length (itms items), Many LmP ms, Many LmO ms, Pool HH], hV _ _ _ (fun _ h => h) (Fam.st (fun _ h => h.pick [1, 2, 3, 4, 5, 6, 7])) ?_, HX⟩
        intro K hK
        go_simp
        refine hK _ ?_
        clear hK K hV V
        clear HX h1 hsb0 w1
        refine plan_one rfl rfl ?_
        intro V hV w1 h1
        go_simp
        refine (kr.out w1 _ (itms_own (h1.row 4 rfl) hifh.out)).mono ?_
        rintro e w2 ⟨hs, ho, ms0, os0, H0, rfl, hm, ho2, hmo, hoo, G1⟩
        have hall0 : Hid (ms0.map (·.p) = ps0 ∧ os0.map (·.o) = O0 ∧ (∀ m ∈ ms0, Pm.own m ∈ H0) ∧ ∀ y ∈ os0, Om.own y ∈ H0) := Lib.hid ⟨hm, ho2, hmo, hoo⟩
        clear hm ho2 hmo hoo
        obtain ⟨pa0, pc0, rfl, -, -⟩ := slice_form' (G1.row 0 rfl)
        obtain ⟨oa0, oc0, rfl, -, -⟩ := slice_form' (G1.row 1 rfl)
        have HX : St S w w2 [Row 68 8 (.slice pa0 ms0.length pc0) ms0.length (encP.all ms0), Row 63 10 (.slice oa0 os0.length oc0) os0.length (encO.all os0), Pool H0, Blk sb0 #[.int .i64 0, .slice none 0 0] 45, Blk qb #[.int .i64 kd, .int .i64 sz, .int .i64 sl, .int .i64 lt, .int .i64 ag, .int .i64 kk] 23, Blk lb #[.slice la l.length lc, .slice ia items.length ic] 153, Row 155 9 (.slice la l.length lc) l.length (encL.all ms), Row 56 4 (.slice ia items.length ic) items.length (itms items), Many LmP ms, Many LmO ms, Pool HH] := h1.call0 G1
        refine ⟨_, rfl, fun w' => St S w w' [Row 68 8 (.slice pa0 ms0.length pc0) ms0.length (encP.all ms0), Row 63 10 (.slice oa0 os0.length oc0) os0.length (encO.all os0), Pool H0, Blk sb0 #[.int .i64 0, .slice none 0 0] 45, Blk qb #[.int .i64 kd, .int .i64 sz, .int .i64 sl, .int .i64 lt, .int .i64 ag, .int .i64 kk] 23, Blk lb #[.slice la l.length lc, .slice ia items.length ic] 153, Row 155 9 (.slice la l.length lc) l.length (encL.all ms), Row 56 4 (.slice ia items.length ic) items.length (itms items), Many LmP ms, Many LmO ms, Pool HH], hV _ _ _ (fun _ h => h) (Fam.st (fun _ h => h.pick [4, 5, 6, 7, 8, 9, 10])) ?_, HX⟩
        intro K hK
        go_simp
        refine hK _ ?_
        clear hK K hV V
        clear HX h1 G1 w1 w2
        iterate 5 first
          | (apply plan_pass
             · rfl
             · rfl
             intro K hK
             go_simp
             refine hK _ ?_
             clear hK K)
          | (apply plan_step
             · rfl
             · rfl
             · intro I hI w1 h1'
               have h1 := hI.2 _ h1'
               first
                 | (go_simp
                    first
                      | rfl
                      | exact ⟨rfl, h1'⟩
                   )
             intro K hK
             go_simp
             refine hK _ ?_
             clear hK K)
        refine plan_one rfl rfl ?_
        intro V hV w1 h1
        refine h1.came_store 3 rfl 45 (.tmp 6) (.tmp 32) rfl #[.int .i64 mk0, .slice pa0 ms0.length pc0] rfl rfl (by kernel_rfl) (Nat.zero_lt_succ _) rfl (by simp [allOne, Value.oneCell']) ?_
        intro w2 HX
        refine ⟨fun w' => St S w w' [Row 68 8 (.slice pa0 ms0.length pc0) ms0.length (encP.all ms0), Row 63 10 (.slice oa0 os0.length oc0) os0.length (encO.all os0), Pool H0, Blk sb0 #[.int .i64 mk0, .slice pa0 ms0.length pc0] 45, Blk qb #[.int .i64 kd, .int .i64 sz, .int .i64 sl, .int .i64 lt, .int .i64 ag, .int .i64 kk] 23, Blk lb #[.slice la l.length lc, .slice ia items.length ic] 153, Row 155 9 (.slice la l.length lc) l.length (encL.all ms), Row 56 4 (.slice ia items.length ic) items.length (itms items), Many LmP ms, Many LmO ms, Pool HH], hV _ _ _ (fun _ h => h) (Fam.st (fun _ h => h.pick [4, 5, 6, 7, 8, 9, 10])) ?_, HX⟩
        intro K hK
        go_simp
        refine hK _ ?_
        clear hK K hV V
        clear HX h1 w1 w2
        iterate 3 first
          | (apply plan_pass
             · rfl
             · rfl
             intro K hK
             go_simp
             refine hK _ ?_
             clear hK K)
          | (apply plan_step
             · rfl
             · rfl
             · intro I hI w1 h1'
               have h1 := hI.2 _ h1'
               first
                 | (go_simp
                    first
                      | rfl
                      | exact ⟨rfl, h1'⟩
                   )
             intro K hK
             go_simp
             refine hK _ ?_
             clear hK K)
        refine plan_nil ?_
        intro w9 H9
        go_wp2
        go_meet
        exact ⟨sb0, pa0, pc0, oa0, oc0, ms0, os0, H0, rfl, rfl, rfl, rfl, by assumption, H9.pick [3, 0, 1, 2, 4, 5, 6, 7, 8, 9, 10]⟩
    case rest =>
      clear H2 kr
      obtain ⟨sb0, pa0, pc0, oa0, oc0, ms0, os0, H0, rfl, rfl, rfl, rfl, hall, HC⟩ := hcut
      have HC2 : St S w wc [Blk sb0 #[.int .i64 mk0, .slice pa0 ms0.length pc0] 45, Row 68 8 (.slice pa0 ms0.length pc0) ms0.length (encP.all ms0), Row 63 10 (.slice oa0 os0.length oc0) os0.length (encO.all os0), Pool H0, Blk qb #[.int .i64 kd, .int .i64 sz, .int .i64 sl, .int .i64 lt, .int .i64 ag, .int .i64 kk] 23, Blk lb #[.slice la l.length lc, .slice ia items.length ic] 153, Row 155 9 (.slice la l.length lc) l.length (encL.all ms), Row 56 4 (.slice ia items.length ic) items.length (itms items), Many LmP ms, Many LmO ms, Pool HH] := HC
      clear HC
      by_cases he : e0 = 0
      · subst he
        go_upto_region 10 with (fail)
        refine wp_script_tail 13 [(0, false), (1, false), (2, false), (3, false), (4, false), (5, false), (6, false), (7, false), (8, false), (9, true), (10, true), (11, false), (12, false)] (Fam fun w' => St S w w' [Blk sb0 #[.int .i64 mk0, .slice pa0 ms0.length pc0] 45, Blk qb #[.int .i64 kd, .int .i64 sz, .int .i64 sl, .int .i64 lt, .int .i64 ag, .int .i64 kk] 23, Blk lb #[.slice la l.length lc, .slice ia items.length ic] 153]) (fun w' => St S w w' [Blk sb0 #[.int .i64 mk0, .slice pa0 ms0.length pc0] 45, Row 68 8 (.slice pa0 ms0.length pc0) ms0.length (encP.all ms0), Row 63 10 (.slice oa0 os0.length oc0) os0.length (encO.all os0), Pool H0, Blk qb #[.int .i64 kd, .int .i64 sz, .int .i64 sl, .int .i64 lt, .int .i64 ag, .int .i64 kk] 23, Blk lb #[.slice la l.length lc, .slice ia items.length ic] 153, Row 155 9 (.slice la l.length lc) l.length (encL.all ms), Row 56 4 (.slice ia items.length ic) items.length (itms items), Many LmP ms, Many LmO ms, Pool HH]) (by kernel_rfl) (by rfl) (by kernel_rfl) (by kernel_rfl) HC2.drew (Fam.st (fun _ h => h.pick [0, 4, 5])) ?_
        iterate 9 first
          | (apply script_pass
             · rfl
             · rfl
             intro K hK
             go_simp
             refine hK _ ?_
             clear hK K)
          | (apply script_step
             · rfl
             · rfl
             · intro I hI w1 h1'
               have h1 := hI.2 _ h1'
               have c0 := h1.cell 1 0 rfl rfl
               have c1 := h1.cell 1 1 rfl rfl
               have c2 := h1.cell 1 2 rfl rfl
               have c3 := h1.cell 1 3 rfl rfl
               have c4 := h1.cell 1 4 rfl rfl
               have c5 := h1.cell 1 5 rfl rfl
               have s0 := h1.cell 0 0 rfl rfl
               have s1 := h1.cell 0 1 rfl rfl
               have l0 := h1.cell 2 0 rfl rfl
               first
                 | (go_simp
                    first
                      | rfl
                      | exact ⟨rfl, h1'⟩
                   )
             intro K hK
             go_simp
             refine hK _ ?_
             clear hK K)
        refine script_alone rfl rfl ?_
        intro V hV w1 h1
        go_simp
        obtain ⟨nb, hnb⟩ : ∃ g, w1.heap.size = g := ⟨_, rfl⟩
        have HX : St S w _ [Blk nb #[.int .i64 kd, .int .i64 sz, .int .i64 sl, .int .i64 lt, .int .i64 ag, .int .i64 kk, .int .i64 mk0, .slice pa0 ms0.length pc0, .slice oa0 os0.length oc0] 155, Blk sb0 #[.int .i64 mk0, .slice pa0 ms0.length pc0] 45, Row 68 8 (.slice pa0 ms0.length pc0) ms0.length (encP.all ms0), Row 63 10 (.slice oa0 os0.length oc0) os0.length (encO.all os0), Pool H0, Blk qb #[.int .i64 kd, .int .i64 sz, .int .i64 sl, .int .i64 lt, .int .i64 ag, .int .i64 kk] 23, Blk lb #[.slice la l.length lc, .slice ia items.length ic] 153, Row 155 9 (.slice la l.length lc) l.length (encL.all ms), Row 56 4 (.slice ia items.length ic) items.length (itms items), Many LmP ms, Many LmO ms, Pool HH] := h1.allocAt hnb #[.int .i64 kd, .int .i64 sz, .int .i64 sl, .int .i64 lt, .int .i64 ag, .int .i64 kk, .int .i64 mk0, .slice pa0 ms0.length pc0, .slice oa0 os0.length oc0] 155
        simp only [hnb]
        refine ⟨fun w' => St S w w' [Blk nb #[.int .i64 kd, .int .i64 sz, .int .i64 sl, .int .i64 lt, .int .i64 ag, .int .i64 kk, .int .i64 mk0, .slice pa0 ms0.length pc0, .slice oa0 os0.length oc0] 155, Blk sb0 #[.int .i64 mk0, .slice pa0 ms0.length pc0] 45, Row 68 8 (.slice pa0 ms0.length pc0) ms0.length (encP.all ms0), Row 63 10 (.slice oa0 os0.length oc0) os0.length (encO.all os0), Pool H0, Blk qb #[.int .i64 kd, .int .i64 sz, .int .i64 sl, .int .i64 lt, .int .i64 ag, .int .i64 kk] 23, Blk lb #[.slice la l.length lc, .slice ia items.length ic] 153, Row 155 9 (.slice la l.length lc) l.length (encL.all ms), Row 56 4 (.slice ia items.length ic) items.length (itms items), Many LmP ms, Many LmO ms, Pool HH], hV _ _ _ (fun _ h => h) (Fam.st (fun _ h => h.pick [1, 5, 6])) ?_, HX⟩
        intro K hK
        go_simp
        refine hK _ ?_
        clear hK K hV V
        clear HX h1 hnb w1
        refine script_alone rfl rfl ?_
        intro V hV w1 h1
        refine h1.came_append 7 rfl (.tmp 43) (.tmp 48) 151 rfl Tryz.underlying151 Tryz.info155 (by decide) rfl [.int .i64 kd, .int .i64 sz, .int .i64 sl, .int .i64 lt, .int .i64 ag, .int .i64 kk, .int .i64 mk0, .slice pa0 ms0.length pc0, .slice oa0 os0.length oc0] rfl rfl (by intro h; cases h) (blk_add (h1.blk 0 rfl)) (by simp [Value.oneCell']) (by omega) ?_
        intro v' w2 HX
        obtain ⟨la2, lc2, rfl, -, -⟩ := slice_form' (HX.row 7 rfl)
        have HY : St S w w2 [Blk nb #[.int .i64 kd, .int .i64 sz, .int .i64 sl, .int .i64 lt, .int .i64 ag, .int .i64 kk, .int .i64 mk0, .slice pa0 ms0.length pc0, .slice oa0 os0.length oc0] 155, Blk sb0 #[.int .i64 mk0, .slice pa0 ms0.length pc0] 45, Row 68 8 (.slice pa0 ms0.length pc0) ms0.length (encP.all ms0), Row 63 10 (.slice oa0 os0.length oc0) os0.length (encO.all os0), Pool H0, Blk qb #[.int .i64 kd, .int .i64 sz, .int .i64 sl, .int .i64 lt, .int .i64 ag, .int .i64 kk] 23, Blk lb #[.slice la l.length lc, .slice ia items.length ic] 153, Row 155 9 (.slice la2 (l.length + 1) lc2) (l.length + 1) (encL.all ms ++ [.int .i64 kd, .int .i64 sz, .int .i64 sl, .int .i64 lt, .int .i64 ag, .int .i64 kk, .int .i64 mk0, .slice pa0 ms0.length pc0, .slice oa0 os0.length oc0]), Row 56 4 (.slice ia items.length ic) items.length (itms items), Many LmP ms, Many LmO ms, Pool HH] := HX
        refine ⟨fun w' => St S w w' [Blk nb #[.int .i64 kd, .int .i64 sz, .int .i64 sl, .int .i64 lt, .int .i64 ag, .int .i64 kk, .int .i64 mk0, .slice pa0 ms0.length pc0, .slice oa0 os0.length oc0] 155, Blk sb0 #[.int .i64 mk0, .slice pa0 ms0.length pc0] 45, Row 68 8 (.slice pa0 ms0.length pc0) ms0.length (encP.all ms0), Row 63 10 (.slice oa0 os0.length oc0) os0.length (encO.all os0), Pool H0, Blk qb #[.int .i64 kd, .int .i64 sz, .int .i64 sl, .int .i64 lt, .int .i64 ag, .int .i64 kk] 23, Blk lb #[.slice la l.length lc, .slice ia items.length ic] 153, Row 155 9 (.slice la2 (l.length + 1) lc2) (l.length + 1) (encL.all ms ++ [.int .i64 kd, .int .i64 sz, .int .i64 sl, .int .i64 lt, .int .i64 ag, .int .i64 kk, .int .i64 mk0, .slice pa0 ms0.length pc0, .slice oa0 os0.length oc0]), Row 56 4 (.slice ia items.length ic) items.length (itms items), Many LmP ms, Many LmO ms, Pool HH], hV _ _ _ (fun _ h => h) (Fam.st (fun _ h => h.pick [1, 5, 6])) ?_, HY⟩
        intro K hK
        go_simp
        refine hK _ ?_
        clear hK K hV V
        clear HY HX h1 w1 w2
        iterate 2 first
          | (apply script_pass
             · rfl
             · rfl
             intro K hK
             go_simp
             refine hK _ ?_
             clear hK K)
          | (apply script_step
             · rfl
             · rfl
             · intro I hI w1 h1'
               have h1 := hI.2 _ h1'
               first
                 | (go_simp
                    first
                      | rfl
                      | exact ⟨rfl, h1'⟩
                   )
             intro K hK
             go_simp
             refine hK _ ?_
             clear hK K)
        refine script_nil ?_
        intro w8 H8
        simp only [List.drop_succ_cons, List.drop_zero]
        have r0 := H8.free 6 0 rfl
        have z0 := H8.cell 6 0 rfl rfl
        have H9 : St S w _ [Blk nb #[.int .i64 kd, .int .i64 sz, .int .i64 sl, .int .i64 lt, .int .i64 ag, .int .i64 kk, .int .i64 mk0, .slice pa0 ms0.length pc0, .slice oa0 os0.length oc0] 155, Blk sb0 #[.int .i64 mk0, .slice pa0 ms0.length pc0] 45, Row 68 8 (.slice pa0 ms0.length pc0) ms0.length (encP.all ms0), Row 63 10 (.slice oa0 os0.length oc0) os0.length (encO.all os0), Pool H0, Blk qb #[.int .i64 kd, .int .i64 sz, .int .i64 sl, .int .i64 lt, .int .i64 ag, .int .i64 kk] 23, Blk lb #[.slice la2 (l.length + 1) lc2, .slice ia items.length ic] 153, Row 155 9 (.slice la2 (l.length + 1) lc2) (l.length + 1) (encL.all ms ++ [.int .i64 kd, .int .i64 sz, .int .i64 sl, .int .i64 lt, .int .i64 ag, .int .i64 kk, .int .i64 mk0, .slice pa0 ms0.length pc0, .slice oa0 os0.length oc0]), Row 56 4 (.slice ia items.length ic) items.length (itms items), Many LmP ms, Many LmO ms, Pool HH] := H8.set 6 rfl 0 (.slice la2 (l.length + 1) lc2)
        go_upto_region 11 with (fail)
        obtain ⟨w9, hw9⟩ : ∃ z, w8.setCell ⟨lb, 0, none⟩ (.slice la2 (l.length + 1) lc2) = z := ⟨_, rfl⟩
        rw [hw9] at H9
        try rw [hw9]
        clear hw9 r0 z0 H8
        have d0 := H9.cell 6 0 rfl rfl
        have zA : IntKind.i64.wrap ((l.length : Int) + 1 - 1) = (l.length : Int) := by rw [IntKind.wrap_i64]; omega
        have zB : IntKind.i64.wrap (l.length : Int) = (l.length : Int) := by rw [IntKind.wrap_i64]; omega
        have zC : (l.length : Int) + 1 - 1 = (l.length : Int) := by omega
        have h1 : St S w w9 (Many LmP ms :: LmP ⟨⟨kd, sz, sl, lt, ag, kk⟩, mk0, ms0, pa0, pc0, os0, oa0, oc0⟩ :: _) := H9.pick [9, 2, 10, 3, 4, 11, 6, 7, 8]
        have h2 := Many.snoc h1
        have h3 : St S w w9 (Many LmO ms :: LmO ⟨⟨kd, sz, sl, lt, ag, kk⟩, mk0, ms0, pa0, pc0, os0, oa0, oc0⟩ :: _) := h2.pick [1, 2, 0, 3, 4, 5, 6, 7]
        have h4 := Many.snoc h3
        have h5 : St S w w9 (Pool H0 :: Pool HH :: _) := h4.pick [2, 3, 0, 1, 4, 5, 6]
        have h6 := St.pool_join h5
        obtain ⟨a1, a2, a3, a4⟩ := hall.out
        have hfinal : St S w w9 [LnsAt lb (l ++ [⟨⟨kd, sz, sl, lt, ag, kk⟩, ⟨mk0, ps0⟩, O0⟩]) items] := by
          refine LnsAt.mk (ms := ms ++ [⟨⟨kd, sz, sl, lt, ag, kk⟩, mk0, ms0, pa0, pc0, os0, oa0, oc0⟩]) (H := H0 ++ HH) (la := la2) (lc := lc2) (ia := ia) (ic := ic) ?_ ?_ ?_
          · rw [List.map_append, hms.out]
            unfold Lm.ln
            simp only [List.map_cons, List.map_nil, a1, a2]
          · intro y hy
            rcases List.mem_append.1 hy with hy | hy
            · exact own_more (hown.out y hy) fun z hz => List.mem_append_right _ hz
            · obtain rfl := List.mem_singleton.1 hy
              exact ⟨fun m hm => List.mem_append_left _ (a3 m hm), fun m hm => List.mem_append_left _ (a4 m hm)⟩
          · have e1 : (ms ++ [⟨⟨kd, sz, sl, lt, ag, kk⟩, mk0, ms0, pa0, pc0, os0, oa0, oc0⟩] : List Lm).length = l.length + 1 := by rw [List.length_append, hnh.out]; rfl
            have e2 : encL.all (ms ++ [⟨⟨kd, sz, sl, lt, ag, kk⟩, mk0, ms0, pa0, pc0, os0, oa0, oc0⟩]) = encL.all ms ++ [.int .i64 kd, .int .i64 sz, .int .i64 sl, .int .i64 lt, .int .i64 ag, .int .i64 kk, .int .i64 mk0, .slice pa0 ms0.length pc0, .slice oa0 os0.length oc0] := by rw [encL.all_app]; rfl
            rw [e1, e2]
            exact h6.pick [3, 4, 5, 2, 1, 0]
        have hend := f4h.out (by first | rfl | trivial) hlt w9 (by first | rfl | trivial) hfinal
        clear h1 h2 h3 h4 h5 h6 hfinal f1h f2h f3h f4h a1 a2 a3 a4 hall
        go_wp2
        first | exact hend | (go_ret2; exact hend)
      · have he3 : (e0 != 0) = true := by simpa using he
        have hend := f3h.out (by first | rfl | trivial) hlt wc he (hback.out _ (HC2.pick [5, 6, 7, 8, 9, 10]))
        clear f1h f2h f3h f4h hall
        go_wp2
        first | exact hend | (go_ret2; exact hend)

end Go.Proofs.YtiglgfonhdfpmaaGreat
