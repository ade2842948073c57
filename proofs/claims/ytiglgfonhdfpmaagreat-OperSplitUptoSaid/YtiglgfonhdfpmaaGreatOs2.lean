import Derived.Test.YtiglgfonhdfpmaaGreatOs1
import Derived.Lib.Index
import Derived.Laws.CopyOwn
import Derived.Deep.MidRow
import Derived.Lib.SliceRun
import Derived.Shelf.Small.Strs
import Derived.Shelf.Small.Wraps
import Derived.Deep.DeepAppendWide
import Derived.ProofKit
import Derived.OpenShut
import Derived.Test.YtiglgfonhdfpmaaGreatRows
/- The walks of Name and Right: which names and items are right. No condition but lengths. -/
set_option linter.unusedVariables false
set_option linter.unusedSimpArgs false
namespace Go.Proofs.YtiglgfonhdfpmaaGreat
open Go.RowKit

def signsL : List UInt8 := [97, 98, 99, 100, 101, 102, 103, 104, 105, 106, 107, 108, 109, 110, 111, 112, 113, 114, 115, 116, 117, 118, 119, 120, 121, 122, 48, 49, 50, 51, 52, 53, 54, 55, 56, 57, 45]
theorem signs_at (c : UInt8) : decide (Lib.indexByte signsL c < 0) = !evSign c := by
  have key : ∀ n : Fin 256, decide (Lib.indexByte signsL (UInt8.ofNat n.val) < 0) = !evSign (UInt8.ofNat n.val) := by decide +kernel
  have := key ⟨c.toNat, UInt8.toNat_lt c⟩
  simpa using this
theorem ev_text_size (bs : List UInt8) : (⟨bs.toArray⟩ : ByteArray).size = bs.length := by simp [ByteArray.size]
theorem ev_text_at (bs : List UInt8) (i : Nat) (h : i < (⟨bs.toArray⟩ : ByteArray).size) {c : UInt8} (hx : bs[i]? = some c) : (⟨bs.toArray⟩ : ByteArray)[i] = c := by
  have hi : i < bs.length := by rw [ev_text_size] at h; exact h
  rw [List.getElem?_eq_getElem hi] at hx
  exact Option.some.inj hx
theorem ev_all_take {bs : List UInt8} {i : Nat} {c : UInt8} {p : UInt8 → Bool} (h : bs[i]? = some c) : (bs.take (i + 1)).all p = ((bs.take i).all p && p c) := by
  rw [take_snoc' h, List.all_append]
  simp
theorem ev_all_false {bs : List UInt8} {i : Nat} {c : UInt8} {p : UInt8 → Bool} (h : bs[i]? = some c) (hp : p c = false) : bs.all p = false := by
  rw [List.all_eq_false]
  exact ⟨c, List.mem_of_getElem? h, by simp [hp]⟩

set_option maxHeartbeats 1000000 in
set_option maxRecDepth 100000 in
theorem ev_name (bs : List UInt8) (hl : bs.length ≤ 9223372036854775807) (w : World) : Calls Tryz.prog 104 #[textV bs] w fun e w' => e = .returned (.bool (nameB bs)) ∧ w' = w := by
  have hsz := ev_text_size bs
  unfold textV
  go_enter Tryz.func104, Tryz.ntmps104
  by_cases h0 : bs = []
  · subst h0
    go_wp2
    go_ret
    exact ⟨rfl, rfl⟩
  · have y1 : (bs == []) = false := by simpa using h0
    by_cases h16 : (16 : Int) < bs.length
    · have z1 : decide ((16 : Int) < (bs.length : Int)) = true := by simpa using h16
      have hn := Lib.hid (show nameB bs = false by unfold nameB; simp; omega)
      go_wp2
      go_ret
      rw [hn.out]
      exact ⟨rfl, rfl⟩
    · have z1 : decide ((16 : Int) < (bs.length : Int)) = false := by simpa using h16
      have hn := Lib.hid (show nameB bs = bs.all evSign by unfold nameB; simp [h0]; omega)
      go_upto_block 1 with (fail)
      go_loopw [13] (fun j wr => ∃ i : Nat, i ≤ bs.length ∧ j = .int .i64 i ∧ (bs.take i).all evSign = true ∧ wr = w) (fun j _ => bs.length - (intOf j).toNat)
      case atStart => exact ⟨0, by omega, rfl, by simp, rfl⟩
      case round =>
        obtain ⟨i, hi, rfl, ha, rfl⟩ := hrel
        by_cases hlt : i < bs.length
        · obtain ⟨c, hx⟩ : ∃ c, bs[i]? = some c := ⟨_, List.getElem?_eq_getElem hlt⟩
          have hc0 := ev_text_at bs i (by rw [hsz]; omega) hx
          have h2 := ev_all_take (p := evSign) hx
          rw [ha, Bool.true_and] at h2
          have hsg := signs_at c
          have kx := fun w' => strings_IndexByte ⟨signsL.toArray⟩ c.toNat w'
          have hcc : ((c.toNat : Int)).toNat.toUInt8 = c := by simp
          simp only [hcc] at kx
          obtain ⟨X, hX⟩ : ∃ X, Lib.indexByte signsL c = X := ⟨_, rfl⟩
          have kx2 : ∀ w', Calls Tryz.prog 161 #[.string ⟨signsL.toArray⟩, .int .u8 c.toNat] w' fun e w'' => e = .returned (.int .i64 X) ∧ w'' = w' := fun w' => by rw [← hX]; exact kx w'
          rw [hX] at hsg
          unfold signsL at kx2
          clear kx hX hcc
          by_cases hs : evSign c = true
          · rw [hs] at h2 hsg
            have hsg : decide (X < 0) = false := hsg
            clear hx ha hs
            go_wp2_with (go_at_call 161; go_must (refine (kx2 _).mono ?_; rintro e w7 ⟨rfl, rfl⟩))
            go_roundw
            case rel => exact ⟨i + 1, by omega, by go_num, h2, by first | rfl | trivial⟩
            case measure => simp [intOf]; omega
          · have hs' : evSign c = false := by simpa using hs
            have h3 := Lib.hid (ev_all_false hx hs')
            rw [hs'] at hsg
            have hsg : decide (X < 0) = true := hsg
            clear hx ha hs hs' h2
            go_wp2_with (go_at_call 161; go_must (refine (kx2 _).mono ?_; rintro e w7 ⟨rfl, rfl⟩))
            go_ret
            rw [hn.out, h3.out]
            exact ⟨rfl, rfl⟩
        · obtain rfl : i = bs.length := by omega
          rw [List.take_length] at ha
          have hah := Lib.hid ha
          clear ha
          go_wp2
          go_ret
          rw [hn.out, hah.out]
          exact ⟨rfl, rfl⟩

abbrev itmV (x : Itm) : Value := .agg #[.int .i64 x.kind, textV x.key, .int .i64 x.time, .int .i64 x.value]
abbrev itmC (x : Itm) : Array Value := #[.int .i64 x.kind, textV x.key, .int .i64 x.time, .int .i64 x.value]

set_option maxHeartbeats 1000000 in
set_option maxRecDepth 100000 in
theorem ev_right (x : Itm) (hx : x.fits) (w : World) : Calls Tryz.prog 71 #[itmV x] w fun e w' => e = .returned (.bool x.right) ∧ Below w.heap.size w w' := by
  obtain ⟨k, key, t, v⟩ := x
  have kn := fun w' => ev_name key hx.2.1 w'
  have H : St (fun _ => False) w (w.alloc (.cells #[.int .i64 k, textV key, .int .i64 t, .int .i64 v] 56)) [Blk w.heap.size #[.int .i64 k, textV key, .int .i64 t, .int .i64 v] 56] := (St.nil (fun _ => False) w).alloc _ _
  obtain ⟨w1, hw1⟩ : ∃ w1, w.alloc (.cells #[.int .i64 k, textV key, .int .i64 t, .int .i64 v] 56) = w1 := ⟨_, rfl⟩
  obtain ⟨b, hb⟩ : ∃ b, w.heap.size = b := ⟨_, rfl⟩
  have hr0 : Itm.right ⟨k, key, t, v⟩ = (decide (0 ≤ t) && decide (t ≤ 1099511627776) && (if k = 1 then nameB key && decide (-1099511627776 ≤ v) && decide (v ≤ 1099511627776) else if k = 2 then key.isEmpty && decide (v = 0) else false)) := rfl
  unfold itmV
  simp only
  go_enter Tryz.func71, Tryz.ntmps71
  go_upto_region 1 with (fail)
  rw [hw1, hb] at H
  try rw [hw1]
  try rw [hb]
  clear hw1 hb
  have c0 := H.cell 0 0 rfl rfl
  have c1 := H.cell 0 1 rfl rfl
  have c2 := H.cell 0 2 rfl rfl
  have c3 := H.cell 0 3 rfl rfl
  unfold textV at c1 kn
  by_cases t0 : t < 0
  · have hr := Lib.hid (show Itm.right ⟨k, key, t, v⟩ = false by rw [hr0, decide_eq_false (show ¬ 0 ≤ t by omega)]; rfl)
    have z0 : decide (t < 0) = true := by simpa using t0
    clear hr0
    go_wp2
    go_ret
    rw [hr.out]
    exact ⟨rfl, H.below (Nat.le_refl _) (fun _ h => h.elim)⟩
  · have z0 : decide (t < 0) = false := by simpa using t0
    by_cases t1 : 1099511627776 < t
    · have hr := Lib.hid (show Itm.right ⟨k, key, t, v⟩ = false by rw [hr0, decide_eq_false (show ¬ t ≤ 1099511627776 by omega), Bool.and_false]; rfl)
      have z1 : decide (1099511627776 < t) = true := by simpa using t1
      clear hr0
      go_wp2
      go_ret
      rw [hr.out]
      exact ⟨rfl, H.below (Nat.le_refl _) (fun _ h => h.elim)⟩
    · have z1 : decide (1099511627776 < t) = false := by simpa using t1
      rw [decide_eq_true (show 0 ≤ t by omega), decide_eq_true (show t ≤ 1099511627776 by omega), Bool.true_and, Bool.true_and] at hr0
      by_cases k1 : k = 1
      · subst k1
        rw [if_pos rfl] at hr0
        obtain ⟨nm, hnm⟩ : ∃ nm, nameB key = nm := ⟨_, rfl⟩
        rw [hnm] at kn hr0
        clear hnm
        cases nm with
        | false =>
          have hr := Lib.hid (hr0.trans rfl)
          clear hr0
          go_wp2_with (go_at_call 104; go_must (refine (kn _).mono ?_; rintro e w7 ⟨rfl, rfl⟩))
          go_ret
          rw [hr.out]
          exact ⟨rfl, H.below (Nat.le_refl _) (fun _ h => h.elim)⟩
        | true =>
          rw [Bool.true_and] at hr0
          by_cases v0 : -1099511627776 ≤ v
          · have z2 : decide (-1099511627776 ≤ v) = true := by simpa using v0
            rw [z2, Bool.true_and] at hr0
            by_cases v1 : v ≤ 1099511627776
            · have z3 : decide (v ≤ 1099511627776) = true := by simpa using v1
              rw [z3] at hr0
              have hr := Lib.hid hr0
              clear hr0
              go_wp2_with (go_at_call 104; go_must (refine (kn _).mono ?_; rintro e w7 ⟨rfl, rfl⟩))
              go_ret
              rw [hr.out]
              exact ⟨rfl, H.below (Nat.le_refl _) (fun _ h => h.elim)⟩
            · have z3 : decide (v ≤ 1099511627776) = false := by simpa using v1
              rw [z3] at hr0
              have hr := Lib.hid hr0
              clear hr0
              go_wp2_with (go_at_call 104; go_must (refine (kn _).mono ?_; rintro e w7 ⟨rfl, rfl⟩))
              go_ret
              rw [hr.out]
              exact ⟨rfl, H.below (Nat.le_refl _) (fun _ h => h.elim)⟩
          · have z2 : decide (-1099511627776 ≤ v) = false := by simpa using v0
            rw [z2, Bool.false_and] at hr0
            have hr := Lib.hid hr0
            clear hr0
            go_wp2_with (go_at_call 104; go_must (refine (kn _).mono ?_; rintro e w7 ⟨rfl, rfl⟩))
            go_ret
            rw [hr.out]
            exact ⟨rfl, H.below (Nat.le_refl _) (fun _ h => h.elim)⟩
      · have y1 : (k == 1) = false := by simpa using k1
        rw [if_neg k1] at hr0
        by_cases k2 : k = 2
        · subst k2
          rw [if_pos rfl] at hr0
          by_cases e0 : key = []
          · subst e0
            by_cases v0 : v = 0
            · subst v0
              have hr := Lib.hid (hr0.trans rfl)
              clear hr0
              go_wp2
              go_ret
              rw [hr.out]
              exact ⟨rfl, H.below (Nat.le_refl _) (fun _ h => h.elim)⟩
            · have y2 : (v == 0) = false := by simpa using v0
              have hr := Lib.hid (show Itm.right ⟨2, [], t, v⟩ = false by rw [hr0]; simpa using v0)
              clear hr0
              go_wp2
              go_ret
              rw [hr.out]
              exact ⟨rfl, H.below (Nat.le_refl _) (fun _ h => h.elim)⟩
          · have y3 : (key == []) = false := by simpa using e0
            have hr := Lib.hid (show Itm.right ⟨2, key, t, v⟩ = false by rw [hr0]; simp [e0])
            clear hr0
            go_wp2
            go_ret
            rw [hr.out]
            exact ⟨rfl, H.below (Nat.le_refl _) (fun _ h => h.elim)⟩
        · have y2 : (k == 2) = false := by simpa using k2
          rw [if_neg k2] at hr0
          have hr := Lib.hid hr0
          clear hr0
          go_wp2
          go_ret
          rw [hr.out]
          exact ⟨rfl, H.below (Nat.le_refl _) (fun _ h => h.elim)⟩

end Go.Proofs.YtiglgfonhdfpmaaGreat

/- An array by value into the midst of a block. Laws over any program. -/
set_option linter.unusedVariables false
set_option linter.unusedSimpArgs false
namespace Go.Proofs.YtiglgfonhdfpmaaGreat
open Go.RowKit

def mayCells (w : World) (b o n : Nat) : Bool := (List.range n).all fun j => (w.cell? ⟨b, o + j, none⟩).isSome && !(w.frozen? ⟨b, o + j, none⟩)
@[go_sem] theorem mayCells_drew (w : World) (b o n : Nat) : mayCells w.drew b o n = mayCells w b o n := rfl
theorem mayCells_there {w : World} {b o n : Nat} (h : mayCells w b o n = true) : w.there b o n := fun j hj => by
  have := List.all_eq_true.1 h j (by simpa using hj)
  simpa using this
theorem mayCells_blk {w : World} {b o n : Nat} {cs : Array Value} {t : TypeId} (h : w.heap[b]? = some (.cells cs t (0, 0))) (hn : o + n ≤ cs.size) : mayCells w b o n = true := by
  refine List.all_eq_true.2 fun j hj => ?_
  have hj' : j < n := by simpa using hj
  rw [cell_blk h, free_blk h, Array.getElem?_eq_getElem (by omega)]
  rfl
theorem run_store_mid {P : Program} {w : World} {a : Act} {dst : Option Tmp} {ty' : TypeId} {pos : String} {after : Array Edge} {g : Option (Nat × Bool)} {t : TypeId} {x y : Operand} {n : Nat}
    (hi : (P.info? t).map (·.size) = some n) (hp : plainPtr (a.eval x) = true) (hr : mayCells w (blockOf (a.eval x)) (placeOf (a.eval x)) n = true) (hv : isAggV (a.eval y) = true) (hs : (aggOf (a.eval y)).size = n) (h1 : allOne (aggOf (a.eval y)) = true) :
    (execOp a.eval ⟨dst, .store t x y, ty', pos, after, g⟩).run P w = .ok .skip (w.setCells (blockOf (a.eval x)) (placeOf (a.eval x)) (aggOf (a.eval y)).toList) := by
  cases hx : a.eval x with
  | pointer q =>
    cases q with
    | none => rw [hx] at hp; cases hp
    | some ad =>
      obtain ⟨b, o, sp⟩ := ad
      rw [hx] at hp hr
      obtain rfl : sp = none := by simpa [plainPtr] using hp
      cases hy : a.eval y with
      | agg cells =>
        rw [hy] at hs h1
        rw [aggOf_lit] at hs h1
        have := run_storeAt_mid (P := P) w b o t cells (by rw [hs]; exact mayCells_there hr) (by rw [hi, hs]) h1
        unfold execOp
        simp only [hx, hy, Sem.run_bind, this, Result.andThen_ok]
        rfl
      | _ => rw [hy] at hv; cases hv
  | _ => rw [hx] at hp; cases hp
theorem splice_cons (cs : List Value) (o : Nat) (v : Value) (r : List Value) (h : o < cs.length) : splice (cs.set o v) (o + 1) r = splice cs o (v :: r) := by
  unfold splice
  rw [List.set_eq_take_append_cons_drop, if_pos h]
  have e1 : (cs.take o).length = o := by rw [List.length_take]; omega
  rw [List.take_append, List.drop_append, e1, List.take_of_length_le (l := cs.take o) (by omega), show o + 1 - o = 1 by omega]
  rw [List.take_succ_cons, List.take_zero, List.drop_of_length_le (l := cs.take o) (by omega), show o + 1 + r.length - o = r.length + 1 by omega, List.drop_succ_cons, List.drop_drop, List.length_cons]
  simp only [List.append_assoc, List.cons_append, List.nil_append]
  rw [show o + 1 + r.length = o + (r.length + 1) by omega]
theorem St.setCells {S : Nat → Prop} {w0 : World} (i : Nat) {b : Nat} {t : TypeId} : ∀ (vs : List Value) (o : Nat) (cs : List Value) (w : World) (l : List SP), St S w0 w l → l[i]? = some (Blk b cs.toArray t) → o + vs.length ≤ cs.length → St S w0 (w.setCells b o vs) (l.set i (Blk b (splice cs o vs).toArray t))
  | [], o, cs, w, l, H, hi, _ => by
    have e : splice cs o [] = cs := by simp [splice]
    rw [e]
    have hs : l.set i (Blk b cs.toArray t) = l := by
      refine List.ext_getElem? fun j => ?_
      rw [List.getElem?_set]
      split
      · rename_i h
        subst h
        rw [if_pos (List.getElem?_eq_some_iff.1 hi).1, hi]
      · rfl
    rw [hs]
    exact H
  | v :: r, o, cs, w, l, H, hi, hle => by
    simp only [List.length_cons] at hle
    have h := H.set i hi o v
    have hlt := (List.getElem?_eq_some_iff.1 hi).1
    have e : (cs.toArray.setIfInBounds o v) = (cs.set o v).toArray := by simp
    rw [e] at h
    have h2 := St.setCells i r (o + 1) (cs.set o v) _ _ h (by rw [List.getElem?_set_self hlt]) (by rw [List.length_set]; omega)
    rw [List.set_set, splice_cons _ _ _ _ (by omega)] at h2
    exact h2

end Go.Proofs.YtiglgfonhdfpmaaGreat

/- Items in a row of a call's own: plain laws; own rows as blocks; an item stored into the midst. -/
set_option linter.unusedVariables false
set_option linter.unusedSimpArgs false
namespace Go.Proofs.YtiglgfonhdfpmaaGreat
open Go.RowKit

def itms (l : List Itm) : List Value := (l.map fun x => (itmC x).toList).flatten
theorem itms_len (l : List Itm) : (itms l).length = l.length * 4 := by
  induction l with
  | nil => rfl
  | cons x l ih => simp only [itms, List.map_cons, List.flatten_cons, List.length_append, List.length_cons] at ih ⊢; rw [ih]; simp; omega
theorem itms_get {l : List Itm} {i j : Nat} {x : Itm} {v : Value} (hi : l[i]? = some x) (hj : (itmC x).toList[j]? = some v) : (itms l)[i * 4 + j]? = some v := by
  have hk : ∀ y ∈ l.map fun x => (itmC x).toList, y.length = 4 := by
    intro y hy
    obtain ⟨x, _, rfl⟩ := List.mem_map.1 hy
    rfl
  have hi2 : (l.map fun x => (itmC x).toList)[i]? = some (itmC x).toList := by rw [List.getElem?_map, hi]; rfl
  have hj4 : j < 4 := (List.getElem?_eq_some_iff.1 hj).1
  exact (flat_get hk hi2 hj4).trans hj
/-- Items that can be read. -/
def ItmsRO (w : World) (v : Value) (l : List Itm) : Prop :=
  ∃ ad cap, v = .slice ad l.length cap ∧ l.length ≤ cap ∧ (∀ x ∈ l, x.fits) ∧ (l ≠ [] → ∃ b o, ad = some ⟨b, o, none⟩ ∧ b < w.heap.size ∧ ∀ i x, l[i]? = some x → w.rangeAt b (o + i * 4) (itmC x).toList)
theorem ItmsRO.later {w w' : World} {v : Value} {l : List Itm} (hv : ItmsRO w v l) (hk : Kept (fun _ => False) w w') : ItmsRO w' v l := by
  obtain ⟨ad, cap, e1, e2, e3, e4⟩ := hv
  refine ⟨ad, cap, e1, e2, e3, fun hl => ?_⟩
  obtain ⟨b, o, g1, g2, g4⟩ := e4 hl
  exact ⟨b, o, g1, Nat.lt_of_lt_of_le g2 hk.size, fun i x hi j v hj => (World.cell?_of_block (w := w) (hk.block b g2 id)).trans (g4 i x hi j v hj)⟩
theorem itm_cells {w w' : World} {b o i : Nat} {x : Itm} (h : w.rangeAt b (o + i * 4) (itmC x).toList) (hb : w'.heap[b]? = w.heap[b]?) :
    w'.cell? ⟨b, o + i * 4, none⟩ = some (.int .i64 x.kind) ∧ w'.cell? ⟨b, o + i * 4 + 1, none⟩ = some (textV x.key) ∧ w'.cell? ⟨b, o + i * 4 + 2, none⟩ = some (.int .i64 x.time) ∧ w'.cell? ⟨b, o + i * 4 + 3, none⟩ = some (.int .i64 x.value) :=
  ⟨(World.cell?_of_block hb).trans (h 0 _ rfl), (World.cell?_of_block hb).trans (h 1 _ rfl), (World.cell?_of_block hb).trans (h 2 _ rfl), (World.cell?_of_block hb).trans (h 3 _ rfl)⟩
/-- All cells of readable items, one by one. -/
theorem ItmsRO.cells {w : World} {v : Value} {l : List Itm} (hv : ItmsRO w v l) : ∃ ad cap, v = .slice ad l.length cap ∧ (ad = none → l = []) ∧ ∀ p, ad = some p → ∀ j u, (itms l)[j]? = some u → w.cell? (p.add j) = some u := by
  obtain ⟨ad, cap, rfl, _, _, h⟩ := hv
  refine ⟨ad, cap, rfl, fun e => ?_, fun p hp j u hj => ?_⟩
  · refine Classical.byContradiction fun hl => ?_
    obtain ⟨b, o, e2, _⟩ := h hl
    rw [e] at e2
    cases e2
  · by_cases hl : l = []
    · subst hl; simp [itms] at hj
    · obtain ⟨b, o, e2, _, h4⟩ := h hl
      rw [hp] at e2
      obtain rfl := Option.some.inj e2
      have hlt := (List.getElem?_eq_some_iff.1 hj).1
      rw [itms_len] at hlt
      obtain ⟨x, hx⟩ : ∃ x, l[j / 4]? = some x := ⟨_, List.getElem?_eq_getElem (by omega)⟩
      have hm : j % 4 < (itmC x).toList.length := by show j % 4 < 4; omega
      have hj2 := itms_get hx (List.getElem?_eq_getElem hm)
      rw [show j / 4 * 4 + j % 4 = j by omega, hj] at hj2
      rw [Addr.add_lit]
      have := h4 (j / 4) x hx (j % 4) u ((List.getElem?_eq_getElem hm).trans hj2.symm)
      rw [show o + j / 4 * 4 + j % 4 = o + j by omega] at this
      exact this

section
variable {S : Nat → Prop} {w0 w w' : World} {l : List SP}
/-- An own row that is not empty is a block. -/
theorem St.row_blk (h : St S w0 w l) (i : Nat) {e : TypeId} {size : Nat} {v : Value} {n : Nat} {xs : List Value} (hi : l[i]? = some (Row e size v n xs)) (hn : n ≠ 0) :
    ∃ g cap R, v = .slice (some ⟨g, 0, none⟩) n cap ∧ n ≤ cap ∧ cap ≤ maxLen ∧ xs.length = n * size ∧ (xs ++ R).length = cap * size ∧ St S w0 w (l.set i (Blk g (xs ++ R).toArray e)) := by
  obtain ⟨S1, h1, h2⟩ := h.turn i hi
  obtain ⟨⟨hl, ho⟩, hS⟩ := h1
  rcases ho with ⟨_, h0⟩ | ⟨g, cap, cur, hv, _, hg, hnc, hcm, hcs, hx⟩
  · exact absurd h0 hn
  · have ec : xs ++ cur.toList.drop (n * size) = cur.toList := by rw [← hx, List.take_append_drop]
    refine ⟨g, cap, cur.toList.drop (n * size), hv, hnc, hcm, hl, by rw [ec]; simpa using hcs, ?_⟩
    refine h2 (S1' := S1) (Kept.refl _ _) ⟨?_, fun k => ?_⟩ (fun k hk => .inl hk)
    · rw [ec]; simpa using hg
    · rw [hS k, hv]
      show some g = some k ↔ k = g
      constructor
      · intro e; exact (Option.some.inj e).symm
      · intro e; rw [e]
/-- A block is an own row, so long as you say. -/
theorem St.blk_row (h : St S w0 w l) (i : Nat) {e : TypeId} {size g cap n : Nat} {cs : List Value} {xs : List Value} (hi : l[i]? = some (Blk g cs.toArray e)) (hnc : n ≤ cap) (hcm : cap ≤ maxLen) (hc : cs.length = cap * size) (hx : cs.take (n * size) = xs) :
    St S w0 w (l.set i (Row e size (.slice (some ⟨g, 0, none⟩) n cap) n xs)) := by
  obtain ⟨S1, h1, h2⟩ := h.turn i hi
  refine h2 (S1' := S1) (Kept.refl _ _) ⟨⟨?_, .inr ⟨g, cap, cs.toArray, rfl, Nat.zero_le _, h1.1, hnc, hcm, by simpa using hc, by simpa using hx⟩⟩, fun k => ?_⟩ (fun k hk => .inl hk)
  · rw [← hx, List.length_take, hc]
    have := Nat.mul_le_mul_right size hnc
    omega
  · rw [h1.2 k]
    show k = g ↔ some g = some k
    constructor
    · intro e; rw [e]
    · intro e; exact (Option.some.inj e).symm
end
end Go.Proofs.YtiglgfonhdfpmaaGreat

/- A region that draws its order, with calls that write or that make memory: its operations in a given order (small ones first; a call stands alone when it is ready) tell of every order. Laws over any program. -/
set_option linter.unusedVariables false
set_option linter.unusedSimpArgs false
namespace Go.Proofs.YtiglgfonhdfpmaaGreat
open Go.RowKit

section
variable {P : Program} {ops : Array Oper} {md : Region.Mode}

/-- The operation came to a value and a new invariant. -/
def CameV (P : Program) (V : Value → (World → Prop) → Prop) : Result Next → Prop
  | .ok (.value u) w' => ∃ I', V u I' ∧ I' w'
  | .ok .skip w' => ∃ I', V undef I' ∧ I' w'
  | .ok (.enter f args) w' => Calls P f args w' fun e w'' => ∃ v I', e = .returned v ∧ V v I' ∧ I' w''
  | _ => False
theorem cameV_value (V : Value → (World → Prop) → Prop) (u : Value) (w' : World) : CameV P V (.ok (.value u) w') = ∃ I', V u I' ∧ I' w' := rfl
theorem cameV_skip (V : Value → (World → Prop) → Prop) (w' : World) : CameV P V (.ok .skip w') = ∃ I', V undef I' ∧ I' w' := rfl
theorem cameV_enter (V : Value → (World → Prop) → Prop) (f : Nat) (args : Array Value) (w' : World) : CameV P V (.ok (.enter f args) w') = Calls P f args w' (fun e w'' => ∃ v I', e = .returned v ∧ V v I' ∧ I' w'') := rfl

def StepTo (P : Program) (ops : Array Oper) (I : World → Prop) (o : Oper) (V : Value → (World → Prop) → Prop) (a : Act) : Prop :=
  (Region.wanted o (yielded ops a.tmps) = true ∧ ∀ w, I w → CameV P V ((execOp a.eval o).run P w)) ∨ (Region.wanted o (yielded ops a.tmps) = false ∧ V undef I)
theorem StepTo.same {I : World → Prop} {o : Oper} {V : Value → (World → Prop) → Prop} {a a' : Act} (h : StepTo P ops I o V a) (he : execOp a'.eval o = execOp a.eval o) (hw : Region.wanted o (yielded ops a'.tmps) = Region.wanted o (yielded ops a.tmps)) : StepTo P ops I o V a' := by
  unfold StepTo at *
  rw [he, hw]
  exact h
theorem StepTo.op {I : World → Prop} {i : Nat} {o : Oper} {V : Value → (World → Prop) → Prop} {a : Act} {w : World} {K : Act → World → Prop} {Q : Exit → Act → World → Prop} (hi : ops[i]? = some o) (h : StepTo P ops I o V a) (hw : I w)
    (hK : ∀ v I', V v I' → ∀ w, I' w → K (a.put o.dst v) w) : wpOp P ops Q i K a w := by
  unfold wpOp
  simp only [hi]
  rcases h with ⟨h1, h2⟩ | ⟨h1, h2⟩
  · rw [if_pos h1]
    left
    have h3 := h2 w hw
    unfold Oper.wp
    generalize (execOp a.eval o).run P w = r at h3 ⊢
    cases r with
    | ok n w' =>
      cases n <;> simp only [CameV] at h3 <;> simp only [Oper.upon]
      case value u => obtain ⟨I', h4, h5⟩ := h3; exact hK _ _ h4 _ h5
      case skip => obtain ⟨I', h4, h5⟩ := h3; exact hK _ _ h4 _ h5
      case enter f args => exact h3.mono fun e w'' ⟨v, I', he, h4, h5⟩ => by subst he; exact hK _ _ h4 _ h5
    | halt x w' => simp only [CameV] at h3
  · rw [if_neg (by simp [h1])]
    exact hK _ _ h2 _ hw

/-- One value in every world of every invariant of the class. -/
def SmallOp (P : Program) (ops : Array Oper) (C : (World → Prop) → Prop) (o : Oper) (v : Value) (a : Act) : Prop :=
  (Region.wanted o (yielded ops a.tmps) = true ∧ ∀ I, C I → ∀ w, I w → CameTo P I v ((execOp a.eval o).run P w)) ∨ (Region.wanted o (yielded ops a.tmps) = false ∧ v = undef)
theorem SmallOp.same {C : (World → Prop) → Prop} {o : Oper} {v : Value} {a a' : Act} (h : SmallOp P ops C o v a) (he : execOp a'.eval o = execOp a.eval o) (hw : Region.wanted o (yielded ops a'.tmps) = Region.wanted o (yielded ops a.tmps)) : SmallOp P ops C o v a' := by
  unfold SmallOp at *
  rw [he, hw]
  exact h
theorem SmallOp.step {C : (World → Prop) → Prop} {o : Oper} {v : Value} {a : Act} (h : SmallOp P ops C o v a) {I : World → Prop} (hI : C I) : StepTo P ops I o (fun u I' => u = v ∧ I' = I) a := by
  rcases h with ⟨h1, h2⟩ | ⟨h1, rfl⟩
  · refine .inl ⟨h1, fun w hw => ?_⟩
    have h3 := h2 I hI w hw
    generalize (execOp a.eval o).run P w = r at h3 ⊢
    cases r with
    | ok n w' =>
      cases n <;> simp only [CameTo] at h3 <;> simp only [CameV]
      case value u => exact ⟨I, ⟨h3.1, rfl⟩, h3.2⟩
      case skip => exact ⟨I, ⟨h3.1.symm, rfl⟩, h3.2⟩
      case enter f args => exact h3.mono fun e w'' ⟨he, hi⟩ => ⟨v, I, he, ⟨rfl, rfl⟩, hi⟩
    | halt x w' => simp only [CameTo] at h3
  · exact .inr ⟨h1, rfl, rfl⟩

def AnyI (P : Program) (md : Region.Mode) (ops : Array Oper) (Q : Act → World → Prop) (C : (World → Prop) → Prop) : Nat → Array Bool → Act → (World → Prop) → Prop
  | 0, listed, a, I => Region.ready md ops listed = [] ∧ ∀ w, I w → Q a w
  | n + 1, listed, a, I => (Region.ready md ops listed = [] → ∀ w, I w → Q a w) ∧
    ∀ i ∈ Region.ready md ops listed, ∃ o V, ops[i]? = some o ∧ StepTo P ops I o V a ∧ ∀ v I', V v I' → C I' ∧ AnyI P md ops Q C n (listed.setIfInBounds i true) (a.put o.dst v) I'
theorem AnyI.any {Q : Act → World → Prop} {Q' : Exit → Act → World → Prop} {C : (World → Prop) → Prop} (hQ : ∀ a w, Q a w → Q' .normal a w) : ∀ (n : Nat) (listed : Array Bool) (a : Act) (I : World → Prop) (w : World), I w → AnyI P md ops Q C n listed a I → wpAny P md ops Q' n listed a w
  | 0, _, _, _, _, hw, h => ⟨h.1, hQ _ _ (h.2 _ hw)⟩
  | n + 1, _, _, _, _, hw, h => ⟨fun h0 => hQ _ _ (h.1 h0 _ hw), fun i hi => by
      obtain ⟨o, V, h1, h2, h3⟩ := h.2 i hi
      exact h2.op h1 hw (fun v I' hv w' hw' => AnyI.any hQ n _ _ _ w' hw' (h3 v I' hv).2)⟩
theorem AnyI.mono {Q : Act → World → Prop} {C C' : (World → Prop) → Prop} (hC : ∀ I, C' I → C I) : ∀ {n : Nat} {listed : Array Bool} {a : Act} {I : World → Prop}, AnyI P md ops Q C' n listed a I → AnyI P md ops Q C n listed a I
  | 0, _, _, _, h => h
  | n + 1, _, _, _, h => ⟨h.1, fun i hi => by
      obtain ⟨o, V, h1, h2, h3⟩ := h.2 i hi
      exact ⟨o, V, h1, h2, fun v I' hv => ⟨hC _ (h3 v I' hv).1, AnyI.mono hC (h3 v I' hv).2⟩⟩⟩

/-- A small one that may come first may be taken first. -/
theorem AnyI.first {Q : Act → World → Prop} {C : (World → Prop) → Prop} {i : Nat} {oi : Oper} {v : Value} (hi : ops[i]? = some oi) (hsel : ∀ (j : Nat) (o : Oper) cs b, ops[j]? = some o → o.op ≠ .select cs b) : ∀ (n : Nat) (listed : Array Bool) (a : Act) (I : World → Prop), C I →
    (∀ j oj, ops[j]? = some oj → j ≠ i → listed.getD j true = false → (∀ e ∈ oj.after, Region.binds md e = true → e.on ≠ i) → oi.apart ops oj = true) →
    i ∈ Region.ready md ops listed → SmallOp P ops C oi v a → AnyI P md ops Q C n (listed.setIfInBounds i true) (a.put oi.dst v) I → AnyI P md ops Q C (n + 1) listed a I := by
  intro n
  induction n with
  | zero =>
    intro listed a I hI _ hr hy H
    refine ⟨fun h => (by rw [h] at hr; cases hr), fun j hj => ?_⟩
    by_cases hji : j = i
    · subst hji
      refine ⟨oi, _, hi, hy.step hI, ?_⟩
      rintro v' I' ⟨rfl, rfl⟩
      exact ⟨hI, H⟩
    · have := ready_mono hj hji
      rw [H.1] at this
      cases this
  | succ n ih =>
    intro listed a I hI hfree hr hy H
    refine ⟨fun h => (by rw [h] at hr; cases hr), fun j hj => ?_⟩
    by_cases hji : j = i
    · subst hji
      refine ⟨oi, _, hi, hy.step hI, ?_⟩
      rintro v' I' ⟨rfl, rfl⟩
      exact ⟨hI, H⟩
    · obtain ⟨oj, V, hoj, hyj, Hj⟩ := H.2 j (ready_mono hj hji)
      obtain ⟨hjun, oj', hoj', hall⟩ := mem_ready.1 hj
      obtain rfl : oj' = oj := by rw [hoj] at hoj'; exact (Option.some.inj hoj').symm
      have hnot : ∀ e ∈ oj'.after, Region.binds md e = true → e.on ≠ i := fun e he hb heq => by
        have h1 := hall e he hb
        have h0 := (mem_ready.1 hr).1
        rw [heq] at h1
        rcases Nat.lt_or_ge i listed.size with h' | h'
        · simp [h'] at h0 h1; rw [h0] at h1; cases h1
        · simp [Array.getElem?_eq_none h'] at h1
      obtain ⟨h1, h2, h3⟩ := Oper.apart_spec (hfree j oj' hoj hji hjun hnot)
      have hyj' : StepTo P ops I oj' V a := hyj.same (execOp_put oj' (fun cs b => hsel j oj' cs b hoj) a oi.dst v h1).symm (wanted_put oj' a oi.dst v h1).symm
      refine ⟨oj', V, hoj, hyj', fun u I' hu => ⟨(Hj u I' hu).1, ?_⟩⟩
      have hyi' : SmallOp P ops C oi v (a.put oj'.dst u) := hy.same (execOp_put oi (fun cs b => hsel i oi cs b hi) a oj'.dst u h3) (wanted_put oi a oj'.dst u h3)
      refine ih _ _ I' (Hj u I' hu).1 (fun k ok hk hki hun hno => ?_) (ready_mono hr (Ne.symm hji)) hyi' ?_
      · refine hfree k ok hk hki ?_ hno
        by_cases hjk : j = k
        · subst hjk; exact hjun
        · rw [getD_set_ne true hjk] at hun; exact hun
      · rw [Array.setIfInBounds_comm _ _ hji, ← Act.put_comm a v u h2]
        exact (Hj u I' hu).2

/-- The operations in this order: (i, false) small, (i, true) alone. -/
def Script (P : Program) (ops : Array Oper) (Q : Act → World → Prop) : List (Nat × Bool) → ((World → Prop) → Prop) → Act → (World → Prop) → Prop
  | [], _, a, I => ∀ w, I w → Q a w
  | (i, false) :: rest, C, a, I => ∃ o v, ops[i]? = some o ∧ SmallOp P ops C o v a ∧ Script P ops Q rest C (a.put o.dst v) I
  | (i, true) :: rest, C, a, I => ∃ o V, ops[i]? = some o ∧ StepTo P ops I o V a ∧ ∀ v I', V v I' → ∃ C', (∀ I, C' I → C I) ∧ C' I' ∧ Script P ops Q rest C' (a.put o.dst v) I'
def scriptB (md : Region.Mode) (ops : Array Oper) : List (Nat × Bool) → Array Bool → Bool
  | [], listed => (Region.ready md ops listed).isEmpty
  | (i, false) :: rest, listed => (Region.ready md ops listed).contains i && Region.free md ops listed i && scriptB md ops rest (listed.setIfInBounds i true)
  | (i, true) :: rest, listed => decide (Region.ready md ops listed = [i]) && scriptB md ops rest (listed.setIfInBounds i true)
theorem Script.any {Q : Act → World → Prop} (hs : Region.noSelect ops = true) : ∀ (l : List (Nat × Bool)) (C : (World → Prop) → Prop) (listed : Array Bool) (a : Act) (I : World → Prop), C I → scriptB md ops l listed = true → Script P ops Q l C a I → AnyI P md ops Q C l.length listed a I
  | [], _, _, _, _, _, hB, h => ⟨by simpa [scriptB] using hB, h⟩
  | (i, false) :: l, C, listed, a, I, hC, hB, ⟨o, v, h0, hy, h⟩ => by
    simp only [scriptB, Bool.and_eq_true] at hB
    obtain ⟨⟨hr, hf⟩, hB'⟩ := hB
    exact AnyI.first h0 (Region.noSelect_spec hs) l.length listed a I hC (Region.free_spec h0 hf) (by simpa using hr) hy (Script.any hs l C _ _ I hC hB' h)
  | (i, true) :: l, C, listed, a, I, hC, hB, ⟨o, V, h0, hy, h⟩ => by
    simp only [scriptB, Bool.and_eq_true, decide_eq_true_eq] at hB
    obtain ⟨hr, hB'⟩ := hB
    refine ⟨fun h => (by rw [hr] at h; cases h), fun j hj => ?_⟩
    rw [hr] at hj
    obtain rfl : j = i := by simpa using hj
    refine ⟨o, V, h0, hy, fun v I' hv => ?_⟩
    obtain ⟨C', h1, h2, h3⟩ := h v I' hv
    exact ⟨h1 _ h2, AnyI.mono h1 (Script.any hs l C' _ _ I' h2 hB' h3)⟩

/-- A REGION THAT DRAWS, by a script. -/
theorem wp_script {id : Nat} {Q : Exit → Act → World → Prop} {a : Act} {w : World} {l : List Oper} (s : List (Nat × Bool)) (C : (World → Prop) → Prop) (I : World → Prop) (hm : P.follows .mixedOrders = true) (hl : s.length = l.length) (hs : Region.noSelect l.toArray = true)
    (hB : scriptB .any l.toArray s (Array.replicate l.toArray.size false) = true) (h0 : I w.drew) (hC : C I) (h : Script P l.toArray (fun a w => Q .normal a w) s C a I) : (Code.region id l.toArray true).wp P Q a w := by
  refine wp_region_any hm ?_
  have := AnyI.any (Q' := Q) (fun _ _ h => h) _ _ _ _ _ h0 (Script.any hs s C _ a I hC hB h)
  rwa [hl] at this

variable {Q : Act → World → Prop} {rest : List (Nat × Bool)} {C : (World → Prop) → Prop} {a : Act} {I : World → Prop} {i : Nat} {o : Oper}
theorem script_nil (h : ∀ w, I w → Q a w) : Script P ops Q [] C a I := h
theorem script_step (ho : ops[i]? = some o) (hw : Region.wanted o (yielded ops a.tmps) = true) {v : Value} (h1 : ∀ I, C I → ∀ w, I w → CameTo P I v ((execOp a.eval o).run P w))
    (h : ∀ K : Act → Prop, (∀ a, Script P ops Q rest C a I → K a) → K (a.put o.dst v)) : Script P ops Q ((i, false) :: rest) C a I := ⟨o, v, ho, .inl ⟨hw, h1⟩, h _ (fun _ h => h)⟩
theorem script_pass (ho : ops[i]? = some o) (hw : Region.wanted o (yielded ops a.tmps) = false)
    (h : ∀ K : Act → Prop, (∀ a, Script P ops Q rest C a I → K a) → K (a.put o.dst undef)) : Script P ops Q ((i, false) :: rest) C a I := ⟨o, undef, ho, .inr ⟨hw, rfl⟩, h _ (fun _ h => h)⟩
theorem script_big (V : Value → (World → Prop) → Prop) (ho : ops[i]? = some o) (hw : Region.wanted o (yielded ops a.tmps) = true) (h1 : ∀ w, I w → CameV P V ((execOp a.eval o).run P w))
    (h : ∀ v I', V v I' → ∃ C', (∀ I, C' I → C I) ∧ C' I' ∧ ∀ K : Act → Prop, (∀ a, Script P ops Q rest C' a I' → K a) → K (a.put o.dst v)) : Script P ops Q ((i, true) :: rest) C a I :=
  ⟨o, V, ho, .inl ⟨hw, h1⟩, fun v I' hv => by obtain ⟨C', h2, h3, h4⟩ := h v I' hv; exact ⟨C', h2, h3, h4 _ (fun _ h => h)⟩⟩
end

/-- Invariants that new memory leaves be, and under which B holds. -/
def Fam (B : World → Prop) (I : World → Prop) : Prop := (∀ w w', I w → Below w.heap.size w w' → I w') ∧ ∀ w, I w → B w
theorem Fam.mono {B B' : World → Prop} (h : ∀ w, B' w → B w) (I : World → Prop) (hI : Fam B' I) : Fam B I := ⟨hI.1, fun w hw => h w (hI.2 w hw)⟩
theorem Fam.st {S : Nat → Prop} {w0 : World} {B : World → Prop} {L : List SP} (h : ∀ w, St S w0 w L → B w) : Fam B (fun w => St S w0 w L) := ⟨fun _ _ H hb => H.past hb, h⟩
theorem Fam.call {P : Program} {B I : World → Prop} {w : World} {fid : Nat} {args : Array Value} {p : Ending → Prop} (hI : Fam B I) (h : I w) (hc : Calls P fid args w fun e w2 => p e ∧ Below w.heap.size w w2) :
    Calls P fid args w fun e w2 => p e ∧ I w2 := hc.mono fun _ _ ⟨h1, h2⟩ => ⟨h1, hI.1 _ _ h h2⟩
theorem Fam.call0 {P : Program} {I : World → Prop} {w : World} {fid : Nat} {args : Array Value} {p : Ending → Prop} (h : I w) (hc : Calls P fid args w fun e w2 => p e ∧ w2 = w) :
    Calls P fid args w fun e w2 => p e ∧ I w2 := hc.mono fun _ _ ⟨h1, h2⟩ => ⟨h1, h2 ▸ h⟩

theorem hide_rel (R : Value → (World → Prop) → Prop) : ∃ V : Value → (World → Prop) → Prop, Hid (∀ v I', V v I' ↔ R v I') := ⟨R, Lib.hid fun _ _ => Iff.rfl⟩

attribute [go_sem] cameV_value cameV_skip cameV_enter
end Go.Proofs.YtiglgfonhdfpmaaGreat

/- A clock as plain data, and the walks of New, Good, See, Last, Tide. No condition but that numbers are such. -/
set_option linter.unusedVariables false
set_option linter.unusedSimpArgs false
namespace Go.Proofs.YtiglgfonhdfpmaaGreat
open Go.RowKit

structure Clk where
  slack : Int
  step : Int
  top : Int
  last : Int
def timeOk (t : Int) : Bool := decide (0 ≤ t) && decide (t ≤ 1099511627776)
/-- A time is seen: the mark and whether there is one. -/
def Clk.see (c : Clk) (t : Int) : Clk × Int × Bool :=
  if timeOk t = false then (c, 0, false)
  else if max c.top t - c.slack < 0 ∨ (0 ≤ c.last ∧ max c.top t - c.slack < c.last + c.step) then ({ c with top := max c.top t }, 0, false)
  else ({ c with top := max c.top t, last := max c.top t - c.slack }, max c.top t - c.slack, true)
def Clk.ok (c : Clk) : Prop := (0 ≤ c.slack ∧ c.slack ≤ 1073741824) ∧ (1 ≤ c.step ∧ c.step ≤ 1073741824) ∧ (-1 ≤ c.top ∧ c.top ≤ 1099511627776) ∧ (-1 ≤ c.last ∧ c.last ≤ 1099511627776)
end Go.Proofs.YtiglgfonhdfpmaaGreat

/- slices.DeleteFunc at items with clock's predicate; clock's events. Condition: so many items. -/
set_option linter.unusedVariables false
set_option linter.unusedSimpArgs false
namespace Go.Proofs.YtiglgfonhdfpmaaGreat
open Go.RowKit

theorem run_storeItm {w : World} {a : Act} {dst : Option Tmp} {ty' : TypeId} {pos : String} {after : Array Edge} {g : Option (Nat × Bool)} {x y : Operand}
    (hp : plainPtr (a.eval x) = true) (hr : mayCells w (blockOf (a.eval x)) (placeOf (a.eval x)) 4 = true) (hv : isAggV (a.eval y) = true) (hs : (aggOf (a.eval y)).size = 4) (h1 : allOne (aggOf (a.eval y)) = true) :
    (execOp a.eval ⟨dst, .store 56 x y, ty', pos, after, g⟩).run Tryz.prog w = .ok .skip (w.setCells (blockOf (a.eval x)) (placeOf (a.eval x)) (aggOf (a.eval y)).toList) :=
  run_store_mid (by kernel_rfl) hp hr hv hs h1

theorem run_clear_any {P : Program} (w : World) (t e ty : TypeId) (z : Value) (ht : P.underlying t = some (.slice e)) (hv : ∀ w, (zeroValue e).run P w = .ok z w) (b o n c m : Nat) (hn : 0 < n)
    (hm : (Builtin.zeroCells z.cells n).size = m) (hc : mayCells w b o m = true) (h1 : ∀ v ∈ (Builtin.zeroCells z.cells n).toList, v.oneCell' = true) :
    (Builtin.clear_ #[t] ty #[.slice (some ⟨b, o, none⟩) n c]).run P w = .ok (.tuple #[]) (w.setCells b o (Builtin.zeroCells z.cells n).toList) := by
  have hth := mayCells_there hc
  have hst := run_storeCells_cells (P := P) b o (Builtin.zeroCells z.cells n).toList 0 w (fun j hj => by simpa using (hth j (by rw [← hm]; simpa using hj)).1) (fun j hj => by simpa using (hth j (by rw [← hm]; simpa using hj)).2) h1
  simp only [Nat.add_zero] at hst
  obtain ⟨k, rfl⟩ : ∃ k, n = k + 1 := ⟨n - 1, by omega⟩
  simp [Builtin.clear_, run_underlying ht, hv, hst]
theorem take_set1 {α : Type} {L : List α} {i : Nat} (x : α) (hi : i < L.length) : (L.set i x).take (i + 1) = L.take i ++ [x] := by
  rw [take_snoc' (l := L.set i x) (x := x) (by simp [hi]), List.take_set, List.set_eq_of_length_le (by rw [List.length_take]; omega)]
section
end
end Go.Proofs.YtiglgfonhdfpmaaGreat

/- Windows in rows: laws. -/
set_option linter.unusedVariables false
set_option linter.unusedSimpArgs false
namespace Go.Proofs.YtiglgfonhdfpmaaGreat
open Go.RowKit

abbrev wdC (x : Wd) : Array Value := #[textV x.key, .int .i64 x.frm, .int .i64 x.to]
abbrev wdV (x : Wd) : Value := .agg (wdC x)
theorem Tryz.info61 : (Tryz.prog.info? 61).map (fun i => (i.zero, i.size, i.bytes)) = some (some (.agg #[.string ⟨#[]⟩, .int .i64 0, .int .i64 0]), 3, 32) := by kernel_rfl
def wds (l : List Wd) : List Value := (l.map fun x => (wdC x).toList).flatten
theorem wds_app (l m : List Wd) : wds (l ++ m) = wds l ++ wds m := by simp [wds]
theorem wds_one (x : Wd) : wds [x] = [textV x.key, .int .i64 x.frm, .int .i64 x.to] := by simp [wds]
theorem wds_len (l : List Wd) : (wds l).length = l.length * 3 := by
  induction l with
  | nil => rfl
  | cons x l ih => simp only [wds, List.map_cons, List.flatten_cons, List.length_append, List.length_cons] at ih ⊢; rw [ih]; simp; omega
theorem wds_get {l : List Wd} {i j : Nat} {x : Wd} {v : Value} (hi : l[i]? = some x) (hj : (wdC x).toList[j]? = some v) : (wds l)[i * 3 + j]? = some v := by
  have hk : ∀ y ∈ l.map fun x => (wdC x).toList, y.length = 3 := by
    intro y hy
    obtain ⟨x, _, rfl⟩ := List.mem_map.1 hy
    rfl
  have hi2 : (l.map fun x => (wdC x).toList)[i]? = some (wdC x).toList := by rw [List.getElem?_map, hi]; rfl
  have hj4 : j < 3 := (List.getElem?_eq_some_iff.1 hj).1
  exact (flat_get hk hi2 hj4).trans hj
theorem wds_one1 (l : List Wd) : ∀ u ∈ wds l, u.oneCell' = true := by
  intro u hu
  obtain ⟨y, hy, hu⟩ := List.mem_flatten.1 hu
  obtain ⟨x, _, rfl⟩ := List.mem_map.1 hy
  simp at hu
  rcases hu with rfl | rfl | rfl <;> rfl

/-- Items that can be read. -/
def WdsRO (w : World) (v : Value) (l : List Wd) : Prop :=
  ∃ ad cap, v = .slice ad l.length cap ∧ l.length ≤ cap ∧ (∀ x ∈ l, x.fits) ∧ (l ≠ [] → ∃ b o, ad = some ⟨b, o, none⟩ ∧ b < w.heap.size ∧ ∀ i x, l[i]? = some x → w.rangeAt b (o + i * 3) (wdC x).toList)
theorem WdsRO.later {w w' : World} {v : Value} {l : List Wd} (hv : WdsRO w v l) (hk : Kept (fun _ => False) w w') : WdsRO w' v l := by
  obtain ⟨ad, cap, e1, e2, e3, e4⟩ := hv
  refine ⟨ad, cap, e1, e2, e3, fun hl => ?_⟩
  obtain ⟨b, o, g1, g2, g4⟩ := e4 hl
  exact ⟨b, o, g1, Nat.lt_of_lt_of_le g2 hk.size, fun i x hi j v hj => (World.cell?_of_block (w := w) (hk.block b g2 id)).trans (g4 i x hi j v hj)⟩
theorem wd_cells {w w' : World} {b o i : Nat} {x : Wd} (h : w.rangeAt b (o + i * 3) (wdC x).toList) (hb : w'.heap[b]? = w.heap[b]?) :
    w'.cell? ⟨b, o + i * 3, none⟩ = some (textV x.key) ∧ w'.cell? ⟨b, o + i * 3 + 1, none⟩ = some (.int .i64 x.frm) ∧ w'.cell? ⟨b, o + i * 3 + 2, none⟩ = some (.int .i64 x.to) :=
  ⟨(World.cell?_of_block hb).trans (h 0 _ rfl), (World.cell?_of_block hb).trans (h 1 _ rfl), (World.cell?_of_block hb).trans (h 2 _ rfl)⟩
theorem wds_own {w : World} {v : Value} {n : Nat} {l : List Wd} (h : w.ownsRow 0 61 3 v n (wds l)) (hf : ∀ x ∈ l, x.fits) : WdsRO w v l := by
  have hn : n = l.length := by
    have := h.1
    have e := wds_len l
    omega
  subst hn
  rcases own_shape h with ⟨rfl, h0⟩ | ⟨g, cap, rfl, hc, hg⟩
  · obtain rfl : l = [] := List.eq_nil_of_length_eq_zero h0
    exact ⟨none, 0, rfl, Nat.le_refl _, by simp, fun h => absurd rfl h⟩
  · refine ⟨_, cap, rfl, hc, hf, fun _ => ⟨g, 0, rfl, hg, fun i x hi j z hj => ?_⟩⟩
    show w.cell? ⟨g, 0 + i * 3 + j, none⟩ = some z
    rw [Nat.zero_add]
    exact own_cell h (wds_get hi hj)
/-- All cells of readable items, one by one. -/
theorem WdsRO.cells {w : World} {v : Value} {l : List Wd} (hv : WdsRO w v l) : ∃ ad cap, v = .slice ad l.length cap ∧ (ad = none → l = []) ∧ ∀ p, ad = some p → ∀ j u, (wds l)[j]? = some u → w.cell? (p.add j) = some u := by
  obtain ⟨ad, cap, rfl, _, _, h⟩ := hv
  refine ⟨ad, cap, rfl, fun e => ?_, fun p hp j u hj => ?_⟩
  · refine Classical.byContradiction fun hl => ?_
    obtain ⟨b, o, e2, _⟩ := h hl
    rw [e] at e2
    cases e2
  · by_cases hl : l = []
    · subst hl; simp [wds] at hj
    · obtain ⟨b, o, e2, _, h4⟩ := h hl
      rw [hp] at e2
      obtain rfl := Option.some.inj e2
      have hlt := (List.getElem?_eq_some_iff.1 hj).1
      rw [wds_len] at hlt
      obtain ⟨x, hx⟩ : ∃ x, l[j / 3]? = some x := ⟨_, List.getElem?_eq_getElem (by omega)⟩
      have hm : j % 3 < (wdC x).toList.length := by show j % 3 < 3; omega
      have hj2 := wds_get hx (List.getElem?_eq_getElem hm)
      rw [show j / 3 * 3 + j % 3 = j by omega, hj] at hj2
      rw [Addr.add_lit]
      have := h4 (j / 3) x hx (j % 3) u ((List.getElem?_eq_getElem hm).trans hj2.symm)
      rw [show o + j / 3 * 3 + j % 3 = o + j by omega] at this
      exact this

theorem row_wds {w : World} {base g n cap : Nat} {L : List Wd} {e : TypeId} (h : w.ownsRow base e 3 (.slice (some ⟨g, 0, none⟩) n cap) n (wds L)) {j : Nat} {x : Wd} (hx : L[j]? = some x) :
    w.cell? ⟨g, j * 3, none⟩ = some (textV x.key) ∧ w.cell? ⟨g, j * 3 + 1, none⟩ = some (.int .i64 x.frm) ∧ w.cell? ⟨g, j * 3 + 2, none⟩ = some (.int .i64 x.to) :=
  ⟨own_cell h (wds_get (j := 0) hx rfl), own_cell h (wds_get (j := 1) hx rfl), own_cell h (wds_get (j := 2) hx rfl)⟩
end Go.Proofs.YtiglgfonhdfpmaaGreat

/- strings.Compare and cmp.Compare at int as the library's shelf lays them at this program (the text was written by the kit's lay-shelf.mjs and lay-plain.mjs). -/
set_option linter.unusedVariables false
set_option linter.unusedSimpArgs false
namespace Go.Proofs.YtiglgfonhdfpmaaGreat
open Go.Shelf
def scmpRen : Go.Shelf.Ren := ⟨fun | 106 => 144 | 213 => 200 | 265 => 257 | n => n, fun | 9 => 9 | 3 => 3 | n => n, fun | n => n⟩
theorem scmpLays : Go.Proofs.Lays.n106 Tryz.prog scmpRen := {
  mixed := by kernel_rfl
  f106 := Tryz.func144.trans (congrArg some (by kernel_rfl))
  f213 := Tryz.func200.trans (congrArg some (by kernel_rfl))
  f265 := Tryz.func257.trans (congrArg some (by kernel_rfl))
  t3 := Tryz.underlying3
  a3 := Tryz.isAgg3
  z3 := Tryz.sizeOf3
  v3 := Tryz.zeroValue3
  t9 := Tryz.underlying9
  a9 := Tryz.isAgg9
  z9 := Tryz.sizeOf9
  v9 := Tryz.zeroValue9 }
def icmpRen : Go.Shelf.Ren := ⟨fun | 122 => 145 | 215 => 201 | n => n, fun | 3 => 3 | 4 => 4 | n => n, fun | n => n⟩
theorem icmpLays : Go.Proofs.Lays.n122 Tryz.prog icmpRen := {
  mixed := by kernel_rfl
  f122 := Tryz.func145.trans (congrArg some (by kernel_rfl))
  f215 := Tryz.func201.trans (congrArg some (by kernel_rfl))
  t3 := Tryz.underlying3
  a3 := Tryz.isAgg3
  z3 := Tryz.sizeOf3
  v3 := Tryz.zeroValue3
  t4 := Tryz.underlying4
  a4 := Tryz.isAgg4
  z4 := Tryz.sizeOf4
  v4 := Tryz.zeroValue4 }
open Go.RowKit in
theorem strings_Compare (a b : ByteArray) (w : World) :
    Calls Tryz.prog 144 #[.string a, .string b] w fun e w' => e = .returned (.int .i64 (Lib.compareBytes a.data.toList b.data.toList)) ∧ w' = w := Any.strings_Compare scmpLays a b w
open Go.RowKit in
theorem cmp_Compare_int (x y : Int) (w : World) :
    Calls Tryz.prog 145 #[.int .i64 x, .int .i64 y] w fun e w' => e = .returned (.int .i64 (Lib.compareInt x y)) ∧ w' = w := Any.cmp_Compare_int icmpLays x y w
end Go.Proofs.YtiglgfonhdfpmaaGreat

/- The document's Marks: what a clock gives, time by time. Conditions: so many times. -/
set_option linter.unusedVariables false
set_option linter.unusedSimpArgs false
namespace Go.Proofs.YtiglgfonhdfpmaaGreat
open Go.RowKit

theorem Tryz.info3 : (Tryz.prog.info? 3).map (fun i => (i.zero, i.size, i.bytes)) = some (some (.int .i64 0), 1, 8) := by kernel_rfl
def IntsRO (w : World) (v : Value) (l : List Int) : Prop :=
  ∃ ad cap, v = .slice ad l.length cap ∧ l.length ≤ cap ∧ (∀ x ∈ l, -9223372036854775808 ≤ x ∧ x ≤ 9223372036854775807) ∧ (l ≠ [] → ∃ b o, ad = some ⟨b, o, none⟩ ∧ b < w.heap.size ∧ ∀ i x, l[i]? = some x → w.cell? ⟨b, o + i, none⟩ = some (.int .i64 x))
theorem IntsRO.later {w w' : World} {v : Value} {l : List Int} (hv : IntsRO w v l) (hk : Kept (fun _ => False) w w') : IntsRO w' v l := by
  obtain ⟨ad, cap, e1, e2, e3, e4⟩ := hv
  refine ⟨ad, cap, e1, e2, e3, fun hl => ?_⟩
  obtain ⟨b, o, g1, g2, g4⟩ := e4 hl
  exact ⟨b, o, g1, Nat.lt_of_lt_of_le g2 hk.size, fun i x hi => (World.cell?_of_block (w := w) (hk.block b g2 id)).trans (g4 i x hi)⟩
theorem ints_own {w : World} {v : Value} {n : Nat} {l : List Int} (h : w.ownsRow 0 3 1 v n (intCells l)) (hf : ∀ x ∈ l, -9223372036854775808 ≤ x ∧ x ≤ 9223372036854775807) : IntsRO w v l := by
  have hn : n = l.length := by have := h.1; simp [intCells] at this; omega
  subst hn
  rcases own_shape h with ⟨rfl, h0⟩ | ⟨g, cap, rfl, hc, hg⟩
  · obtain rfl : l = [] := List.eq_nil_of_length_eq_zero h0
    exact ⟨none, 0, rfl, Nat.le_refl _, by simp, fun h => absurd rfl h⟩
  · refine ⟨_, cap, rfl, hc, hf, fun _ => ⟨g, 0, rfl, hg, fun i x hi => ?_⟩⟩
    rw [Nat.zero_add]
    exact own_cell h (by simp [intCells, hi])
def Clk.run (c : Clk) (l : List Int) : Clk := l.foldl (fun c t => (c.see t).1) c
def Clk.mark (c : Clk) (t : Int) : Int := if (c.see t).2.2 = true then (c.see t).2.1 else -1
end Go.Proofs.YtiglgfonhdfpmaaGreat

/- The insertion sort at items by clock's order. Condition: times within bounds. -/
set_option linter.unusedVariables false
set_option linter.unusedSimpArgs false
namespace Go.Proofs.YtiglgfonhdfpmaaGreat
open Go.RowKit

section
attribute [local go_sem ↓] run_storeItm
end
end Go.Proofs.YtiglgfonhdfpmaaGreat

/- What came in, read by its type: integers, texts, structs, arrays, slices of these. Laws over any program. No condition of its own. -/
set_option linter.unusedVariables false
set_option linter.unusedSimpArgs false
namespace Go.Proofs.YtiglgfonhdfpmaaGreat
open Go.RowKit

/-- These cells read as a value of this type. -/
def R (P : Program) (w : World) (t : TypeId) (cs : List Value) : Prop :=
  ∃ (H : Type) (enc : TypeId × Value → H) (spare : Nat → Bool) (held : Bool) (fuel : Nat) (x : DataW H × List MemPlace), DataW.trod enc P w 0 spare held fuel t cs = some x

section
variable {P : Program} {w : World} {t e : TypeId} {cs : List Value}
theorem R.int {k : IntKind} (ht : P.underlying t = some (.int k)) (h : R P w t cs) : ∃ n, cs = [.int k n] ∧ (Lit.int k n).wf = true := by
  obtain ⟨H, enc, spare, held, fuel, x, h⟩ := h
  obtain ⟨n, h1, _, h2⟩ := DataW.trod_int ht h
  exact ⟨n, h1, h2⟩
theorem R.bool (ht : P.underlying t = some .bool) (h : R P w t cs) : ∃ b, cs = [.bool b] := by
  obtain ⟨H, enc, spare, held, fuel, x, h⟩ := h
  obtain ⟨n, h1, _⟩ := DataW.trod_bool ht h
  exact ⟨n, h1⟩
theorem R.text (ht : P.underlying t = some .string) (h : R P w t cs) : ∃ s : ByteArray, cs = [.string s] ∧ s.size ≤ maxLen := by
  obtain ⟨H, enc, spare, held, fuel, x, h⟩ := h
  obtain ⟨n, h1, _, h2⟩ := DataW.trod_string ht h
  exact ⟨n, h1, h2⟩
theorem R.struct {fs : Array Field} (ht : P.underlying t = some (.struct fs)) (h : R P w t cs) : cs.length = P.cellsOf t ∧ ∀ (i : Nat) (f : Field), fs[i]? = some f → R P w f.type ((cs.drop f.offset).take (P.cellsOf f.type)) := by
  obtain ⟨H, enc, spare, held, fuel, x, h⟩ := h
  obtain ⟨xs, n, rfl, rfl, h1, h2, h3⟩ := DataW.trod_struct ht h
  refine ⟨h1, fun i f hf => ?_⟩
  have hi : i < xs.length := by rw [h2]; exact (Array.getElem?_eq_some_iff.1 hf).1
  exact ⟨H, enc, spare, held, n, xs[i], by rw [h3 i f hf, List.getElem?_eq_getElem hi]⟩
theorem cells_range {b o n : Nat} {cs' : List Value} (h : w.cells? 0 ⟨b, o, none⟩ n = some cs') : cs'.length = n ∧ w.rangeAt b o cs' := by
  obtain ⟨_, h1, h2⟩ := World.cells?_some h
  refine ⟨h1, fun j v hj => ?_⟩
  have hjl : j < n := by rw [← h1]; exact (List.getElem?_eq_some_iff.1 hj).1
  have := h2 j hjl
  rw [Addr.add_mid] at this
  rw [this, hj]
theorem R.slice {size : Nat} (ht : P.underlying t = some (.slice e)) (hs : P.cellsOf e = size) (hp : 0 < size) (h : R P w t cs) :
    ∃ ao len cap, cs = [.slice ao len cap] ∧ len ≤ cap ∧ cap ≤ maxLen ∧ (0 < len → ∃ b o, ao = some ⟨b, o, none⟩ ∧ b < w.heap.size ∧ ∀ i, i < len → ∃ cs', cs'.length = size ∧ w.rangeAt b (o + i * size) cs' ∧ R P w e cs') := by
  obtain ⟨H, enc, spare, held, fuel, x, h⟩ := h
  rcases DataW.trod_slice ht h with ⟨h0, _⟩ | ⟨a, len, cap, elems, rest, n, rfl, hcs, _, hb, hl, hm, hlen, hel, _⟩
  · exact ⟨none, 0, 0, h0, by omega, by simp, fun h => absurd h (by omega)⟩
  · refine ⟨some a, len, cap, hcs, hl, hm, fun h0 => ?_⟩
    obtain ⟨b, o, spot⟩ := a
    have hspot : spot = none := by
      have h1 := hel 0 h0
      rw [List.getElem?_eq_getElem (by omega)] at h1
      obtain ⟨cs', hc, _⟩ := Option.bind_eq_some_iff.1 h1
      rw [hs] at hc
      obtain ⟨_, g1, g2⟩ := World.cells?_some hc
      have g3 := g2 0 hp
      rw [List.getElem?_eq_getElem (by omega)] at g3
      have := World.cell?_spot g3
      simpa [Addr.add] using this
    subst hspot
    have hall : ∀ i, i < len → ∃ cs', cs'.length = size ∧ w.rangeAt b (o + i * size) cs' ∧ R P w e cs' := by
      intro i hi
      have h1 := hel i hi
      rw [List.getElem?_eq_getElem (by omega)] at h1
      obtain ⟨cs', hc, hx⟩ := Option.bind_eq_some_iff.1 h1
      rw [hs, Addr.add_mid] at hc
      obtain ⟨g1, g2⟩ := cells_range hc
      exact ⟨cs', g1, g2, H, enc, spare, held, n, _, hx⟩
    obtain ⟨cs', g1, g2, _⟩ := hall 0 h0
    refine ⟨b, o, rfl, ?_, hall⟩
    have := g2 0 _ (List.getElem?_eq_getElem (by omega))
    exact World.block_lt_of_cell? _ _ this
end

end Go.Proofs.YtiglgfonhdfpmaaGreat

/- What came in, as plain lists: bytes, bools, integers. Laws over any program. No condition of its own. -/
set_option linter.unusedVariables false
set_option linter.unusedSimpArgs false
namespace Go.Proofs.YtiglgfonhdfpmaaGreat
open Go.RowKit

theorem list_of {α : Type} {p : Nat → α → Prop} : ∀ n, (∀ i, i < n → ∃ x, p i x) → ∃ l : List α, l.length = n ∧ ∀ i x, l[i]? = some x → p i x
  | 0, _ => ⟨[], rfl, fun i x h => by simp at h⟩
  | n + 1, h => by
    obtain ⟨l, h1, h2⟩ := list_of n (fun i hi => h i (by omega))
    obtain ⟨x, hx⟩ := h n (by omega)
    refine ⟨l ++ [x], by simp [h1], fun i y hi => ?_⟩
    by_cases hq : i < n
    · rw [List.getElem?_append_left (by omega)] at hi
      exact h2 i y hi
    · have hlt := (List.getElem?_eq_some_iff.1 hi).1
      simp [h1] at hlt
      obtain rfl : i = n := by omega
      rw [List.getElem?_append_right (by omega)] at hi
      simp [h1] at hi
      subst hi
      exact hx
theorem max_len : maxLen ≤ 9223372036854775807 := by simp [maxLen]

section
variable {P : Program} {w : World} {t e : TypeId} {cs : List Value}
/-- A slice whose elements each read as something. -/
theorem R.list {α : Type} {p : List Value → α → Prop} {size : Nat} (ht : P.underlying t = some (.slice e)) (hs : P.cellsOf e = size) (hp : 0 < size) (hr : ∀ cs', R P w e cs' → ∃ x, p cs' x) (h : R P w t cs) :
    ∃ ao cap, ∃ l : List α, cs = [.slice ao l.length cap] ∧ l.length ≤ cap ∧ l.length ≤ 9223372036854775807 ∧
      (l ≠ [] → ∃ b o, ao = some ⟨b, o, none⟩ ∧ b < w.heap.size ∧ ∀ i x, l[i]? = some x → ∃ cs', cs'.length = size ∧ w.rangeAt b (o + i * size) cs' ∧ p cs' x) := by
  obtain ⟨ao, len, cap, rfl, h1, h2, h3⟩ := R.slice ht hs hp h
  have hm := max_len
  by_cases h0 : len = 0
  · subst h0
    exact ⟨ao, cap, [], rfl, by simp, by simp, fun h => absurd rfl h⟩
  · obtain ⟨b, o, rfl, hb, hc⟩ := h3 (by omega)
    obtain ⟨l, hl, hx⟩ := list_of (p := fun i x => ∃ cs', cs'.length = size ∧ w.rangeAt b (o + i * size) cs' ∧ p cs' x) len (fun i hi => by
      obtain ⟨cs', g1, g2, g3⟩ := hc i hi
      obtain ⟨x, hx⟩ := hr cs' g3
      exact ⟨x, cs', g1, g2, hx⟩)
    exact ⟨_, cap, l, by rw [hl], by omega, by omega, fun _ => ⟨b, o, rfl, hb, hx⟩⟩
theorem R.bytes (ht : P.underlying t = some (.slice e)) (he : P.underlying e = some (.int .u8)) (hs : P.cellsOf e = 1) (h : R P w t cs) :
    ∃ v l, cs = [v] ∧ BytesRO (fun _ => False) w v l ∧ l.length ≤ 9223372036854775807 := by
  obtain ⟨ao, cap, l, rfl, h1, h2, h3⟩ := R.list (p := fun cs (x : UInt8) => cs = [bv x]) ht hs (by omega) (fun cs' h => by
    obtain ⟨n, rfl, hw⟩ := R.int he h
    simp only [Lit.wf, Bool.and_eq_true, decide_eq_true_eq] at hw
    have e1 : IntKind.u8.min = 0 := rfl
    have e2 : IntKind.u8.max = 255 := rfl
    refine ⟨UInt8.ofNat n.toNat, ?_⟩
    have : (UInt8.ofNat n.toNat).toNat = n.toNat := by simp [UInt8.toNat_ofNat']; omega
    simp only [bv, this]
    rw [Int.toNat_of_nonneg (by omega)]) h
  refine ⟨_, l, rfl, ⟨ao, cap, rfl, h1, fun hl => ?_⟩, h2⟩
  obtain ⟨b, o, rfl, hb, hc⟩ := h3 hl
  refine ⟨b, o, rfl, hb, id, fun i hi => ?_⟩
  obtain ⟨cs', _, g2, rfl⟩ := hc i l[i] (List.getElem?_eq_getElem hi)
  have := g2 0 _ rfl
  simpa using this
/-- A field of a struct. -/
theorem R.field {fs : Array Field} (ht : P.underlying t = some (.struct fs)) (h : R P w t cs) (i : Nat) {f : Field} (hf : fs[i]? = some f) {o n : Nat} {e : TypeId} (ho : f.offset = o) (he : f.type = e) (hn : P.cellsOf e = n) :
    R P w e ((cs.drop o).take n) := by
  subst ho he hn
  exact (R.struct ht h).2 i f hf
end

end Go.Proofs.YtiglgfonhdfpmaaGreat

/- What came in, read by its type, within a bound of its bulk: texts, structs, arrays, slices. Plain laws over any program. -/
set_option linter.unusedVariables false
set_option linter.unusedSimpArgs false
namespace Go.Proofs.YtiglgfonhdfpmaaGreat
open Go.RowKit

def RB (P : Program) (w : World) (t : TypeId) (cs : List Value) (N : Nat) : Prop :=
  ∃ (H : Type) (enc : TypeId × Value → H) (spare : Nat → Bool) (held : Bool) (fuel : Nat) (x : DataW H × List MemPlace), DataW.trod enc P w 0 spare held fuel t cs = some x ∧ Rows.uptoBulk x.1 ≤ N
theorem RB.all {P : Program} {w : World} {t : TypeId} {cs : List Value} {N : Nat} (h : RB P w t cs N) : R P w t cs := by
  obtain ⟨H, enc, spare, held, fuel, x, h, _⟩ := h
  exact ⟨H, enc, spare, held, fuel, x, h⟩
theorem bulk_pos {H : Type} : ∀ d : DataW H, 1 ≤ Rows.uptoBulk d
  | .lit l => by cases l <;> simp [Rows.uptoBulk]
  | .nil => by simp [Rows.uptoBulk]
  | .ptr d => by simp [Rows.uptoBulk]
  | .slice _ _ => by simp [Rows.uptoBulk]
  | .agg _ => by simp [Rows.uptoBulk]
  | .iface _ _ => by simp [Rows.uptoBulk]
  | .map _ => by simp [Rows.uptoBulk]
  | .held _ => by simp [Rows.uptoBulk]
theorem bulk_in {H : Type} {d : DataW H} : ∀ {l : List (DataW H)}, d ∈ l → Rows.uptoBulk d ≤ Rows.uptoBulkAll l
  | x :: r, h => by
    simp only [Rows.uptoBulkAll]
    rcases List.mem_cons.1 h with rfl | h
    · omega
    · have := bulk_in h; omega
theorem bulk_len {H : Type} : ∀ l : List (DataW H), l.length ≤ Rows.uptoBulkAll l
  | [] => by simp [Rows.uptoBulkAll]
  | x :: r => by
    have := bulk_len r
    have := bulk_pos x
    simp only [Rows.uptoBulkAll, List.length_cons]
    omega

section
variable {P : Program} {w : World} {t e : TypeId} {cs : List Value} {N : Nat}
theorem RB.int {k : IntKind} (ht : P.underlying t = some (.int k)) (h : RB P w t cs N) : ∃ n, cs = [.int k n] ∧ (Lit.int k n).wf = true := h.all.int ht
theorem RB.bool (ht : P.underlying t = some .bool) (h : RB P w t cs N) : ∃ b, cs = [.bool b] := h.all.bool ht
theorem RB.text (ht : P.underlying t = some .string) (h : RB P w t cs N) : ∃ s : ByteArray, cs = [.string s] ∧ s.size ≤ N := by
  obtain ⟨H, enc, spare, held, fuel, x, h, hb⟩ := h
  obtain ⟨s, e, rfl, _⟩ := DataW.trod_string ht h
  simp only [Rows.uptoBulk] at hb
  have : s.data.toList.length = s.size := Array.length_toList
  exact ⟨s, e, by omega⟩
theorem RB.struct {fs : Array Field} (ht : P.underlying t = some (.struct fs)) (h : RB P w t cs N) : cs.length = P.cellsOf t ∧ ∀ (i : Nat) (f : Field), fs[i]? = some f → RB P w f.type ((cs.drop f.offset).take (P.cellsOf f.type)) N := by
  obtain ⟨H, enc, spare, held, fuel, x, h, hb⟩ := h
  obtain ⟨xs, n, rfl, hx, h1, h2, h3⟩ := DataW.trod_struct ht h
  refine ⟨h1, fun i f hf => ?_⟩
  have hi : i < xs.length := by rw [h2]; exact (Array.getElem?_eq_some_iff.1 hf).1
  refine ⟨H, enc, spare, held, n, xs[i], by rw [h3 i f hf, List.getElem?_eq_getElem hi], ?_⟩
  have hmem : xs[i].1 ∈ xs.map (fun x => x.fst) := List.mem_map_of_mem (List.getElem_mem _)
  have hle := bulk_in hmem
  rw [hx] at hb
  simp only [Rows.uptoBulk] at hb
  omega
theorem RB.field {fs : Array Field} (ht : P.underlying t = some (.struct fs)) (h : RB P w t cs N) (i : Nat) {f : Field} (hf : fs[i]? = some f) {o n : Nat} {e : TypeId} (ho : f.offset = o) (he : f.type = e) (hn : P.cellsOf e = n) :
    RB P w e ((cs.drop o).take n) N := by
  subst ho he hn
  exact (RB.struct ht h).2 i f hf
theorem RB.slice {size : Nat} (ht : P.underlying t = some (.slice e)) (hs : P.cellsOf e = size) (hp : 0 < size) (h : RB P w t cs N) :
    ∃ ao len cap, cs = [.slice ao len cap] ∧ len ≤ cap ∧ len ≤ N ∧ (0 < len → ∃ b o, ao = some ⟨b, o, none⟩ ∧ b < w.heap.size ∧ ∀ i, i < len → ∃ cs', cs'.length = size ∧ w.rangeAt b (o + i * size) cs' ∧ RB P w e cs' N) := by
  obtain ⟨H, enc, spare, held, fuel, x, h, hbk⟩ := h
  rcases DataW.trod_slice ht h with ⟨h0, _⟩ | ⟨a, len, cap, elems, rest, n, rfl, hcs, hx0, hb, hl, hm, hlen, hel, _⟩
  · exact ⟨none, 0, 0, h0, by omega, by simp, fun h => absurd h (by omega)⟩
  · have hbl := bulk_len (elems.map (fun x => x.fst))
    rw [List.length_map] at hbl
    rw [hx0] at hbk
    simp only [Rows.uptoBulk] at hbk
    refine ⟨some a, len, cap, hcs, hl, by omega, fun h0 => ?_⟩
    obtain ⟨b, o, spot⟩ := a
    have hspot : spot = none := by
      have h1 := hel 0 h0
      rw [List.getElem?_eq_getElem (by omega)] at h1
      obtain ⟨cs', hc, _⟩ := Option.bind_eq_some_iff.1 h1
      rw [hs] at hc
      obtain ⟨_, g1, g2⟩ := World.cells?_some hc
      have g3 := g2 0 hp
      rw [List.getElem?_eq_getElem (by omega)] at g3
      have := World.cell?_spot g3
      simpa [Addr.add] using this
    subst hspot
    have hall : ∀ i, i < len → ∃ cs', cs'.length = size ∧ w.rangeAt b (o + i * size) cs' ∧ RB P w e cs' N := by
      intro i hi
      have h1 := hel i hi
      rw [List.getElem?_eq_getElem (by omega)] at h1
      obtain ⟨cs', hc, hx⟩ := Option.bind_eq_some_iff.1 h1
      rw [hs, Addr.add_mid] at hc
      obtain ⟨g1, g2⟩ := cells_range hc
      refine ⟨cs', g1, g2, H, enc, spare, held, n, _, hx, ?_⟩
      have hmem : (elems[i]'(by omega)).1 ∈ elems.map (fun x => x.fst) := List.mem_map_of_mem (List.getElem_mem _)
      have hle := bulk_in hmem
      omega
    obtain ⟨cs', g1, g2, _⟩ := hall 0 h0
    refine ⟨b, o, rfl, ?_, hall⟩
    have := g2 0 _ (List.getElem?_eq_getElem (by omega))
    exact World.block_lt_of_cell? _ _ this
/-- A slice whose elements each read as something. -/
theorem RB.list {α : Type} {p : List Value → α → Prop} {size : Nat} (ht : P.underlying t = some (.slice e)) (hs : P.cellsOf e = size) (hp : 0 < size) (hr : ∀ cs', RB P w e cs' N → ∃ x, p cs' x) (h : RB P w t cs N) :
    ∃ ao cap, ∃ l : List α, cs = [.slice ao l.length cap] ∧ l.length ≤ cap ∧ l.length ≤ N ∧
      (l ≠ [] → ∃ b o, ao = some ⟨b, o, none⟩ ∧ b < w.heap.size ∧ ∀ i x, l[i]? = some x → ∃ cs', cs'.length = size ∧ w.rangeAt b (o + i * size) cs' ∧ p cs' x) := by
  obtain ⟨ao, len, cap, rfl, h1, h2, h3⟩ := RB.slice ht hs hp h
  by_cases h0 : len = 0
  · subst h0
    exact ⟨ao, cap, [], rfl, by simp, by simp, fun h => absurd rfl h⟩
  · obtain ⟨b, o, rfl, hb, hc⟩ := h3 (by omega)
    obtain ⟨l, hl, hx⟩ := list_of (p := fun i x => ∃ cs', cs'.length = size ∧ w.rangeAt b (o + i * size) cs' ∧ p cs' x) len (fun i hi => by
      obtain ⟨cs', g1, g2, g3⟩ := hc i hi
      obtain ⟨x, hx⟩ := hr cs' g3
      exact ⟨x, cs', g1, g2, hx⟩)
    exact ⟨_, cap, l, by rw [hl], by omega, by omega, fun _ => ⟨b, o, rfl, hb, hx⟩⟩
theorem int_bounds {n : Int} (h : (Lit.int .i64 n).wf = true) : -9223372036854775808 ≤ n ∧ n ≤ 9223372036854775807 := by
  simp only [Lit.wf, Bool.and_eq_true, decide_eq_true_eq] at h
  simp [IntKind.min, IntKind.max, IntKind.signed, IntKind.bits] at h
  exact h
end

end Go.Proofs.YtiglgfonhdfpmaaGreat

/- The document's Events, how great items are, are they the same, and how they come in (LX; turned from IdxP, IdxK, IdxUp). -/
set_option linter.unusedVariables false
set_option linter.unusedSimpArgs false
namespace Go.Proofs.YtiglgfonhdfpmaaGreat
open Go.RowKit


def wt5 (l : List Itm) : Nat := (l.map fun x => 10 + x.key.length).sum
theorem wt5_snoc (l : List Itm) (x : Itm) : wt5 (l ++ [x]) = wt5 l + (10 + x.key.length) := by simp [wt5]
theorem wt5_take (l : List Itm) : ∀ i, wt5 (l.take i) ≤ wt5 l := fun i => by
  have : wt5 l = wt5 (l.take i) + wt5 (l.drop i) := by
    conv => lhs; rw [← List.take_append_drop i l]
    simp only [wt5, List.map_append, List.sum_append]
  omega
set_option maxHeartbeats 1000000 in
theorem great5 {v : Value} {l : List Itm} (w : World) (hv : ItmsRO w v l) (hs : wt5 l ≤ 4611686018427387904) (hll : l.length ≤ 9223372036854775807) :
    Calls Tryz.prog 20 #[v] w fun e w' => e = .returned (.int .i64 (wt5 l)) ∧ Below w.heap.size w w' := by
  obtain ⟨ao, cap, rfl, hcap, hfit, hcell⟩ := hv
  have H0 : St (fun _ => False) w w [] := St.nil (fun _ => False) w
  go_enter Tryz.func20, Tryz.ntmps20
  go_upto_block 1 with (fail)
  go_loopw [3, 8] (fun n j wr => ∃ (i : Nat), i ≤ l.length ∧ n = .int .i64 (wt5 (l.take i)) ∧ j = .int .i64 i ∧ St (fun _ => False) w wr []) (fun _ j _ => l.length - (intOf j).toNat)
  case atStart => exact ⟨0, by omega, rfl, rfl, H0⟩
  case round =>
    clear H0
    obtain ⟨i, hi, rfl, rfl, HL⟩ := hrel
    by_cases hlt : i < l.length
    · obtain ⟨b, o, rfl, hb, hc⟩ := hcell (by rintro rfl; simp at hlt)
      obtain ⟨x, hx⟩ : ∃ x, l[i]? = some x := ⟨_, List.getElem?_eq_getElem hlt⟩
      have hn : wt5 (l.take (i + 1)) = wt5 (l.take i) + (10 + x.key.length) := by rw [take_snoc' hx, wt5_snoc]
      have hle := wt5_take l (i + 1)
      obtain ⟨q0, q1, q2, q3⟩ := itm_cells (hc i x hx) (HL.kept.block b hb id)
      obtain ⟨T, hT⟩ : ∃ T, wt5 (l.take i) = T := ⟨_, rfl⟩
      rw [hT] at hn
      rw [hn] at hle
      have hnh := Lib.hid hn
      try rw [hT]
      clear hn hx hc hcell hT hfit
      obtain ⟨k, key, t, v⟩ := x
      simp only at q0 q1 q2 q3 hle hnh
      unfold textV at q1
      have hsz : ((key.toArray).size : Int) = key.length := by simp
      have hw1 : IntKind.i64.wrap (10 + (key.length : Int)) = ((10 + key.length : Nat) : Int) := by rw [IntKind.wrap_i64]; omega
      have hw2 : IntKind.i64.wrap ((T : Int) + ((10 + key.length : Nat) : Int)) = ((T + (10 + key.length) : Nat) : Int) := by rw [IntKind.wrap_i64]; omega
      have HA : St (fun _ => False) w _ [_] := HL.allocAt rfl #[.int .i64 k, .string ⟨key.toArray⟩, .int .i64 t, .int .i64 v] 56
      go_upto_region 5 with (fail)
      obtain ⟨wa, hwa⟩ : ∃ wa, wr.alloc (.cells #[.int .i64 k, .string ⟨key.toArray⟩, .int .i64 t, .int .i64 v] 56) = wa := ⟨_, rfl⟩
      obtain ⟨ob, hob⟩ : ∃ ob, wr.heap.size = ob := ⟨_, rfl⟩
      rw [hwa, hob] at HA
      try rw [hwa]
      try simp only [hob]
      clear hwa hob q0 q1 q2 q3 HL
      have d1 := HA.cell 0 1 rfl rfl
      go_wp2
      go_roundw
      case rel =>
        refine ⟨i + 1, by omega, ?_, by go_num, HA.pick []⟩
        rw [hnh.out]
        first | rfl | (go_num; done) | skip
      case measure => simp [intOf]; omega
    · obtain rfl : i = l.length := by omega
      rw [List.take_length]
      go_wp2
      go_ret
      exact ⟨rfl, HL.below (Nat.le_refl _) (fun _ h => h.elim)⟩

theorem itm_read {w : World} {cs : List Value} {N : Nat} (hN : N ≤ 9223372036854775807) (h : RB Tryz.prog w 56 cs N) : ∃ x : Itm, cs = (itmC x).toList ∧ x.fits ∧ x.key.length ≤ N := by
  have hl : cs.length = 4 := (RB.struct Tryz.underlying56 h).1.trans (by kernel_rfl)
  obtain ⟨c0, c1, c2, c3, rfl⟩ : ∃ a b c d, cs = [a, b, c, d] := by
    match cs, hl with
    | [a, b, c, d], _ => exact ⟨a, b, c, d, rfl⟩
  have r0 : RB Tryz.prog w 3 [c0] N := RB.field Tryz.underlying56 h 0 rfl (o := 0) (n := 1) rfl rfl (by kernel_rfl)
  have r1 : RB Tryz.prog w 9 [c1] N := RB.field Tryz.underlying56 h 1 rfl (o := 1) (n := 1) rfl rfl (by kernel_rfl)
  have r2 : RB Tryz.prog w 3 [c2] N := RB.field Tryz.underlying56 h 2 rfl (o := 2) (n := 1) rfl rfl (by kernel_rfl)
  have r3 : RB Tryz.prog w 3 [c3] N := RB.field Tryz.underlying56 h 3 rfl (o := 3) (n := 1) rfl rfl (by kernel_rfl)
  obtain ⟨n0, e0, g0⟩ := r0.int Tryz.underlying3
  obtain ⟨s, e1, g1⟩ := r1.text Tryz.underlying9
  obtain ⟨n2, e2, g2⟩ := r2.int Tryz.underlying3
  obtain ⟨n3, e3, g3⟩ := r3.int Tryz.underlying3
  simp only [List.cons.injEq, and_true] at e0 e1 e2 e3
  subst e0 e1 e2 e3
  have hs : s.data.toList.length = s.size := Array.length_toList
  refine ⟨⟨n0, s.data.toList, n2, n3⟩, ?_, ⟨int_bounds g0, by simp only; omega, int_bounds g2, int_bounds g3⟩, by simp only; omega⟩
  cases s
  simp [textV]
theorem itms_read {w : World} {cs : List Value} {N : Nat} (hN : N ≤ 9223372036854775807) (h : RB Tryz.prog w 41 cs N) : ∃ v l, cs = [v] ∧ ItmsRO w v l ∧ l.length ≤ N ∧ ∀ x ∈ l, x.key.length ≤ N := by
  obtain ⟨ao, cap, l, rfl, h1, h2, h3⟩ := RB.list (p := fun cs (x : Itm) => cs = (itmC x).toList ∧ x.fits ∧ x.key.length ≤ N) Tryz.underlying41 (size := 4) (by kernel_rfl) (by omega) (fun cs' h => itm_read hN h) h
  have hx : ∀ x ∈ l, x.fits ∧ x.key.length ≤ N := fun x hx => by
    obtain ⟨b, o, _, _, hc⟩ := h3 (fun h => by subst h; cases hx)
    obtain ⟨i, hi⟩ := List.getElem?_of_mem hx
    obtain ⟨cs', _, _, _, g⟩ := hc i x hi
    exact g
  refine ⟨_, l, rfl, ⟨ao, cap, rfl, h1, fun x h => (hx x h).1, fun hl => ?_⟩, h2, fun x h => (hx x h).2⟩
  obtain ⟨b, o, rfl, hb, hc⟩ := h3 hl
  refine ⟨b, o, rfl, hb, fun i x hi => ?_⟩
  obtain ⟨cs', _, g2, rfl, _⟩ := hc i x hi
  exact g2
theorem wt5_le {N : Nat} : ∀ l : List Itm, (∀ x ∈ l, x.key.length ≤ N) → wt5 l ≤ l.length * (10 + N)
  | [], _ => by simp [wt5]
  | x :: l, h => by
    have h1 := wt5_le l (fun y hy => h y (List.mem_cons_of_mem _ hy))
    have h2 := h x List.mem_cons_self
    simp only [wt5, List.map_cons, List.sum_cons, List.length_cons, Nat.succ_mul] at h1 ⊢
    omega
end Go.Proofs.YtiglgfonhdfpmaaGreat
