/- The walk of look: what an index's seeker finds below a place. Condition: the levels lie where they can be read, and are not too many. -/
import Derived.Test.YtbikjhmdpgoofaaIdxD
namespace Go.Proofs.Ytbikjhmdpgoofaa
open Go.RowKit

/-- Levels that can be read, and stay so while outside S nothing turns. -/
def LvRO (S : Nat → Prop) (w : World) (v : Value) (lv : List (List Str)) : Prop :=
  ∃ ad cap, v = .slice ad lv.length cap ∧ (lv ≠ [] → ∃ b o, ad = some ⟨b, o, none⟩ ∧ b < w.heap.size ∧ ¬ S b ∧ ∀ k s, lv[k]? = some s → ∃ ad' cap', w.cell? ⟨b, o + k, none⟩ = some (.slice ad' s.length cap') ∧
    (s ≠ [] → ∃ b' o', ad' = some ⟨b', o', none⟩ ∧ b' < w.heap.size ∧ ¬ S b' ∧ ∀ i x, s[i]? = some x → w.rangeAt b' (o' + i * 4) (strC x).toList))
theorem LvRO.move {S : Nat → Prop} {w w' : World} {v : Value} {lv : List (List Str)} (h : LvRO S w v lv) (hk : Kept S w w') : LvRO S w' v lv := by
  obtain ⟨ad, cap, e1, e2⟩ := h
  refine ⟨ad, cap, e1, fun hl => ?_⟩
  obtain ⟨b, o, g1, g2, g3, g4⟩ := e2 hl
  refine ⟨b, o, g1, Nat.lt_of_lt_of_le g2 hk.size, g3, fun k s hs => ?_⟩
  obtain ⟨ad', cap', c1, c2⟩ := g4 k s hs
  refine ⟨ad', cap', (World.cell?_of_block (w := w) (hk.block b g2 g3)).trans c1, fun hn => ?_⟩
  obtain ⟨b', o', d1, d2, d3, d4⟩ := c2 hn
  exact ⟨b', o', d1, Nat.lt_of_lt_of_le d2 hk.size, d3, fun i x hi j v hj => (World.cell?_of_block (w := w) (hk.block b' d2 d3)).trans (d4 i x hi j v hj)⟩
theorem LvRO.lend {S S1 : Nat → Prop} {w w' : World} {v : Value} {lv : List (List Str)} (h : LvRO S w v lv) (hk : Kept S w w') (hs : ∀ k, S1 k → S k ∨ w.heap.size ≤ k) : LvRO S1 w' v lv := by
  obtain ⟨ad, cap, e1, e2⟩ := h
  have hn : ∀ b, b < w.heap.size → ¬ S b → ¬ S1 b := fun b h1 h2 h3 => (hs b h3).elim h2 (fun h => by omega)
  refine ⟨ad, cap, e1, fun hl => ?_⟩
  obtain ⟨b, o, g1, g2, g3, g4⟩ := e2 hl
  refine ⟨b, o, g1, Nat.lt_of_lt_of_le g2 hk.size, hn b g2 g3, fun k s hs => ?_⟩
  obtain ⟨ad', cap', c1, c2⟩ := g4 k s hs
  refine ⟨ad', cap', (World.cell?_of_block (w := w) (hk.block b g2 g3)).trans c1, fun hne => ?_⟩
  obtain ⟨b', o', d1, d2, d3, d4⟩ := c2 hne
  exact ⟨b', o', d1, Nat.lt_of_lt_of_le d2 hk.size, hn b' d2 d3, fun i x hi j v hj => (World.cell?_of_block (w := w) (hk.block b' d2 d3)).trans (d4 i x hi j v hj)⟩
def kidsS (f : Nat → List Str × Nat) : Nat → List Str × Nat
  | 0 => ([], 0)
  | n + 1 => ((kidsS f n).1 ++ (f n).1, (kidsS f n).2 + (f n).2)
def lookS (lv : List (List Str)) (width : Nat) (a b : Int) : Nat → Nat → List Str × Nat
  | 0, at' => match (lv.getD 0 [])[at']? with
    | none => ([], 0)
    | some x => if meetsS x a b then ([x], 1) else ([], 1)
  | k + 1, at' => match (lv.getD (k + 1) [])[at']? with
    | none => ([], 0)
    | some x => if meetsS x a b then ((kidsS (fun i => lookS lv width a b k (width * at' + i)) width).1, 1 + (kidsS (fun i => lookS lv width a b k (width * at' + i)) width).2) else ([], 1)
theorem kidsS_len {f : Nat → List Str × Nat} {A B : Nat} (h : ∀ i, (f i).1.length ≤ A ∧ (f i).2 ≤ B) : ∀ n, (kidsS f n).1.length ≤ n * A ∧ (kidsS f n).2 ≤ n * B
  | 0 => by simp [kidsS]
  | n + 1 => by
    have ih := kidsS_len h n
    have h1 := h n
    simp only [kidsS, List.length_append, Nat.succ_mul]
    omega
theorem lookS_len (lv : List (List Str)) {width : Nat} (hw : 2 ≤ width) (a b : Int) : ∀ k at', (lookS lv width a b k at').1.length ≤ width ^ k ∧ (lookS lv width a b k at').2 + 1 ≤ 2 * width ^ k
  | 0, at' => by
    rw [lookS]
    split
    · simp
    · split <;> simp
  | k + 1, at' => by
    have hp : 0 < width ^ k := Nat.pow_pos (by omega)
    rw [lookS, Nat.pow_succ]
    have hm : width ^ k * 2 ≤ width ^ k * width := Nat.mul_le_mul_left _ hw
    split
    · simp; omega
    · split
      · have ih := fun i => lookS_len lv hw a b k (width * at' + i)
        have h2 := kidsS_len (f := fun i => lookS lv width a b k (width * at' + i)) (A := width ^ k) (B := 2 * width ^ k - 1) (fun i => ⟨(ih i).1, by have := (ih i).2; omega⟩) width
        have e1 : width * (width ^ k) = width ^ k * width := Nat.mul_comm _ _
        have e2 : width * (2 * width ^ k - 1) = 2 * (width ^ k * width) - width := by
          rw [Nat.mul_sub, Nat.mul_one, ← Nat.mul_assoc, Nat.mul_comm width 2, Nat.mul_assoc, Nat.mul_comm width]
        simp only
        omega
      · simp; omega
abbrev seekC (width : Nat) (lvv : Value) (a b : Int) (looked : Nat) (ov : Value) : Array Value := #[.int .i64 width, lvv, .int .i64 a, .int .i64 b, .int .i64 looked, ov]
def SeekAt (p width : Nat) (lvv : Value) (a b : Int) (looked : Nat) (out : List Str) : SP := SP.ex fun ov : Value => SP.all [Blk p (seekC width lvv a b looked ov) 115, Row 76 4 ov out.length (strs out)]
theorem SeekAt.open {p width looked : Nat} {lvv : Value} {a b : Int} {out : List Str} {w0 w : World} {L : List SP} {S : Nat → Prop} (H : St S w0 w (SeekAt p width lvv a b looked out :: L)) : ∃ ov, St S w0 w (Blk p (seekC width lvv a b looked ov) 115 :: Row 76 4 ov out.length (strs out) :: L) := by
  obtain ⟨ov, h⟩ := St.ex_iff.1 H
  exact ⟨ov, St.all_iff.1 h⟩
theorem SeekAt.mk {p width looked : Nat} {lvv ov : Value} {a b : Int} {out : List Str} {w0 w : World} {L : List SP} {S : Nat → Prop} (H : St S w0 w (Blk p (seekC width lvv a b looked ov) 115 :: Row 76 4 ov out.length (strs out) :: L)) : St S w0 w (SeekAt p width lvv a b looked out :: L) :=
  St.ex_iff.2 ⟨ov, St.all_iff.2 H⟩

set_option maxHeartbeats 4000000 in
set_option maxRecDepth 100000 in
theorem idx_look {p width : Nat} {lvv : Value} {a b : Int} {lv : List (List Str)} (hw : 2 ≤ width ∧ width ≤ 64) (hlv : ∀ s ∈ lv, s.length ≤ 1000000) (hll : lv.length ≤ 1000000) : ∀ (level : Nat) (at' looked : Nat) (out : List Str) (w : World) (S : Nat → Prop),
    level < lv.length → at' ≤ 100000000 → out.length + width ^ level ≤ 1000000000000 → looked + 2 * width ^ level ≤ 1000000000000 → LvRO S w lvv lv → Sep w [SeekAt p width lvv a b looked out] S →
    Calls Try.prog 60 #[.pointer (some ⟨p, 0, none⟩), .int .i64 level, .int .i64 at'] w fun e w' => e = .returned (.tuple #[]) ∧ St S w w' [SeekAt p width lvv a b (looked + (lookS lv width a b level at').2) (out ++ (lookS lv width a b level at').1)] := by
  intro level
  induction level using Nat.strongRecOn with
  | _ level ih =>
    intro at' looked out w S hlev hat hol hlk hro H
    obtain ⟨ov, H1⟩ := SeekAt.open (St.refl H)
    obtain ⟨la, lcap, rfl, hlb⟩ := id hro
    obtain ⟨lb, lo, rfl, hb, hnS, hk⟩ := hlb (by rintro rfl; simp at hlev)
    obtain ⟨s, hs⟩ : ∃ s, lv[level]? = some s := ⟨_, List.getElem?_eq_getElem hlev⟩
    have hsl := hlv s (List.mem_of_getElem? hs)
    have hgd : lv.getD level [] = s := by rw [List.getD_eq_getElem?_getD, hs]; rfl
    obtain ⟨ad', cap', cc, hse⟩ := hk level s hs
    have kcell : ∀ w', Kept S w w' → w'.cell? ⟨lb, lo + level, none⟩ = some (.slice ad' s.length cap') := fun w' hk' => (World.cell?_of_block (w := w) (hk'.block lb hb hnS)).trans cc
    clear hk hlb
    obtain ⟨R, hR⟩ : ∃ R, lookS lv width a b level at' = R := ⟨_, rfl⟩
    rw [hR]
    have hRh := Lib.hid hR
    clear hR
    have c0 := H1.cell 0 0 rfl rfl
    have c1 := H1.cell 0 1 rfl rfl
    have c2 := H1.cell 0 2 rfl rfl
    have c3 := H1.cell 0 3 rfl rfl
    have c4 := H1.cell 0 4 rfl rfl
    have c5 := H1.cell 0 5 rfl rfl
    have f4 := H1.free 0 4 rfl
    have hlevI : (level : Int) < (lv.length : Int) := by omega
    go_enter Try.func60, Try.ntmps60
    by_cases hat2 : s.length ≤ at'
    · have z1 : decide ((s.length : Int) ≤ (at' : Int)) = true := by simp; omega
      have z1' : decide (s.length ≤ at') = true := by simpa using hat2
      have hR2 := Lib.hid (show R = ([], 0) by
        rw [← hRh.out]
        cases level with
        | zero => rw [lookS, hgd, List.getElem?_eq_none (by omega)]
        | succ k => rw [lookS, hgd, List.getElem?_eq_none (by omega)])
      clear hat2
      go_wp2
      try simp only [Exit.inBlock, Exit.then]
      refine bodyPost_ret (results_none rfl _ _ _) rfl ?_
      rw [hR2.out, List.append_nil]
      exact ⟨rfl, SeekAt.mk H1⟩
    · have z1 : decide ((s.length : Int) ≤ (at' : Int)) = false := by simp; omega
      have z1' : decide (s.length ≤ at') = false := by simpa using hat2
      have hlt : at' < s.length := by omega
      obtain ⟨x, hx⟩ : ∃ x, s[at']? = some x := ⟨_, List.getElem?_eq_getElem hlt⟩
      obtain ⟨sb, so, rfl, hsb, hsS, hsx⟩ := hse (by rintro rfl; simp at hlt)
      have hxr := hsx at' x hx
      clear hat2
      have hpw : 0 < width ^ level := Nat.pow_pos (by omega)
      have hwl : IntKind.i64.wrap ((looked : Int) + 1) = (looked : Int) + 1 := by rw [IntKind.wrap_i64]; omega
      have H2 : St S w _ [Blk p (seekC width (.slice (some ⟨lb, lo, none⟩) lv.length lcap) a b (looked + 1) ov) 115, Row 76 4 ov out.length (strs out)] := H1.set 0 rfl 4 (.int .i64 ((looked + 1 : Nat) : Int))
      have hlc : ((looked + 1 : Nat) : Int) = (looked : Int) + 1 := by push_cast; rfl
      rw [hlc] at H2
      go_upto_region 2 with (fail)
      obtain ⟨w2, hw2⟩ : ∃ w2, w.setCell ⟨p, 4, none⟩ (.int .i64 ((looked : Int) + 1)) = w2 := ⟨_, rfl⟩
      rw [hw2] at H2
      try rw [hw2]
      clear hw2 c0 c1 c2 c3 c4 c5 f4 hlc H1
      have d0 := H2.cell 0 0 rfl rfl
      have d1 := H2.cell 0 1 rfl rfl
      have d2 := H2.cell 0 2 rfl rfl
      have d3 := H2.cell 0 3 rfl rfl
      have cc2 := kcell w2 H2.kept
      have hltI : (at' : Int) < (s.length : Int) := by omega
      obtain ⟨q0, q1, q2, q3⟩ := str_cells hxr (H2.kept.block sb hsb hsS)
      have km := fun w' => idx_meets x a b w'
      obtain ⟨mt, hmt⟩ : ∃ mt, meetsS x a b = mt := ⟨_, rfl⟩
      rw [hmt] at km
      have hR3 : R = if mt then (match level with | 0 => ([x], 1) | k + 1 => ((kidsS (fun i => lookS lv width a b k (width * at' + i)) width).1, 1 + (kidsS (fun i => lookS lv width a b k (width * at' + i)) width).2)) else ([], 1) := by
        rw [← hRh.out, ← hmt]
        cases level with
        | zero => rw [lookS, hgd, hx]
        | succ k => rw [lookS, hgd, hx]
      have hR4 := Lib.hid hR3
      clear hR3 hRh hmt hx hxr hsx hse cc
      obtain ⟨xf, xt, xl, xg⟩ := x
      simp only at q0 q1 q2 q3
      unfold strV at km
      simp only at km
      have HA : St S w _ [_, _, _] := H2.allocAt rfl #[.int .i64 xf, .int .i64 xt, .int .i64 xl, .int .i64 xg] 76
      go_upto_region 3 with (fail)
      obtain ⟨wa, hwa⟩ : ∃ wa, w2.alloc (.cells #[.int .i64 xf, .int .i64 xt, .int .i64 xl, .int .i64 xg] 76) = wa := ⟨_, rfl⟩
      obtain ⟨ob, hob⟩ : ∃ ob, w2.heap.size = ob := ⟨_, rfl⟩
      rw [hwa, hob] at HA
      try rw [hwa]
      try simp only [hob]
      clear hwa hob q0 q1 q2 q3 d0 d1 d2 d3 cc2 H2
      have HA : St S w wa [Blk ob #[.int .i64 xf, .int .i64 xt, .int .i64 xl, .int .i64 xg] 76, Blk p #[.int .i64 width, .slice (some ⟨lb, lo, none⟩) lv.length lcap, .int .i64 a, .int .i64 b, .int .i64 ((looked : Int) + 1), ov] 115, Row 76 4 ov out.length (strs out)] := HA
      refine wp_calm (fun w' => St S w w' [Blk ob #[.int .i64 xf, .int .i64 xt, .int .i64 xl, .int .i64 xg] 76, Blk p #[.int .i64 width, .slice (some ⟨lb, lo, none⟩) lv.length lcap, .int .i64 a, .int .i64 b, .int .i64 ((looked : Int) + 1), ov] 115, Row 76 4 ov out.length (strs out)]) (by kernel_rfl) (by kernel_rfl) (HA.drew) ?_
      iterate 11 first
        | (apply calm_pass
           · rfl
           intro K hK
           go_simp
           refine hK _ ?_
           clear hK K)
        | (apply calm_step
           · rfl
           · intro w1 h1
             have e0 := h1.cell 0 0 rfl rfl
             have e1 := h1.cell 0 1 rfl rfl
             have e2 := h1.cell 0 2 rfl rfl
             have e3 := h1.cell 0 3 rfl rfl
             have d2 := h1.cell 1 2 rfl rfl
             have d3 := h1.cell 1 3 rfl rfl
             first
               | (go_simp
                  first
                    | rfl
                    | exact ⟨rfl, h1⟩
                    | (go_at_call 38; with_reducible exact St.callPast (km w1) h1)
                 )
           intro K hK
           go_simp
           refine hK _ ?_
           clear hK K)
      refine calm_nil ?_
      intro w3 H3
      clear HA
      cases mt with
      | false =>
        have hR5 := Lib.hid (show R = ([], 1) from hR4.out)
        go_wp2
        try simp only [Exit.inBlock, Exit.then]
        refine bodyPost_ret (results_none rfl _ _ _) rfl ?_
        rw [hR5.out, List.append_nil]
        exact ⟨rfl, SeekAt.mk (St.tail H3)⟩
      | true =>
        simp only [Bool.not_true]
        by_cases hz : level = 0
        · subst hz
          have hR5 := Lib.hid (show R = ([⟨xf, xt, xl, xg⟩], 1) from hR4.out)
          clear hR4 ih
          have e0 := H3.cell 0 0 rfl rfl
          have e1 := H3.cell 0 1 rfl rfl
          have e2 := H3.cell 0 2 rfl rfl
          have e3 := H3.cell 0 3 rfl rfl
          have d5 := H3.cell 1 5 rfl rfl
          have p5 := H3.free 1 5 rfl
          have hpl := H3.blk_lt 1 rfl
          have hol2 := H3.blk_lt 0 rfl
          go_upto_region 5 with (fail)
          go_region_law (refine St.step_app (H3.skip _).drew 2 rfl rfl (.tmp 52) (.tmp 54) 67 rfl Try.underlying67 Try.info76 (by decide) rfl [.int .i64 xf, .int .i64 xt, .int .i64 xl, .int .i64 xg] rfl rfl (new_cells #[.int .i64 xf, .int .i64 xt, .int .i64 xl, .int .i64 xg] _) (by simp [Value.oneCell']) (by omega) (by omega) ?_; intro g cap2 w5 H5 hz5; have d5 := H5.cell 1 5 rfl rfl; have p5 := H5.free 1 5 rfl)
          all_goals
            have H6 := H5.set 1 rfl 5 (.slice (some ⟨g, 0, none⟩) (out.length + 1) cap2)
            go_wp2
            try simp only [Exit.inBlock, Exit.then]
            refine bodyPost_ret (results_none rfl _ _ _) rfl ?_
            rw [hR5.out]
            refine ⟨rfl, SeekAt.mk (ov := .slice (some ⟨g, 0, none⟩) (out.length + 1) cap2) ?_⟩
            simp only
            rw [strs_app, strs_one, List.length_append]
            exact St.tail H6
        · have y1 : ((level : Int) == 0) = false := by simp; omega
          obtain ⟨k, hk1⟩ : ∃ k, level = k + 1 := ⟨level - 1, by omega⟩
          have hR5 := Lib.hid (show R = ((kidsS (fun i => lookS lv width a b k (width * at' + i)) width).1, 1 + (kidsS (fun i => lookS lv width a b k (width * at' + i)) width).2) by have := hR4.out; rw [hk1] at this; exact this)
          have hlm : IntKind.i64.wrap ((level : Int) - 1) = (k : Int) := by rw [IntKind.wrap_i64]; omega
          have ihk := ih k (by omega)
          have hkl1 : k < lv.length := by omega
          rw [hk1] at hol hlk
          clear hR4
          obtain ⟨P, hP⟩ : ∃ P, width * at' = P := ⟨_, rfl⟩
          have hPb : P ≤ 64000000 := by rw [← hP]; exact Nat.le_trans (Nat.mul_le_mul hw.2 (show at' ≤ 1000000 by omega)) (by omega)
          have hPI : (width : Int) * (at' : Int) = (P : Int) := by rw [← hP]; push_cast; rfl
          rw [hP] at hR5
          obtain ⟨f, hf⟩ : ∃ f, (fun i => lookS lv width a b k (P + i)) = f := ⟨_, rfl⟩
          have hfi : ∀ i, f i = lookS lv width a b k (P + i) := fun i => by rw [← hf]
          have hkl := kidsS_len (f := f) (A := width ^ k) (B := 2 * width ^ k - 1) (fun i => by rw [hfi]; have := lookS_len lv hw.1 a b k (P + i); exact ⟨this.1, by omega⟩)
          rw [hf] at hR5
          have hwpI : IntKind.i64.wrap (P : Int) = P := by rw [IntKind.wrap_i64]; omega
          rw [Nat.pow_succ] at hol hlk
          clear hP hf hk1 hz ih hpw
          have HK : St S w w3 [SeekAt p width (.slice (some ⟨lb, lo, none⟩) lv.length lcap) a b (looked + 1 + (kidsS f 0).2) (out ++ (kidsS f 0).1)] := by
            rw [show kidsS f 0 = ([], 0) from rfl]
            rw [List.append_nil]
            exact SeekAt.mk (St.tail H3)
          have e0 := H3.cell 1 0 rfl rfl
          go_upto_block 1 with (fail)
          clear e0 H3
          go_loopw [62] (fun j wr => ∃ (i : Nat), i ≤ width ∧ j = .int .i64 i ∧ St S w wr [SeekAt p width (.slice (some ⟨lb, lo, none⟩) lv.length lcap) a b (looked + 1 + (kidsS f i).2) (out ++ (kidsS f i).1)]) (fun j _ => width - (intOf j).toNat)
          case atStart => exact ⟨0, by omega, rfl, HK⟩
          case round =>
            clear HK
            obtain ⟨i, hi, rfl, HL⟩ := hrel
            by_cases hiw : i < width
            · have hiI : decide ((i : Int) < (width : Int)) = true := by simp; omega
              obtain ⟨S1, h1, h2, _, h4⟩ := St.call2 (l1 := [_]) (l2 := []) HL
              obtain ⟨ov2, H5⟩ := SeekAt.open HL
              have e0 := H5.cell 0 0 rfl rfl
              have hwi : IntKind.i64.wrap ((P : Int) + (i : Int)) = (P : Int) + i := by rw [IntKind.wrap_i64]; omega
              have hki := hkl i
              have hb1 : i * width ^ k + width ^ k ≤ width ^ k * width := by
                have : (i + 1) * width ^ k ≤ width * width ^ k := Nat.mul_le_mul_right _ hiw
                rw [Nat.succ_mul, Nat.mul_comm width] at this
                exact this
              have hpk : 0 < width ^ k := Nat.pow_pos (by omega)
              have hb2 : i * (2 * width ^ k - 1) + 2 * width ^ k + 1 ≤ 2 * (width ^ k * width) := by
                obtain ⟨W, hW⟩ : ∃ W, width ^ k = W := ⟨_, rfl⟩
                rw [hW] at hb1 hpk ⊢
                have hz : W * 2 ≤ W * width := Nat.mul_le_mul_left _ hw.1
                obtain ⟨Z, hZ⟩ : ∃ Z, W * width = Z := ⟨_, rfl⟩
                rw [hZ] at hb1 hz ⊢
                rw [Nat.mul_sub, Nat.mul_one, show i * (2 * W) = 2 * (i * W) by rw [← Nat.mul_assoc, Nat.mul_comm i 2, Nat.mul_assoc]]
                obtain ⟨X, hX⟩ : ∃ X, i * W = X := ⟨_, rfl⟩
                rw [hX] at hb1 ⊢
                rcases Nat.eq_zero_or_pos i with h0 | h0
                · have : X = 0 := by rw [← hX, h0, Nat.zero_mul]
                  omega
                · have : i ≤ X := by rw [← hX]; exact Nat.le_mul_of_pos_right i hpk
                  omega
              have kc := ihk (P + i) (looked + 1 + (kidsS f i).2) (out ++ (kidsS f i).1) wr S1 hkl1 (by omega) (by rw [List.length_append]; omega) (by omega) (hro.lend HL.kept h2) h1
              rw [← hfi] at kc
              have hkc := Lib.hid (show kidsS f (i + 1) = ((kidsS f i).1 ++ (f i).1, (kidsS f i).2 + (f i).2) from rfl)
              have hcast : ((P + i : Nat) : Int) = (P : Int) + i := by push_cast; rfl
              rw [hcast] at kc
              clear hki hb1 hb2 hkl hpk H5
              go_wp2_with (go_at_call 60; go_must (refine kc.mono ?_; rintro e w5 ⟨rfl, H5⟩; have H6 := h4 _ _ H5))
              go_roundw
              case rel =>
                refine ⟨i + 1, by omega, by go_num, ?_⟩
                rw [hkc.out]
                simp only
                rw [← List.append_assoc, ← Nat.add_assoc]
                exact H6
              case measure => simp [intOf]; omega
            · obtain rfl : i = width := by omega
              go_wp2
              go_end0
              rw [hR5.out]
              simp only
              rw [show looked + (1 + (kidsS f i).2) = looked + 1 + (kidsS f i).2 by omega]
              exact ⟨by first | rfl | trivial, HL⟩

end Go.Proofs.Ytbikjhmdpgoofaa
