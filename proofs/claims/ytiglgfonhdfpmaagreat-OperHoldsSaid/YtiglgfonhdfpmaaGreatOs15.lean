import Derived.Test.YtiglgfonhdfpmaaGreatOs1
import Derived.Test.YtiglgfonhdfpmaaGreatOs2
import Derived.Test.YtiglgfonhdfpmaaGreatOs3
import Derived.Test.YtiglgfonhdfpmaaGreatOs4
import Derived.Test.YtiglgfonhdfpmaaGreatOs5
import Derived.Test.YtiglgfonhdfpmaaGreatOs10
import Derived.Test.YtiglgfonhdfpmaaGreatOs14
import Derived.Deep.CutBlock
import Derived.Lib.ItoaNum
import Derived.Lib.AtoiAll
import Derived.Lib.Split
import Derived.Lib.SplitLaws
import Derived.Lib.IndexLaws
import Derived.Lib.CountLaws
/- Runs, by law: a run over two lists is a run and another from its state on; what a run leaves. Plain laws. -/
set_option linter.unusedVariables false
set_option linter.unusedSimpArgs false
namespace Go.Proofs.YtiglgfonhdfpmaaGreat

theorem runs_shift (q : Qry) : ∀ (l : List Itm) (s : Stt) (o : List Ot) (n : Nat), runsM q l ⟨s, o, n, 0⟩ = ⟨(runsM q l ⟨s, [], 0, 0⟩).s, o ++ (runsM q l ⟨s, [], 0, 0⟩).outs, n + (runsM q l ⟨s, [], 0, 0⟩).n, (runsM q l ⟨s, [], 0, 0⟩).e⟩
  | [], s, o, n => by simp [runsM]
  | x :: l, s, o, n => by
    simp only [runsM]
    by_cases h : (stepM q s x).e = 0
    · rw [if_pos h, if_pos h, runs_shift q l _ (o ++ _) (n + 1), runs_shift q l _ ([] ++ _) (0 + 1)]
      simp [List.append_assoc, Nat.add_assoc]
    · rw [if_neg h, if_neg h]
      simp
theorem runs_app (q : Qry) : ∀ (a b : List Itm) (r : RunR), r.e = 0 → runsM q (a ++ b) r = if (runsM q a r).e = 0 then runsM q b (runsM q a r) else runsM q a r
  | [], b, r, h => by simp [runsM, h]
  | x :: a, b, r, h => by
    by_cases h1 : (stepM q r.s x).e = 0
    · have e1 : ∀ c, runsM q (x :: c) r = runsM q c ⟨(stepM q r.s x).s, r.outs ++ (stepM q r.s x).outs, r.n + 1, 0⟩ := fun c => by rw [runsM, if_pos h1]
      rw [List.cons_append, e1 (a ++ b), e1 a]
      exact runs_app q a b _ rfl
    · have e1 : ∀ c, runsM q (x :: c) r = ⟨r.s, r.outs, r.n, (stepM q r.s x).e⟩ := fun c => by rw [runsM, if_neg h1]
      rw [List.cons_append, e1 (a ++ b), e1 a]
      simp only
      rw [if_neg h1]
theorem runs_n (q : Qry) : ∀ (l : List Itm) (r : RunR), (runsM q l r).e = 0 → (runsM q l r).n = r.n + l.length
  | [], r, h => by simp [runsM]
  | x :: l, r, h => by
    rw [runsM] at h ⊢
    by_cases h1 : (stepM q r.s x).e = 0
    · rw [if_pos h1] at h ⊢
      rw [runs_n q l _ h]
      simp only [List.length_cons]
      omega
    · rw [if_neg h1] at h
      exact absurd h h1
theorem runs_le (q : Qry) : ∀ (l : List Itm) (r : RunR), (runsM q l r).n ≤ r.n + l.length
  | [], r => by simp [runsM]
  | x :: l, r => by
    rw [runsM]
    split
    · have := runs_le q l ⟨(stepM q r.s x).s, r.outs ++ (stepM q r.s x).outs, r.n + 1, 0⟩
      simp only [List.length_cons] at this ⊢
      omega
    · simp only; omega
/-- A run split at an item: that it stopped, or went on. -/
theorem runs_split (q : Qry) (a b : List Itm) (s : Stt) : runsM q (a ++ b) ⟨s, [], 0, 0⟩ = if (runsM q a ⟨s, [], 0, 0⟩).e = 0 then ⟨(runsM q b ⟨(runsM q a ⟨s, [], 0, 0⟩).s, [], 0, 0⟩).s, (runsM q a ⟨s, [], 0, 0⟩).outs ++ (runsM q b ⟨(runsM q a ⟨s, [], 0, 0⟩).s, [], 0, 0⟩).outs, a.length + (runsM q b ⟨(runsM q a ⟨s, [], 0, 0⟩).s, [], 0, 0⟩).n, (runsM q b ⟨(runsM q a ⟨s, [], 0, 0⟩).s, [], 0, 0⟩).e⟩ else runsM q a ⟨s, [], 0, 0⟩ := by
  rw [runs_app q a b _ rfl]
  by_cases h : (runsM q a ⟨s, [], 0, 0⟩).e = 0
  · rw [if_pos h, if_pos h]
    have hn := runs_n q a ⟨s, [], 0, 0⟩ h
    simp only [Nat.zero_add] at hn
    generalize runsM q a ⟨s, [], 0, 0⟩ = r at h hn ⊢
    obtain ⟨rs, ro, rn, re⟩ := r
    simp only at h hn ⊢
    subst h hn
    rw [runs_shift]
  · rw [if_neg h, if_neg h]

/-- What a run leaves: panes that may be; outs with few numbers, and not too many. -/
structure RunGood (q : Qry) (N : Nat) (r : RunR) : Prop where
  panes : GoodA q r.s.panes
  few : r.s.panes.length ≤ 256
  outs : r.outs.length ≤ 256 * N
  vals : ∀ o ∈ r.outs, o.value.length ≤ 8
theorem val_len {q : Qry} {g : Ag} (h : g.right q = true) : (valueM q g).length ≤ 8 := by
  obtain ⟨-, -, -, ht, -, -, -, -⟩ := right_nums h
  unfold valueM
  split
  · simp
  · split
    · simp
    · split
      · simp
      · split
        · exact ht
        · split <;> simp
theorem lay_vals {q : Qry} {mk : Int} {x : Wd} {old : Wd → Bool} {v : Int} {l : List Pn} {y : List Pn × List Ot} (hq : q.right = true) (hv : valB v = true) (hx : x.right = true) (h : GoodA q l) (hy : layM q mk x old v l = some y) : ∀ o ∈ y.2, o.value.length ≤ 8 := by
  have hg := lay_good hq hv hx h hy
  unfold layM at hy
  cases hs : gathM q x old l (Ag.zero, 0) with
  | none => rw [hs] at hy; cases hy
  | some s =>
    rw [hs] at hy
    simp only at hy
    cases hp : putM q mk x s.1 s.2 v with
    | none => rw [hp] at hy; cases hy
    | some z =>
      rw [hp] at hy
      simp only [Option.some.injEq] at hy
      rw [← hy] at hg ⊢
      have hz := (hg z.1 (with_mem.2 (.inl rfl))).1
      unfold putM at hp
      split at hp
      · cases hp
      · split at hp
        · split at hp
          · cases hp
          · simp only [Option.some.injEq] at hp
            subst hp
            intro o ho
            simp only [List.mem_singleton] at ho
            subst ho
            exact val_len hz
        · simp only [Option.some.injEq] at hp
          subst hp
          intro o ho
          simp at ho
theorem lays_vals {q : Qry} {mk v : Int} (hq : q.right = true) (hv : valB v = true) : ∀ {ws : List Wd} {s y : EvS}, (∀ x ∈ ws, x.right = true) → GoodA q s.panes → (∀ o ∈ s.outs, o.value.length ≤ 8) → laysM q mk v ws s = some y → ∀ o ∈ y.outs, o.value.length ≤ 8
  | [], s, y, _, h, ho, hy => by
    obtain rfl : s = y := by simpa [laysM] using hy
    exact ho
  | own :: r, s, y, hw, h, ho, hy => by
    rw [lays_cons] at hy
    split at hy
    · exact lays_vals hq hv (fun x hx => hw x (List.mem_cons_of_mem _ hx)) h ho hy
    · cases hl : layM q mk (becM q s.panes own) (oldM q own) v s.panes with
      | none => rw [hl] at hy; cases hy
      | some z =>
        rw [hl] at hy
        have hx := bec_right q (l := s.panes) (hw own (by simp))
        refine lays_vals hq hv (fun x hx => hw x (List.mem_cons_of_mem _ hx)) (s := ⟨z.1, s.outs ++ z.2, true⟩) (lay_good hq hv hx h hl) (fun o h1 => ?_) hy
        rcases List.mem_append.1 h1 with h1 | h1
        · exact ho o h1
        · exact lay_vals hq hv hx h hl o h1
theorem step_vals {q : Qry} {s : Stt} {x : Itm} : ∀ o ∈ (stepM q s x).outs, o.value.length ≤ 8 := by
  unfold stepM
  by_cases hr : (s.right q && x.right) = true
  · rw [if_pos hr]
    simp only [Bool.and_eq_true] at hr
    obtain ⟨h1, h2⟩ := hr
    have hg := right_good h1
    obtain ⟨hq, hmk, hlen, -, -, -⟩ := right_parts h1
    by_cases hk : x.kind = 2
    · rw [if_pos hk]
      simp only
      unfold markM
      split
      · simp
      · intro o ho
        obtain ⟨p, hp, rfl⟩ := List.mem_map.1 ho
        have := (sortC_perm (s.panes.filter (Pn.now x.time))).subset hp
        exact val_len (hg p (List.mem_filter.1 this).1).1
    · rw [if_neg hk]
      unfold eventM
      cases hl : laysM q s.mark x.value (winsOf q x.key x.time) ⟨s.panes, [], false⟩ with
      | none => simp
      | some y =>
        simp only
        have hv := lays_vals hq (right_val h2 hk) (fun z hz => (wins_right z hz).1) (s := ⟨s.panes, [], false⟩) hg (by simp) hl
        split
        · simp
        · split
          · exact hv
          · intro o ho
            rcases List.mem_append.1 ho with ho | ho
            · exact hv o ho
            · simp only [List.mem_singleton] at ho
              subst ho
              simp [lateO]
  · rw [if_neg hr]
    simp
theorem runs_good (q : Qry) : ∀ (l : List Itm) (r : RunR) (N : Nat), RunGood q N r → RunGood q (N + l.length) (runsM q l r)
  | [], r, N, h => by
    rw [runsM]
    exact h
  | x :: l, r, N, h => by
    rw [runsM]
    split
    · rename_i h1
      obtain ⟨-, -, h2, h3⟩ := step_good h1
      have h4 := step_outs q r.s x
      have := runs_good q l ⟨(stepM q r.s x).s, r.outs ++ (stepM q r.s x).outs, r.n + 1, 0⟩ (N + 1) ⟨h2, h3, by have := h.outs; simp only [List.length_append]; omega, fun o ho => by
        rcases List.mem_append.1 ho with ho | ho
        · exact h.vals o ho
        · exact step_vals o ho⟩
      rw [show N + (x :: l).length = N + 1 + l.length by simp only [List.length_cons]; omega]
      exact this
    · exact ⟨h.panes, h.few, by have := h.outs; simp only [List.length_cons]; omega, h.vals⟩
theorem runs_new (q : Qry) (l : List Itm) : RunGood q l.length (runsM q l ⟨stt0, [], 0, 0⟩) := by
  have := runs_good q l ⟨stt0, [], 0, 0⟩ 0 ⟨fun p hp => by simp [stt0] at hp, by simp [stt0], by simp, by simp⟩
  rwa [Nat.zero_add] at this
theorem runs_from (q : Qry) (l : List Itm) {s : Stt} (h : GoodA q s.panes) (hl : s.panes.length ≤ 256) : RunGood q l.length (runsM q l ⟨s, [], 0, 0⟩) := by
  have := runs_good q l ⟨s, [], 0, 0⟩ 0 ⟨h, hl, by simp, by simp⟩
  rwa [Nat.zero_add] at this

end Go.Proofs.YtiglgfonhdfpmaaGreat

/- Items that can be read, cut in two. Plain laws. -/
set_option linter.unusedVariables false
set_option linter.unusedSimpArgs false
namespace Go.Proofs.YtiglgfonhdfpmaaGreat
open Go.RowKit

theorem ItmsRO.take {w : World} {ad : Option Addr} {cap : Nat} {l : List Itm} (h : ItmsRO w (.slice ad l.length cap) l) {k : Nat} (hk : k ≤ l.length) : ItmsRO w (.slice ad k cap) (l.take k) := by
  obtain ⟨ad', cap', e, h1, h2, h3⟩ := h
  simp only [Value.slice.injEq, true_and] at e
  obtain ⟨rfl, rfl⟩ := e
  have hl : (l.take k).length = k := by rw [List.length_take]; omega
  refine ⟨ad, cap, by rw [hl], by omega, fun x hx => h2 x (List.mem_of_mem_take hx), fun hne => ?_⟩
  obtain ⟨b, o, g1, g2, g3⟩ := h3 (by rintro rfl; simp at hne)
  refine ⟨b, o, g1, g2, fun i x hi => g3 i x ?_⟩
  rw [List.getElem?_take] at hi
  split at hi
  · exact hi
  · cases hi
theorem ItmsRO.drop {w : World} {ad : Option Addr} {cap : Nat} {l : List Itm} (h : ItmsRO w (.slice ad l.length cap) l) {k : Nat} (hk : k ≤ l.length) : ItmsRO w (.slice (if cap = k then ad else ad.map (·.add (k * 4))) (l.length - k) (cap - k)) (l.drop k) := by
  obtain ⟨ad', cap', e, h1, h2, h3⟩ := h
  simp only [Value.slice.injEq, true_and] at e
  obtain ⟨rfl, rfl⟩ := e
  refine ⟨_, cap - k, by rw [List.length_drop], by rw [List.length_drop]; omega, fun x hx => h2 x (List.mem_of_mem_drop hx), fun hne => ?_⟩
  have hlt : k < l.length := by
    refine Classical.byContradiction fun hc => hne ?_
    exact List.drop_eq_nil_of_le (by omega)
  obtain ⟨b, o, g1, g2, g3⟩ := h3 (by rintro rfl; simp at hlt)
  refine ⟨b, o + k * 4, by rw [if_neg (by omega), g1, Option.map_some, Addr.add_mid], g2, fun i x hi => ?_⟩
  rw [List.getElem?_drop] at hi
  have := g3 (k + i) x hi
  rwa [show o + (k + i) * 4 = o + k * 4 + i * 4 by omega] at this
end Go.Proofs.YtiglgfonhdfpmaaGreat

/- OperSplit's walk. Conditions: the items can be read; so many, with names not too long. (Printed by a program of mine.) -/
set_option linter.unusedVariables false
set_option linter.unusedSimpArgs false
namespace Go.Proofs.YtiglgfonhdfpmaaGreat
open Go.RowKit

/-- A guarded operation that is wanted is as one without a guard. -/
theorem wpList_wanted {P : Program} {ops : Array Oper} {Q : Exit → Act → World → Prop} {a : Act} {w : World} {rest : List Oper} {dst : Option Tmp} {op : Op} {ty : TypeId} {pos : String} {after : Array Edge} {g : Option (Nat × Bool)}
    (hw : Region.wanted ⟨dst, op, ty, pos, after, g⟩ (yielded ops a.tmps) = true) (h : wpList P ops Q (⟨dst, op, ty, pos, after, none⟩ :: rest) a w) : wpList P ops Q (⟨dst, op, ty, pos, after, g⟩ :: rest) a w := by
  rw [wpList, if_pos hw]
  rw [wpList, if_pos (by simp [Region.wanted])] at h
  exact h
set_option maxHeartbeats 8000000 in
set_option maxRecDepth 100000 in
theorem split_walk (qq : Qry) (l : List Itm) (c : Nat) (hc : c ≤ 255) {iv : Value} (w : World) (hi : ItmsRO w iv l) (hil : l.length ≤ 1048576) (hs : wt5 l ≤ 4611686018427387904) :
    Calls Tryz.prog 6 #[qyV qq, iv, .int .u8 c] w fun e w' => e = .returned (.bool true) ∧ Below w.heap.size w w' := by
  have kf := fun w' => first10 w'
  have kg := fun w' (hk : Kept (fun _ => False) w w') => great5 w' (hi.later hk) hs (by omega)
  have kr0 := fun w' (hk : Kept (fun _ => False) w w') => oper_run qq stt0 l w' (PnsRO.nil w') (by simp [stt0]) (fun p hp => by simp [stt0] at hp) (hi.later hk) hil
  obtain ⟨k, hk⟩ : ∃ k, c % (l.length + 1) = k := ⟨_, rfl⟩
  have hkl : k ≤ l.length := by
    have := Nat.mod_lt c (show 0 < l.length + 1 by omega)
    omega
  obtain ⟨ad, cap, rfl, hcap, -, -⟩ := id hi
  have kr1 := fun w' (hk : Kept (fun _ => False) w w') => oper_run qq stt0 (l.take k) w' (PnsRO.nil w') (by simp [stt0]) (fun p hp => by simp [stt0] at hp) ((hi.later hk).take hkl) (by rw [List.length_take]; omega)
  have hg0 := runs_new qq l
  have hg1 := runs_new qq (l.take k)
  have hsp := runs_split qq (l.take k) (l.drop k) stt0
  rw [List.take_append_drop] at hsp
  have hn1 := runs_n qq (l.take k) ⟨stt0, [], 0, 0⟩
  obtain ⟨r1, hr1⟩ : ∃ z, runsM qq (l.take k) ⟨stt0, [], 0, 0⟩ = z := ⟨_, rfl⟩
  have kr2 := fun w' (hk : Kept (fun _ => False) w w') {v : Value} (hv : PnsRO w' v r1.s.panes) => oper_run qq r1.s (l.drop k) w' hv (by have := hg1.few; rw [hr1] at this; omega) (good_fits (hr1 ▸ hg1.panes)) ((hi.later hk).drop hkl) (by rw [List.length_drop]; omega)
  have hg2 := runs_from qq (l.drop k) (s := r1.s) (hr1 ▸ hg1.panes) (hr1 ▸ hg1.few)
  rw [hr1] at kr1 hg1 hsp hn1
  obtain ⟨r0, hr0⟩ : ∃ z, runsM qq l ⟨stt0, [], 0, 0⟩ = z := ⟨_, rfl⟩
  obtain ⟨r2, hr2⟩ : ∃ z, runsM qq (l.drop k) ⟨r1.s, [], 0, 0⟩ = z := ⟨_, rfl⟩
  rw [hr0] at kr0 hg0 hsp
  have hle2 := Lib.hid (runs_le qq (l.drop k) ⟨r1.s, [], 0, 0⟩)
  rw [hr2] at kr2 hg2 hsp hle2
  clear hr0 hr1 hr2
  have ha1 : (l.take k).length = k := by rw [List.length_take]; omega
  have ha2 : (l.drop k).length ≤ 1048576 := by rw [List.length_drop]; omega
  rw [ha1] at hsp hn1 hg1
  obtain ⟨⟨mk0, ps0⟩, O0, n0, e0⟩ := r0
  obtain ⟨⟨mk1, ps1⟩, O1, n1, e1⟩ := r1
  obtain ⟨⟨mk2, ps2⟩, O2, n2, e2⟩ := r2
  obtain ⟨kd, sz, sl, lt, ag, kk⟩ := qq
  unfold RunOk at kr0 kr1 kr2
  simp only [stt0] at kr0 kr1 kr2 hsp hn1
  unfold qyV qyC at kr0 kr1 kr2
  unfold qyV qyC
  simp only at kr0 kr1 kr2 ⊢
  have hgh0 := Lib.hid hg0
  have hgh1 := Lib.hid hg1
  have hgh2 := Lib.hid hg2
  have hsph := Lib.hid hsp
  have hn1h := Lib.hid hn1
  have knew := fun w' => new_below w'
  have hkh := Lib.hid hk
  have hih := Lib.hid hi
  clear hg0 hg1 hg2 hsp hn1 ha1
  have f0 : IntKind.i64.wrap ((l.length : Int) + 1) = (l.length : Int) + 1 := by rw [IntKind.wrap_i64]; omega
  have f1 : ¬ (l.length : Int) + 1 = 0 := by omega
  have f2 : IntKind.i64.wrap (Int.tmod (c : Int) ((l.length : Int) + 1)) = (k : Int) := by
    have e1 : Int.tmod (c : Int) ((l.length : Int) + 1) = (k : Int) := by rw [← hk]; rfl
    rw [e1, IntKind.wrap_i64]
    omega
  have f7 : (c : Int) % ((l.length : Int) + 1) = (k : Int) := by rw [← hk]; rfl
  have f3 : IntKind.i64.wrap (c : Int) = (c : Int) := by rw [IntKind.wrap_i64]; omega
  have f4 : ((k : Int) ≤ (cap : Int)) := by omega
  have f5 : ((k : Int) ≤ (l.length : Int)) := by omega
  clear hk
  have H0 : St (fun _ => False) w _ [_] := (St.nil _ w).allocAt rfl #[.int .i64 kd, .int .i64 sz, .int .i64 sl, .int .i64 lt, .int .i64 ag, .int .i64 kk] 23
  go_enter Tryz.func6, Tryz.ntmps6
  go_upto_region 1 with (fail)
  obtain ⟨qb, hqb⟩ : ∃ b, w.heap.size = b := ⟨_, rfl⟩
  obtain ⟨wa, hwa⟩ : ∃ z, w.alloc (.cells #[.int .i64 kd, .int .i64 sz, .int .i64 sl, .int .i64 lt, .int .i64 ag, .int .i64 kk] 23) = z := ⟨_, rfl⟩
  rw [hwa, hqb] at H0
  try rw [hwa]
  try simp only [hqb]
  have H0b : St (fun _ => False) w wa [Blk qb #[.int .i64 kd, .int .i64 sz, .int .i64 sl, .int .i64 lt, .int .i64 ag, .int .i64 kk] 23] := H0
  have hqbh := Lib.hid hqb
  clear hwa hqb H0
  go_upto_region 2 with (go_at_call 19; go_must (refine (St.callPast (kf _) H0b).mono ?_; rintro e wb ⟨rfl, H1⟩))
  by_cases hgt : 1500 < wt5 l
  · have z : decide ((1500 : Int) < (wt5 l : Int)) = true := by simpa using (by omega : (1500 : Int) < (wt5 l : Int))
    go_wp2_with (go_at_call 20; go_must (refine (St.callPast (kg _ H1.kept) H1).mono ?_; rintro e wc ⟨rfl, H2⟩))
    go_ret
    exact ⟨rfl, H2.below (Nat.le_refl _) (fun _ h => h.elim)⟩
  have z : decide ((1500 : Int) < (wt5 l : Int)) = false := by simpa using (by omega : ¬ (1500 : Int) < (wt5 l : Int))
  go_upto_region 6 with (go_at_call 20; go_must (refine (St.callPast (kg _ H1.kept) H1).mono ?_; rintro e wc ⟨rfl, H2⟩))
  simp only [f7]
  clear H0b H1 kf kg f7
  go_cut [8, 9, 10, 11, 31] from 32 to 39 (fun p8 p9 p10 p11 _ wx => ∃ (sb0 : Nat) (pa0 : Option Addr) (pc0 : Nat) (oa0 : Option Addr) (oc0 : Nat) (ms0 : List Pm) (os0 : List Om) (H0 : List (Value × List Int)), p8 = .pointer (some ⟨sb0, 0, none⟩) ∧ p9 = .slice oa0 os0.length oc0 ∧ p10 = .int .i64 n0 ∧ p11 = .int .i64 e0 ∧ Hid (ms0.map (·.p) = ps0 ∧ os0.map (·.o) = O0 ∧ (∀ m ∈ ms0, Pm.own m ∈ H0) ∧ ∀ y ∈ os0, Om.own y ∈ H0) ∧ St (fun _ => False) w wx [Blk sb0 #[.int .i64 mk0, .slice pa0 ms0.length pc0] 45, Row 68 8 (.slice pa0 ms0.length pc0) ms0.length (encP.all ms0), Row 63 10 (.slice oa0 os0.length oc0) os0.length (encO.all os0), Pool H0, Blk qb #[.int .i64 kd, .int .i64 sz, .int .i64 sl, .int .i64 lt, .int .i64 ag, .int .i64 kk] 23])
  case first =>
    refine wp_plan (.small 0 (.small 1 (.small 2 (.fork 3 9 (.small 4 (.small 5 (.small 6 (.small 7 (.small 8 (.alone 9 (.alone 10 (.small 11 (.small 12 (.small 13 .nil)))))))))) (.alone 3 (.small 4 (.small 5 (.small 6 (.small 7 (.small 8 (.alone 10 (.small 11 (.small 12 (.small 13 .nil)))))))))))))) (Fam fun w' => St (fun _ => False) w w' [Blk qb #[.int .i64 kd, .int .i64 sz, .int .i64 sl, .int .i64 lt, .int .i64 ag, .int .i64 kk] 23]) (fun w' => St (fun _ => False) w w' [Blk qb #[.int .i64 kd, .int .i64 sz, .int .i64 sl, .int .i64 lt, .int .i64 ag, .int .i64 kk] 23]) (by kernel_rfl) (by rfl) (by kernel_rfl) (by kernel_rfl) H2.drew (Fam.st (fun _ h => h.pick [0])) ?_
    iterate 3 first
      | (apply plan_pass
         · rfl
         · rfl
         intro K hK
         go_simp
         refine hK _ ?_
         clear hK K)
      | (apply plan_step
         · rfl
         · rfl
         · intro I hI w1 h1'
           have h1 := hI.2 _ h1'
           have c0 := h1.cell 0 0 rfl rfl
           have c1 := h1.cell 0 1 rfl rfl
           have c2 := h1.cell 0 2 rfl rfl
           have c3 := h1.cell 0 3 rfl rfl
           have c4 := h1.cell 0 4 rfl rfl
           have c5 := h1.cell 0 5 rfl rfl
           first
             | (go_simp
                first
                  | rfl
                  | exact ⟨rfl, h1'⟩
                  | (go_at_call 22; with_reducible exact Fam.call hI h1' (knew w1))
               )
         intro K hK
         go_simp
         refine hK _ ?_
         clear hK K)
    refine plan_two rfl rfl rfl rfl ?_ ?_
    · skip
      intro V hV w1 h1
      go_simp
      refine (kr0 w1 h1.kept).mono ?_
      rintro e w2 ⟨hs, ho, ms0, os0, H0, rfl, hm, ho2, hmo, hoo, G1⟩
      have hall0 : Hid (ms0.map (·.p) = ps0 ∧ os0.map (·.o) = O0 ∧ (∀ m ∈ ms0, Pm.own m ∈ H0) ∧ ∀ y ∈ os0, Om.own y ∈ H0) := Lib.hid ⟨hm, ho2, hmo, hoo⟩
      clear hm ho2 hmo hoo
      obtain ⟨pa0, pc0, rfl, -, -⟩ := slice_form' (G1.row 0 rfl)
      obtain ⟨oa0, oc0, rfl, -, -⟩ := slice_form' (G1.row 1 rfl)
      have HX : St (fun _ => False) w w2 [Row 68 8 (.slice pa0 ms0.length pc0) ms0.length (encP.all ms0), Row 63 10 (.slice oa0 os0.length oc0) os0.length (encO.all os0), Pool H0, Blk qb #[.int .i64 kd, .int .i64 sz, .int .i64 sl, .int .i64 lt, .int .i64 ag, .int .i64 kk] 23] := h1.call0 G1
      refine ⟨_, rfl, fun w' => St (fun _ => False) w w' [Row 68 8 (.slice pa0 ms0.length pc0) ms0.length (encP.all ms0), Row 63 10 (.slice oa0 os0.length oc0) os0.length (encO.all os0), Pool H0, Blk qb #[.int .i64 kd, .int .i64 sz, .int .i64 sl, .int .i64 lt, .int .i64 ag, .int .i64 kk] 23], hV _ _ _ (fun _ h => h) (Fam.st (fun _ h => h.pick [3])) ?_, HX⟩
      intro K hK
      go_simp
      refine hK _ ?_
      clear hK K hV V
      clear HX h1 G1 w1 w2
      iterate 5 first
        | (apply plan_pass
           · rfl
           · rfl
           intro K hK
           go_simp
           refine hK _ ?_
           clear hK K)
        | (apply plan_step
           · rfl
           · rfl
           · intro I hI w1 h1'
             have h1 := hI.2 _ h1'
             first
               | (go_simp
                  first
                    | rfl
                    | exact ⟨rfl, h1'⟩
                 )
           intro K hK
           go_simp
           refine hK _ ?_
           clear hK K)
      refine plan_one rfl rfl ?_
      intro V hV w1 h1
      go_simp
      obtain ⟨sb0, hsb0⟩ : ∃ g, w1.heap.size = g := ⟨_, rfl⟩
      have HX : St (fun _ => False) w _ [Blk sb0 #[.int .i64 0, .slice none 0 0] 45, Row 68 8 (.slice pa0 ms0.length pc0) ms0.length (encP.all ms0), Row 63 10 (.slice oa0 os0.length oc0) os0.length (encO.all os0), Pool H0, Blk qb #[.int .i64 kd, .int .i64 sz, .int .i64 sl, .int .i64 lt, .int .i64 ag, .int .i64 kk] 23] := h1.allocAt hsb0 #[.int .i64 0, .slice none 0 0] 45
      simp only [hsb0]
      refine ⟨fun w' => St (fun _ => False) w w' [Blk sb0 #[.int .i64 0, .slice none 0 0] 45, Row 68 8 (.slice pa0 ms0.length pc0) ms0.length (encP.all ms0), Row 63 10 (.slice oa0 os0.length oc0) os0.length (encO.all os0), Pool H0, Blk qb #[.int .i64 kd, .int .i64 sz, .int .i64 sl, .int .i64 lt, .int .i64 ag, .int .i64 kk] 23], hV _ _ _ (fun _ h => h) (Fam.st (fun _ h => h.pick [4])) ?_, HX⟩
      intro K hK
      go_simp
      refine hK _ ?_
      clear hK K hV V
      clear HX h1 hsb0 w1
      refine plan_one rfl rfl ?_
      intro V hV w1 h1
      refine h1.came_store 0 rfl 45 (.tmp 8) (.tmp 36) rfl #[.int .i64 mk0, .slice pa0 ms0.length pc0] rfl rfl (by kernel_rfl) (Nat.zero_lt_succ _) rfl (by simp [allOne, Value.oneCell']) ?_
      intro w2 HX
      refine ⟨fun w' => St (fun _ => False) w w' [Blk sb0 #[.int .i64 mk0, .slice pa0 ms0.length pc0] 45, Row 68 8 (.slice pa0 ms0.length pc0) ms0.length (encP.all ms0), Row 63 10 (.slice oa0 os0.length oc0) os0.length (encO.all os0), Pool H0, Blk qb #[.int .i64 kd, .int .i64 sz, .int .i64 sl, .int .i64 lt, .int .i64 ag, .int .i64 kk] 23], hV _ _ _ (fun _ h => h) (Fam.st (fun _ h => h.pick [4])) ?_, HX⟩
      intro K hK
      go_simp
      refine hK _ ?_
      clear hK K hV V
      clear HX h1 w1 w2
      iterate 3 first
        | (apply plan_pass
           · rfl
           · rfl
           intro K hK
           go_simp
           refine hK _ ?_
           clear hK K)
        | (apply plan_step
           · rfl
           · rfl
           · intro I hI w1 h1'
             have h1 := hI.2 _ h1'
             first
               | (go_simp
                  first
                    | rfl
                    | exact ⟨rfl, h1'⟩
                 )
           intro K hK
           go_simp
           refine hK _ ?_
           clear hK K)
      refine plan_nil ?_
      intro w9 H9
      go_wp2
      go_meet
      exact ⟨sb0, pa0, pc0, oa0, oc0, ms0, os0, H0, rfl, rfl, rfl, rfl, by assumption, H9.pick [0, 1, 2, 3, 4]⟩
    · skip
      intro V hV w1 h1
      go_simp
      obtain ⟨sb0, hsb0⟩ : ∃ g, w1.heap.size = g := ⟨_, rfl⟩
      have HX : St (fun _ => False) w _ [Blk sb0 #[.int .i64 0, .slice none 0 0] 45, Blk qb #[.int .i64 kd, .int .i64 sz, .int .i64 sl, .int .i64 lt, .int .i64 ag, .int .i64 kk] 23] := h1.allocAt hsb0 #[.int .i64 0, .slice none 0 0] 45
      simp only [hsb0]
      refine ⟨fun w' => St (fun _ => False) w w' [Blk sb0 #[.int .i64 0, .slice none 0 0] 45, Blk qb #[.int .i64 kd, .int .i64 sz, .int .i64 sl, .int .i64 lt, .int .i64 ag, .int .i64 kk] 23], hV _ _ _ (fun _ h => h) (Fam.st (fun _ h => h.pick [1])) ?_, HX⟩
      intro K hK
      go_simp
      refine hK _ ?_
      clear hK K hV V
      clear HX h1 hsb0 w1
      refine plan_one rfl rfl ?_
      intro V hV w1 h1
      go_simp
      refine (kr0 w1 h1.kept).mono ?_
      rintro e w2 ⟨hs, ho, ms0, os0, H0, rfl, hm, ho2, hmo, hoo, G1⟩
      have hall0 : Hid (ms0.map (·.p) = ps0 ∧ os0.map (·.o) = O0 ∧ (∀ m ∈ ms0, Pm.own m ∈ H0) ∧ ∀ y ∈ os0, Om.own y ∈ H0) := Lib.hid ⟨hm, ho2, hmo, hoo⟩
      clear hm ho2 hmo hoo
      obtain ⟨pa0, pc0, rfl, -, -⟩ := slice_form' (G1.row 0 rfl)
      obtain ⟨oa0, oc0, rfl, -, -⟩ := slice_form' (G1.row 1 rfl)
      have HX : St (fun _ => False) w w2 [Row 68 8 (.slice pa0 ms0.length pc0) ms0.length (encP.all ms0), Row 63 10 (.slice oa0 os0.length oc0) os0.length (encO.all os0), Pool H0, Blk sb0 #[.int .i64 0, .slice none 0 0] 45, Blk qb #[.int .i64 kd, .int .i64 sz, .int .i64 sl, .int .i64 lt, .int .i64 ag, .int .i64 kk] 23] := h1.call0 G1
      refine ⟨_, rfl, fun w' => St (fun _ => False) w w' [Row 68 8 (.slice pa0 ms0.length pc0) ms0.length (encP.all ms0), Row 63 10 (.slice oa0 os0.length oc0) os0.length (encO.all os0), Pool H0, Blk sb0 #[.int .i64 0, .slice none 0 0] 45, Blk qb #[.int .i64 kd, .int .i64 sz, .int .i64 sl, .int .i64 lt, .int .i64 ag, .int .i64 kk] 23], hV _ _ _ (fun _ h => h) (Fam.st (fun _ h => h.pick [4])) ?_, HX⟩
      intro K hK
      go_simp
      refine hK _ ?_
      clear hK K hV V
      clear HX h1 G1 w1 w2
      iterate 5 first
        | (apply plan_pass
           · rfl
           · rfl
           intro K hK
           go_simp
           refine hK _ ?_
           clear hK K)
        | (apply plan_step
           · rfl
           · rfl
           · intro I hI w1 h1'
             have h1 := hI.2 _ h1'
             first
               | (go_simp
                  first
                    | rfl
                    | exact ⟨rfl, h1'⟩
                 )
           intro K hK
           go_simp
           refine hK _ ?_
           clear hK K)
      refine plan_one rfl rfl ?_
      intro V hV w1 h1
      refine h1.came_store 3 rfl 45 (.tmp 8) (.tmp 36) rfl #[.int .i64 mk0, .slice pa0 ms0.length pc0] rfl rfl (by kernel_rfl) (Nat.zero_lt_succ _) rfl (by simp [allOne, Value.oneCell']) ?_
      intro w2 HX
      refine ⟨fun w' => St (fun _ => False) w w' [Row 68 8 (.slice pa0 ms0.length pc0) ms0.length (encP.all ms0), Row 63 10 (.slice oa0 os0.length oc0) os0.length (encO.all os0), Pool H0, Blk sb0 #[.int .i64 mk0, .slice pa0 ms0.length pc0] 45, Blk qb #[.int .i64 kd, .int .i64 sz, .int .i64 sl, .int .i64 lt, .int .i64 ag, .int .i64 kk] 23], hV _ _ _ (fun _ h => h) (Fam.st (fun _ h => h.pick [4])) ?_, HX⟩
      intro K hK
      go_simp
      refine hK _ ?_
      clear hK K hV V
      clear HX h1 w1 w2
      iterate 3 first
        | (apply plan_pass
           · rfl
           · rfl
           intro K hK
           go_simp
           refine hK _ ?_
           clear hK K)
        | (apply plan_step
           · rfl
           · rfl
           · intro I hI w1 h1'
             have h1 := hI.2 _ h1'
             first
               | (go_simp
                  first
                    | rfl
                    | exact ⟨rfl, h1'⟩
                 )
           intro K hK
           go_simp
           refine hK _ ?_
           clear hK K)
      refine plan_nil ?_
      intro w9 H9
      go_wp2
      go_meet
      exact ⟨sb0, pa0, pc0, oa0, oc0, ms0, os0, H0, rfl, rfl, rfl, rfl, by assumption, H9.pick [3, 0, 1, 2, 4]⟩
  case rest =>
    obtain ⟨sb0, pa0, pc0, oa0, oc0, ms0, os0, H0, rfl, rfl, rfl, rfl, hall0, HC0⟩ := hcut
    clear H2 kr0
    go_upto_region 7 with (fail)
    go_cut [12, 13, 14, 15, 40] from 41 to 50 (fun p8 p9 p10 p11 _ wx => ∃ (sb1 : Nat) (pa1 : Option Addr) (pc1 : Nat) (oa1 : Option Addr) (oc1 : Nat) (ms1 : List Pm) (os1 : List Om) (H1 : List (Value × List Int)), p8 = .pointer (some ⟨sb1, 0, none⟩) ∧ p9 = .slice oa1 os1.length oc1 ∧ p10 = .int .i64 n1 ∧ p11 = .int .i64 e1 ∧ Hid (ms1.map (·.p) = ps1 ∧ os1.map (·.o) = O1 ∧ (∀ m ∈ ms1, Pm.own m ∈ H1) ∧ ∀ y ∈ os1, Om.own y ∈ H1) ∧ St (fun _ => False) w wx [Blk sb1 #[.int .i64 mk1, .slice pa1 ms1.length pc1] 45, Row 68 8 (.slice pa1 ms1.length pc1) ms1.length (encP.all ms1), Row 63 10 (.slice oa1 os1.length oc1) os1.length (encO.all os1), Pool H1, Blk sb0 #[.int .i64 mk0, .slice pa0 ms0.length pc0] 45, Row 68 8 (.slice pa0 ms0.length pc0) ms0.length (encP.all ms0), Row 63 10 (.slice oa0 os0.length oc0) os0.length (encO.all os0), Pool H0, Blk qb #[.int .i64 kd, .int .i64 sz, .int .i64 sl, .int .i64 lt, .int .i64 ag, .int .i64 kk] 23])
    case first =>
      refine wp_plan (.small 0 (.small 1 (.small 2 (.small 3 (.small 4 (.fork 5 11 (.small 6 (.small 7 (.small 8 (.small 9 (.small 10 (.alone 11 (.alone 12 (.small 13 (.small 14 (.small 15 .nil)))))))))) (.alone 5 (.small 6 (.small 7 (.small 8 (.small 9 (.small 10 (.alone 12 (.small 13 (.small 14 (.small 15 .nil)))))))))))))))) (Fam fun w' => St (fun _ => False) w w' [Blk sb0 #[.int .i64 mk0, .slice pa0 ms0.length pc0] 45, Row 68 8 (.slice pa0 ms0.length pc0) ms0.length (encP.all ms0), Row 63 10 (.slice oa0 os0.length oc0) os0.length (encO.all os0), Pool H0, Blk qb #[.int .i64 kd, .int .i64 sz, .int .i64 sl, .int .i64 lt, .int .i64 ag, .int .i64 kk] 23]) (fun w' => St (fun _ => False) w w' [Blk sb0 #[.int .i64 mk0, .slice pa0 ms0.length pc0] 45, Row 68 8 (.slice pa0 ms0.length pc0) ms0.length (encP.all ms0), Row 63 10 (.slice oa0 os0.length oc0) os0.length (encO.all os0), Pool H0, Blk qb #[.int .i64 kd, .int .i64 sz, .int .i64 sl, .int .i64 lt, .int .i64 ag, .int .i64 kk] 23]) (by kernel_rfl) (by rfl) (by kernel_rfl) (by kernel_rfl) HC0.drew (Fam.st (fun _ h => h.pick [0, 1, 2, 3, 4])) ?_
      iterate 5 first
        | (apply plan_pass
           · rfl
           · rfl
           intro K hK
           go_simp
           refine hK _ ?_
           clear hK K)
        | (apply plan_step
           · rfl
           · rfl
           · intro I hI w1 h1'
             have h1 := hI.2 _ h1'
             have c0 := h1.cell 4 0 rfl rfl
             have c1 := h1.cell 4 1 rfl rfl
             have c2 := h1.cell 4 2 rfl rfl
             have c3 := h1.cell 4 3 rfl rfl
             have c4 := h1.cell 4 4 rfl rfl
             have c5 := h1.cell 4 5 rfl rfl
             first
               | (go_simp
                  first
                    | rfl
                    | exact ⟨rfl, h1'⟩
                    | (go_at_call 22; with_reducible exact Fam.call hI h1' (knew w1))
                 )
           intro K hK
           go_simp
           refine hK _ ?_
           clear hK K)
      refine plan_two rfl rfl rfl rfl ?_ ?_
      · skip
        intro V hV w1 h1
        go_simp
        refine (kr1 w1 h1.kept).mono ?_
        rintro e w2 ⟨hs, ho, ms1, os1, H1, rfl, hm, ho2, hmo, hoo, G1⟩
        have hall1 : Hid (ms1.map (·.p) = ps1 ∧ os1.map (·.o) = O1 ∧ (∀ m ∈ ms1, Pm.own m ∈ H1) ∧ ∀ y ∈ os1, Om.own y ∈ H1) := Lib.hid ⟨hm, ho2, hmo, hoo⟩
        clear hm ho2 hmo hoo
        obtain ⟨pa1, pc1, rfl, -, -⟩ := slice_form' (G1.row 0 rfl)
        obtain ⟨oa1, oc1, rfl, -, -⟩ := slice_form' (G1.row 1 rfl)
        have HX : St (fun _ => False) w w2 [Row 68 8 (.slice pa1 ms1.length pc1) ms1.length (encP.all ms1), Row 63 10 (.slice oa1 os1.length oc1) os1.length (encO.all os1), Pool H1, Blk sb0 #[.int .i64 mk0, .slice pa0 ms0.length pc0] 45, Row 68 8 (.slice pa0 ms0.length pc0) ms0.length (encP.all ms0), Row 63 10 (.slice oa0 os0.length oc0) os0.length (encO.all os0), Pool H0, Blk qb #[.int .i64 kd, .int .i64 sz, .int .i64 sl, .int .i64 lt, .int .i64 ag, .int .i64 kk] 23] := h1.call0 G1
        refine ⟨_, rfl, fun w' => St (fun _ => False) w w' [Row 68 8 (.slice pa1 ms1.length pc1) ms1.length (encP.all ms1), Row 63 10 (.slice oa1 os1.length oc1) os1.length (encO.all os1), Pool H1, Blk sb0 #[.int .i64 mk0, .slice pa0 ms0.length pc0] 45, Row 68 8 (.slice pa0 ms0.length pc0) ms0.length (encP.all ms0), Row 63 10 (.slice oa0 os0.length oc0) os0.length (encO.all os0), Pool H0, Blk qb #[.int .i64 kd, .int .i64 sz, .int .i64 sl, .int .i64 lt, .int .i64 ag, .int .i64 kk] 23], hV _ _ _ (fun _ h => h) (Fam.st (fun _ h => h.pick [3, 4, 5, 6, 7])) ?_, HX⟩
        intro K hK
        go_simp
        refine hK _ ?_
        clear hK K hV V
        clear HX h1 G1 w1 w2
        iterate 5 first
          | (apply plan_pass
             · rfl
             · rfl
             intro K hK
             go_simp
             refine hK _ ?_
             clear hK K)
          | (apply plan_step
             · rfl
             · rfl
             · intro I hI w1 h1'
               have h1 := hI.2 _ h1'
               first
                 | (go_simp
                    first
                      | rfl
                      | exact ⟨rfl, h1'⟩
                   )
             intro K hK
             go_simp
             refine hK _ ?_
             clear hK K)
        refine plan_one rfl rfl ?_
        intro V hV w1 h1
        go_simp
        obtain ⟨sb1, hsb1⟩ : ∃ g, w1.heap.size = g := ⟨_, rfl⟩
        have HX : St (fun _ => False) w _ [Blk sb1 #[.int .i64 0, .slice none 0 0] 45, Row 68 8 (.slice pa1 ms1.length pc1) ms1.length (encP.all ms1), Row 63 10 (.slice oa1 os1.length oc1) os1.length (encO.all os1), Pool H1, Blk sb0 #[.int .i64 mk0, .slice pa0 ms0.length pc0] 45, Row 68 8 (.slice pa0 ms0.length pc0) ms0.length (encP.all ms0), Row 63 10 (.slice oa0 os0.length oc0) os0.length (encO.all os0), Pool H0, Blk qb #[.int .i64 kd, .int .i64 sz, .int .i64 sl, .int .i64 lt, .int .i64 ag, .int .i64 kk] 23] := h1.allocAt hsb1 #[.int .i64 0, .slice none 0 0] 45
        simp only [hsb1]
        refine ⟨fun w' => St (fun _ => False) w w' [Blk sb1 #[.int .i64 0, .slice none 0 0] 45, Row 68 8 (.slice pa1 ms1.length pc1) ms1.length (encP.all ms1), Row 63 10 (.slice oa1 os1.length oc1) os1.length (encO.all os1), Pool H1, Blk sb0 #[.int .i64 mk0, .slice pa0 ms0.length pc0] 45, Row 68 8 (.slice pa0 ms0.length pc0) ms0.length (encP.all ms0), Row 63 10 (.slice oa0 os0.length oc0) os0.length (encO.all os0), Pool H0, Blk qb #[.int .i64 kd, .int .i64 sz, .int .i64 sl, .int .i64 lt, .int .i64 ag, .int .i64 kk] 23], hV _ _ _ (fun _ h => h) (Fam.st (fun _ h => h.pick [4, 5, 6, 7, 8])) ?_, HX⟩
        intro K hK
        go_simp
        refine hK _ ?_
        clear hK K hV V
        clear HX h1 hsb1 w1
        refine plan_one rfl rfl ?_
        intro V hV w1 h1
        refine h1.came_store 0 rfl 45 (.tmp 12) (.tmp 47) rfl #[.int .i64 mk1, .slice pa1 ms1.length pc1] rfl rfl (by kernel_rfl) (Nat.zero_lt_succ _) rfl (by simp [allOne, Value.oneCell']) ?_
        intro w2 HX
        refine ⟨fun w' => St (fun _ => False) w w' [Blk sb1 #[.int .i64 mk1, .slice pa1 ms1.length pc1] 45, Row 68 8 (.slice pa1 ms1.length pc1) ms1.length (encP.all ms1), Row 63 10 (.slice oa1 os1.length oc1) os1.length (encO.all os1), Pool H1, Blk sb0 #[.int .i64 mk0, .slice pa0 ms0.length pc0] 45, Row 68 8 (.slice pa0 ms0.length pc0) ms0.length (encP.all ms0), Row 63 10 (.slice oa0 os0.length oc0) os0.length (encO.all os0), Pool H0, Blk qb #[.int .i64 kd, .int .i64 sz, .int .i64 sl, .int .i64 lt, .int .i64 ag, .int .i64 kk] 23], hV _ _ _ (fun _ h => h) (Fam.st (fun _ h => h.pick [4, 5, 6, 7, 8])) ?_, HX⟩
        intro K hK
        go_simp
        refine hK _ ?_
        clear hK K hV V
        clear HX h1 w1 w2
        iterate 3 first
          | (apply plan_pass
             · rfl
             · rfl
             intro K hK
             go_simp
             refine hK _ ?_
             clear hK K)
          | (apply plan_step
             · rfl
             · rfl
             · intro I hI w1 h1'
               have h1 := hI.2 _ h1'
               first
                 | (go_simp
                    first
                      | rfl
                      | exact ⟨rfl, h1'⟩
                   )
             intro K hK
             go_simp
             refine hK _ ?_
             clear hK K)
        refine plan_nil ?_
        intro w9 H9
        go_wp2
        go_meet
        exact ⟨sb1, pa1, pc1, oa1, oc1, ms1, os1, H1, rfl, rfl, rfl, rfl, by assumption, H9.pick [0, 1, 2, 3, 4, 5, 6, 7, 8]⟩
      · skip
        intro V hV w1 h1
        go_simp
        obtain ⟨sb1, hsb1⟩ : ∃ g, w1.heap.size = g := ⟨_, rfl⟩
        have HX : St (fun _ => False) w _ [Blk sb1 #[.int .i64 0, .slice none 0 0] 45, Blk sb0 #[.int .i64 mk0, .slice pa0 ms0.length pc0] 45, Row 68 8 (.slice pa0 ms0.length pc0) ms0.length (encP.all ms0), Row 63 10 (.slice oa0 os0.length oc0) os0.length (encO.all os0), Pool H0, Blk qb #[.int .i64 kd, .int .i64 sz, .int .i64 sl, .int .i64 lt, .int .i64 ag, .int .i64 kk] 23] := h1.allocAt hsb1 #[.int .i64 0, .slice none 0 0] 45
        simp only [hsb1]
        refine ⟨fun w' => St (fun _ => False) w w' [Blk sb1 #[.int .i64 0, .slice none 0 0] 45, Blk sb0 #[.int .i64 mk0, .slice pa0 ms0.length pc0] 45, Row 68 8 (.slice pa0 ms0.length pc0) ms0.length (encP.all ms0), Row 63 10 (.slice oa0 os0.length oc0) os0.length (encO.all os0), Pool H0, Blk qb #[.int .i64 kd, .int .i64 sz, .int .i64 sl, .int .i64 lt, .int .i64 ag, .int .i64 kk] 23], hV _ _ _ (fun _ h => h) (Fam.st (fun _ h => h.pick [1, 2, 3, 4, 5])) ?_, HX⟩
        intro K hK
        go_simp
        refine hK _ ?_
        clear hK K hV V
        clear HX h1 hsb1 w1
        refine plan_one rfl rfl ?_
        intro V hV w1 h1
        go_simp
        refine (kr1 w1 h1.kept).mono ?_
        rintro e w2 ⟨hs, ho, ms1, os1, H1, rfl, hm, ho2, hmo, hoo, G1⟩
        have hall1 : Hid (ms1.map (·.p) = ps1 ∧ os1.map (·.o) = O1 ∧ (∀ m ∈ ms1, Pm.own m ∈ H1) ∧ ∀ y ∈ os1, Om.own y ∈ H1) := Lib.hid ⟨hm, ho2, hmo, hoo⟩
        clear hm ho2 hmo hoo
        obtain ⟨pa1, pc1, rfl, -, -⟩ := slice_form' (G1.row 0 rfl)
        obtain ⟨oa1, oc1, rfl, -, -⟩ := slice_form' (G1.row 1 rfl)
        have HX : St (fun _ => False) w w2 [Row 68 8 (.slice pa1 ms1.length pc1) ms1.length (encP.all ms1), Row 63 10 (.slice oa1 os1.length oc1) os1.length (encO.all os1), Pool H1, Blk sb1 #[.int .i64 0, .slice none 0 0] 45, Blk sb0 #[.int .i64 mk0, .slice pa0 ms0.length pc0] 45, Row 68 8 (.slice pa0 ms0.length pc0) ms0.length (encP.all ms0), Row 63 10 (.slice oa0 os0.length oc0) os0.length (encO.all os0), Pool H0, Blk qb #[.int .i64 kd, .int .i64 sz, .int .i64 sl, .int .i64 lt, .int .i64 ag, .int .i64 kk] 23] := h1.call0 G1
        refine ⟨_, rfl, fun w' => St (fun _ => False) w w' [Row 68 8 (.slice pa1 ms1.length pc1) ms1.length (encP.all ms1), Row 63 10 (.slice oa1 os1.length oc1) os1.length (encO.all os1), Pool H1, Blk sb1 #[.int .i64 0, .slice none 0 0] 45, Blk sb0 #[.int .i64 mk0, .slice pa0 ms0.length pc0] 45, Row 68 8 (.slice pa0 ms0.length pc0) ms0.length (encP.all ms0), Row 63 10 (.slice oa0 os0.length oc0) os0.length (encO.all os0), Pool H0, Blk qb #[.int .i64 kd, .int .i64 sz, .int .i64 sl, .int .i64 lt, .int .i64 ag, .int .i64 kk] 23], hV _ _ _ (fun _ h => h) (Fam.st (fun _ h => h.pick [4, 5, 6, 7, 8])) ?_, HX⟩
        intro K hK
        go_simp
        refine hK _ ?_
        clear hK K hV V
        clear HX h1 G1 w1 w2
        iterate 5 first
          | (apply plan_pass
             · rfl
             · rfl
             intro K hK
             go_simp
             refine hK _ ?_
             clear hK K)
          | (apply plan_step
             · rfl
             · rfl
             · intro I hI w1 h1'
               have h1 := hI.2 _ h1'
               first
                 | (go_simp
                    first
                      | rfl
                      | exact ⟨rfl, h1'⟩
                   )
             intro K hK
             go_simp
             refine hK _ ?_
             clear hK K)
        refine plan_one rfl rfl ?_
        intro V hV w1 h1
        refine h1.came_store 3 rfl 45 (.tmp 12) (.tmp 47) rfl #[.int .i64 mk1, .slice pa1 ms1.length pc1] rfl rfl (by kernel_rfl) (Nat.zero_lt_succ _) rfl (by simp [allOne, Value.oneCell']) ?_
        intro w2 HX
        refine ⟨fun w' => St (fun _ => False) w w' [Row 68 8 (.slice pa1 ms1.length pc1) ms1.length (encP.all ms1), Row 63 10 (.slice oa1 os1.length oc1) os1.length (encO.all os1), Pool H1, Blk sb1 #[.int .i64 mk1, .slice pa1 ms1.length pc1] 45, Blk sb0 #[.int .i64 mk0, .slice pa0 ms0.length pc0] 45, Row 68 8 (.slice pa0 ms0.length pc0) ms0.length (encP.all ms0), Row 63 10 (.slice oa0 os0.length oc0) os0.length (encO.all os0), Pool H0, Blk qb #[.int .i64 kd, .int .i64 sz, .int .i64 sl, .int .i64 lt, .int .i64 ag, .int .i64 kk] 23], hV _ _ _ (fun _ h => h) (Fam.st (fun _ h => h.pick [4, 5, 6, 7, 8])) ?_, HX⟩
        intro K hK
        go_simp
        refine hK _ ?_
        clear hK K hV V
        clear HX h1 w1 w2
        iterate 3 first
          | (apply plan_pass
             · rfl
             · rfl
             intro K hK
             go_simp
             refine hK _ ?_
             clear hK K)
          | (apply plan_step
             · rfl
             · rfl
             · intro I hI w1 h1'
               have h1 := hI.2 _ h1'
               first
                 | (go_simp
                    first
                      | rfl
                      | exact ⟨rfl, h1'⟩
                   )
             intro K hK
             go_simp
             refine hK _ ?_
             clear hK K)
        refine plan_nil ?_
        intro w9 H9
        go_wp2
        go_meet
        exact ⟨sb1, pa1, pc1, oa1, oc1, ms1, os1, H1, rfl, rfl, rfl, rfl, by assumption, H9.pick [3, 0, 1, 2, 4, 5, 6, 7, 8]⟩
    case rest =>
      obtain ⟨sb1, pa1, pc1, oa1, oc1, ms1, os1, H1, rfl, rfl, rfl, rfl, hall1, HC1⟩ := hcut
      clear HC0 kr1 knew
      have hp1 : ∀ w' (L : List SP), St (fun _ => False) w w' L → ∀ a b : Nat, L[a]? = some (Row 68 8 (.slice pa1 ms1.length pc1) ms1.length (encP.all ms1)) → L[b]? = some (Pool H1) → PnsRO w' (.slice pa1 ms1.length pc1) ps1 := fun w' L h a b ha hb => by
        rw [← show ms1.map (·.p) = ps1 from hall1.out.1]
        exact h.pnsRO a b ha hb hall1.out.2.2.1
      have hp0 : ∀ w' (L : List SP), St (fun _ => False) w w' L → ∀ a b : Nat, L[a]? = some (Row 68 8 (.slice pa0 ms0.length pc0) ms0.length (encP.all ms0)) → L[b]? = some (Pool H0) → PnsRO w' (.slice pa0 ms0.length pc0) ps0 := fun w' L h a b ha hb => by
        rw [← show ms0.map (·.p) = ps0 from hall0.out.1]
        exact h.pnsRO a b ha hb hall0.out.2.2.1
      have ho0 : ∀ w' (L : List SP), St (fun _ => False) w w' L → ∀ a b : Nat, L[a]? = some (Row 63 10 (.slice oa0 os0.length oc0) os0.length (encO.all os0)) → L[b]? = some (Pool H0) → OtsRO w' (.slice oa0 os0.length oc0) O0 := fun w' L h a b ha hb => by
        rw [← show os0.map (·.o) = O0 from hall0.out.2.1]
        exact h.otsRO a b ha hb hall0.out.2.2.2
      have ho1 : ∀ w' (L : List SP), St (fun _ => False) w w' L → ∀ a b : Nat, L[a]? = some (Row 63 10 (.slice oa1 os1.length oc1) os1.length (encO.all os1)) → L[b]? = some (Pool H1) → OtsRO w' (.slice oa1 os1.length oc1) O1 := fun w' L h a b ha hb => by
        rw [← show os1.map (·.o) = O1 from hall1.out.2.1]
        exact h.otsRO a b ha hb hall1.out.2.2.2
      have hp1h := Lib.hid hp1
      have hp0h := Lib.hid hp0
      have ho1h := Lib.hid ho1
      have ho0h := Lib.hid ho0
      clear hp0 hp1 ho0 ho1
      have ksm := fun w' (v v' : Value) (hv : PnsRO w' v ps0) (hv' : PnsRO w' v' ps0) => oper_same ⟨mk0, ps0⟩ w' hv hv' (by have := hgh0.out.few; simp only at this ⊢; omega) (good_fits hgh0.out.panes)
      have kso := fun w' (v v' : Value) (hv : OtsRO w' v O0) (hv' : OtsRO w' v' O0) => oper_outs w' hv hv' (by have := hgh0.out.outs; simp only at this; omega) (fun p hp => by have := hgh0.out.vals p hp; omega)
      simp only at ksm
      by_cases he : e1 = 0
      · subst he
        have hsp2 := hsph.out
        rw [if_pos rfl] at hsp2
        simp only [RunR.mk.injEq, Stt.mk.injEq] at hsp2
        obtain ⟨⟨q1, q2⟩, q3, q4, q5⟩ := hsp2
        have q1 := q1.symm
        have q2 := q2.symm
        have q5 := q5.symm
        subst q1 q2 q3 q5
        have hn1e := hn1h.out rfl
        simp only [Nat.zero_add] at hn1e
        subst hn1e
        have hle3 := hle2.out
        have f6 : IntKind.i64.wrap ((n1 : Int) + (n2 : Int)) = (n0 : Int) := by rw [IntKind.wrap_i64]; omega
        clear hle3 q4
        obtain ⟨dv, hdv⟩ : ∃ z, (if cap = n1 then ad else Option.map (fun x => x.add (n1 * 4)) ad) = z := ⟨_, rfl⟩
        rw [hdv] at kr2
        go_upto_region 10 with (fail)
        go_cut [16, 17, 18, 19, 71] from 72 to 81 (fun p8 p9 p10 p11 _ wx => ∃ (sb2 : Nat) (pa2 : Option Addr) (pc2 : Nat) (oa2 : Option Addr) (oc2 : Nat) (ms2 : List Pm) (os2 : List Om) (H2 : List (Value × List Int)), p8 = .pointer (some ⟨sb2, 0, none⟩) ∧ p9 = .slice oa2 os2.length oc2 ∧ p10 = .int .i64 n2 ∧ p11 = .int .i64 e2 ∧ Hid (ms2.map (·.p) = ps2 ∧ os2.map (·.o) = O2 ∧ (∀ m ∈ ms2, Pm.own m ∈ H2) ∧ ∀ y ∈ os2, Om.own y ∈ H2) ∧ St (fun _ => False) w wx [Blk sb2 #[.int .i64 mk2, .slice pa2 ms2.length pc2] 45, Row 68 8 (.slice pa2 ms2.length pc2) ms2.length (encP.all ms2), Row 63 10 (.slice oa2 os2.length oc2) os2.length (encO.all os2), Pool H2, Blk sb1 #[.int .i64 mk1, .slice pa1 ms1.length pc1] 45, Row 68 8 (.slice pa1 ms1.length pc1) ms1.length (encP.all ms1), Row 63 10 (.slice oa1 os1.length oc1) os1.length (encO.all os1), Pool H1, Blk sb0 #[.int .i64 mk2, .slice pa0 ms0.length pc0] 45, Row 68 8 (.slice pa0 ms0.length pc0) ms0.length (encP.all ms0), Row 63 10 (.slice oa0 os0.length oc0) os0.length (encO.all os0), Pool H0, Blk qb #[.int .i64 kd, .int .i64 sz, .int .i64 sl, .int .i64 lt, .int .i64 ag, .int .i64 kk] 23])
        case first =>
          refine wp_plan (.small 0 (.small 1 (.small 2 (.small 3 (.small 4 (.fork 5 11 (.small 6 (.small 7 (.small 8 (.small 9 (.small 10 (.alone 11 (.alone 12 (.small 13 (.small 14 (.small 15 .nil)))))))))) (.alone 5 (.small 6 (.small 7 (.small 8 (.small 9 (.small 10 (.alone 12 (.small 13 (.small 14 (.small 15 .nil)))))))))))))))) (Fam fun w' => St (fun _ => False) w w' [Blk sb1 #[.int .i64 mk1, .slice pa1 ms1.length pc1] 45, Row 68 8 (.slice pa1 ms1.length pc1) ms1.length (encP.all ms1), Row 63 10 (.slice oa1 os1.length oc1) os1.length (encO.all os1), Pool H1, Blk sb0 #[.int .i64 mk2, .slice pa0 ms0.length pc0] 45, Row 68 8 (.slice pa0 ms0.length pc0) ms0.length (encP.all ms0), Row 63 10 (.slice oa0 os0.length oc0) os0.length (encO.all os0), Pool H0, Blk qb #[.int .i64 kd, .int .i64 sz, .int .i64 sl, .int .i64 lt, .int .i64 ag, .int .i64 kk] 23]) (fun w' => St (fun _ => False) w w' [Blk sb1 #[.int .i64 mk1, .slice pa1 ms1.length pc1] 45, Row 68 8 (.slice pa1 ms1.length pc1) ms1.length (encP.all ms1), Row 63 10 (.slice oa1 os1.length oc1) os1.length (encO.all os1), Pool H1, Blk sb0 #[.int .i64 mk2, .slice pa0 ms0.length pc0] 45, Row 68 8 (.slice pa0 ms0.length pc0) ms0.length (encP.all ms0), Row 63 10 (.slice oa0 os0.length oc0) os0.length (encO.all os0), Pool H0, Blk qb #[.int .i64 kd, .int .i64 sz, .int .i64 sl, .int .i64 lt, .int .i64 ag, .int .i64 kk] 23]) (by kernel_rfl) (by rfl) (by kernel_rfl) (by kernel_rfl) HC1.drew (Fam.st (fun _ h => h.pick [0, 1, 2, 3, 4, 5, 6, 7, 8])) ?_
          iterate 5 first
            | (apply plan_pass
               · rfl
               · rfl
               intro K hK
               go_simp
               refine hK _ ?_
               clear hK K)
            | (apply plan_step
               · rfl
               · rfl
               · intro I hI w1 h1'
                 have h1 := hI.2 _ h1'
                 have c0 := h1.cell 8 0 rfl rfl
                 have c1 := h1.cell 8 1 rfl rfl
                 have c2 := h1.cell 8 2 rfl rfl
                 have c3 := h1.cell 8 3 rfl rfl
                 have c4 := h1.cell 8 4 rfl rfl
                 have c5 := h1.cell 8 5 rfl rfl
                 have s0 := h1.cell 0 0 rfl rfl
                 have s1 := h1.cell 0 1 rfl rfl
                 first
                   | (go_simp
                      first
                        | rfl
                        | exact ⟨rfl, h1'⟩
                     )
               intro K hK
               go_simp
               refine hK _ ?_
               clear hK K)
          refine plan_two rfl rfl rfl rfl ?_ ?_
          · skip
            intro V hV w1 h1
            go_simp
            refine (kr2 w1 h1.kept (hp1h.out _ _ h1 1 3 rfl rfl)).mono ?_
            rintro e w2 ⟨hs, ho, ms2, os2, H2, rfl, hm, ho2, hmo, hoo, G1⟩
            have hall2 : Hid (ms2.map (·.p) = ps2 ∧ os2.map (·.o) = O2 ∧ (∀ m ∈ ms2, Pm.own m ∈ H2) ∧ ∀ y ∈ os2, Om.own y ∈ H2) := Lib.hid ⟨hm, ho2, hmo, hoo⟩
            clear hm ho2 hmo hoo
            obtain ⟨pa2, pc2, rfl, -, -⟩ := slice_form' (G1.row 0 rfl)
            obtain ⟨oa2, oc2, rfl, -, -⟩ := slice_form' (G1.row 1 rfl)
            have HX : St (fun _ => False) w w2 [Row 68 8 (.slice pa2 ms2.length pc2) ms2.length (encP.all ms2), Row 63 10 (.slice oa2 os2.length oc2) os2.length (encO.all os2), Pool H2, Blk sb1 #[.int .i64 mk1, .slice pa1 ms1.length pc1] 45, Row 68 8 (.slice pa1 ms1.length pc1) ms1.length (encP.all ms1), Row 63 10 (.slice oa1 os1.length oc1) os1.length (encO.all os1), Pool H1, Blk sb0 #[.int .i64 mk2, .slice pa0 ms0.length pc0] 45, Row 68 8 (.slice pa0 ms0.length pc0) ms0.length (encP.all ms0), Row 63 10 (.slice oa0 os0.length oc0) os0.length (encO.all os0), Pool H0, Blk qb #[.int .i64 kd, .int .i64 sz, .int .i64 sl, .int .i64 lt, .int .i64 ag, .int .i64 kk] 23] := h1.call0 G1
            refine ⟨_, rfl, fun w' => St (fun _ => False) w w' [Row 68 8 (.slice pa2 ms2.length pc2) ms2.length (encP.all ms2), Row 63 10 (.slice oa2 os2.length oc2) os2.length (encO.all os2), Pool H2, Blk sb1 #[.int .i64 mk1, .slice pa1 ms1.length pc1] 45, Row 68 8 (.slice pa1 ms1.length pc1) ms1.length (encP.all ms1), Row 63 10 (.slice oa1 os1.length oc1) os1.length (encO.all os1), Pool H1, Blk sb0 #[.int .i64 mk2, .slice pa0 ms0.length pc0] 45, Row 68 8 (.slice pa0 ms0.length pc0) ms0.length (encP.all ms0), Row 63 10 (.slice oa0 os0.length oc0) os0.length (encO.all os0), Pool H0, Blk qb #[.int .i64 kd, .int .i64 sz, .int .i64 sl, .int .i64 lt, .int .i64 ag, .int .i64 kk] 23], hV _ _ _ (fun _ h => h) (Fam.st (fun _ h => h.pick [3, 4, 5, 6, 7, 8, 9, 10, 11])) ?_, HX⟩
            intro K hK
            go_simp
            refine hK _ ?_
            clear hK K hV V
            clear HX h1 G1 w1 w2
            iterate 5 first
              | (apply plan_pass
                 · rfl
                 · rfl
                 intro K hK
                 go_simp
                 refine hK _ ?_
                 clear hK K)
              | (apply plan_step
                 · rfl
                 · rfl
                 · intro I hI w1 h1'
                   have h1 := hI.2 _ h1'
                   first
                     | (go_simp
                        first
                          | rfl
                          | exact ⟨rfl, h1'⟩
                       )
                 intro K hK
                 go_simp
                 refine hK _ ?_
                 clear hK K)
            refine plan_one rfl rfl ?_
            intro V hV w1 h1
            go_simp
            obtain ⟨sb2, hsb2⟩ : ∃ g, w1.heap.size = g := ⟨_, rfl⟩
            have HX : St (fun _ => False) w _ [Blk sb2 #[.int .i64 0, .slice none 0 0] 45, Row 68 8 (.slice pa2 ms2.length pc2) ms2.length (encP.all ms2), Row 63 10 (.slice oa2 os2.length oc2) os2.length (encO.all os2), Pool H2, Blk sb1 #[.int .i64 mk1, .slice pa1 ms1.length pc1] 45, Row 68 8 (.slice pa1 ms1.length pc1) ms1.length (encP.all ms1), Row 63 10 (.slice oa1 os1.length oc1) os1.length (encO.all os1), Pool H1, Blk sb0 #[.int .i64 mk2, .slice pa0 ms0.length pc0] 45, Row 68 8 (.slice pa0 ms0.length pc0) ms0.length (encP.all ms0), Row 63 10 (.slice oa0 os0.length oc0) os0.length (encO.all os0), Pool H0, Blk qb #[.int .i64 kd, .int .i64 sz, .int .i64 sl, .int .i64 lt, .int .i64 ag, .int .i64 kk] 23] := h1.allocAt hsb2 #[.int .i64 0, .slice none 0 0] 45
            simp only [hsb2]
            refine ⟨fun w' => St (fun _ => False) w w' [Blk sb2 #[.int .i64 0, .slice none 0 0] 45, Row 68 8 (.slice pa2 ms2.length pc2) ms2.length (encP.all ms2), Row 63 10 (.slice oa2 os2.length oc2) os2.length (encO.all os2), Pool H2, Blk sb1 #[.int .i64 mk1, .slice pa1 ms1.length pc1] 45, Row 68 8 (.slice pa1 ms1.length pc1) ms1.length (encP.all ms1), Row 63 10 (.slice oa1 os1.length oc1) os1.length (encO.all os1), Pool H1, Blk sb0 #[.int .i64 mk2, .slice pa0 ms0.length pc0] 45, Row 68 8 (.slice pa0 ms0.length pc0) ms0.length (encP.all ms0), Row 63 10 (.slice oa0 os0.length oc0) os0.length (encO.all os0), Pool H0, Blk qb #[.int .i64 kd, .int .i64 sz, .int .i64 sl, .int .i64 lt, .int .i64 ag, .int .i64 kk] 23], hV _ _ _ (fun _ h => h) (Fam.st (fun _ h => h.pick [4, 5, 6, 7, 8, 9, 10, 11, 12])) ?_, HX⟩
            intro K hK
            go_simp
            refine hK _ ?_
            clear hK K hV V
            clear HX h1 hsb2 w1
            refine plan_one rfl rfl ?_
            intro V hV w1 h1
            refine h1.came_store 0 rfl 45 (.tmp 16) (.tmp 78) rfl #[.int .i64 mk2, .slice pa2 ms2.length pc2] rfl rfl (by kernel_rfl) (Nat.zero_lt_succ _) rfl (by simp [allOne, Value.oneCell']) ?_
            intro w2 HX
            refine ⟨fun w' => St (fun _ => False) w w' [Blk sb2 #[.int .i64 mk2, .slice pa2 ms2.length pc2] 45, Row 68 8 (.slice pa2 ms2.length pc2) ms2.length (encP.all ms2), Row 63 10 (.slice oa2 os2.length oc2) os2.length (encO.all os2), Pool H2, Blk sb1 #[.int .i64 mk1, .slice pa1 ms1.length pc1] 45, Row 68 8 (.slice pa1 ms1.length pc1) ms1.length (encP.all ms1), Row 63 10 (.slice oa1 os1.length oc1) os1.length (encO.all os1), Pool H1, Blk sb0 #[.int .i64 mk2, .slice pa0 ms0.length pc0] 45, Row 68 8 (.slice pa0 ms0.length pc0) ms0.length (encP.all ms0), Row 63 10 (.slice oa0 os0.length oc0) os0.length (encO.all os0), Pool H0, Blk qb #[.int .i64 kd, .int .i64 sz, .int .i64 sl, .int .i64 lt, .int .i64 ag, .int .i64 kk] 23], hV _ _ _ (fun _ h => h) (Fam.st (fun _ h => h.pick [4, 5, 6, 7, 8, 9, 10, 11, 12])) ?_, HX⟩
            intro K hK
            go_simp
            refine hK _ ?_
            clear hK K hV V
            clear HX h1 w1 w2
            iterate 3 first
              | (apply plan_pass
                 · rfl
                 · rfl
                 intro K hK
                 go_simp
                 refine hK _ ?_
                 clear hK K)
              | (apply plan_step
                 · rfl
                 · rfl
                 · intro I hI w1 h1'
                   have h1 := hI.2 _ h1'
                   first
                     | (go_simp
                        first
                          | rfl
                          | exact ⟨rfl, h1'⟩
                       )
                 intro K hK
                 go_simp
                 refine hK _ ?_
                 clear hK K)
            refine plan_nil ?_
            intro w9 H9
            go_wp2
            go_meet
            exact ⟨sb2, pa2, pc2, oa2, oc2, ms2, os2, H2, rfl, rfl, rfl, rfl, by assumption, H9.pick [0, 1, 2, 3, 4, 5, 6, 7, 8, 9, 10, 11, 12]⟩
          · skip
            intro V hV w1 h1
            go_simp
            obtain ⟨sb2, hsb2⟩ : ∃ g, w1.heap.size = g := ⟨_, rfl⟩
            have HX : St (fun _ => False) w _ [Blk sb2 #[.int .i64 0, .slice none 0 0] 45, Blk sb1 #[.int .i64 mk1, .slice pa1 ms1.length pc1] 45, Row 68 8 (.slice pa1 ms1.length pc1) ms1.length (encP.all ms1), Row 63 10 (.slice oa1 os1.length oc1) os1.length (encO.all os1), Pool H1, Blk sb0 #[.int .i64 mk2, .slice pa0 ms0.length pc0] 45, Row 68 8 (.slice pa0 ms0.length pc0) ms0.length (encP.all ms0), Row 63 10 (.slice oa0 os0.length oc0) os0.length (encO.all os0), Pool H0, Blk qb #[.int .i64 kd, .int .i64 sz, .int .i64 sl, .int .i64 lt, .int .i64 ag, .int .i64 kk] 23] := h1.allocAt hsb2 #[.int .i64 0, .slice none 0 0] 45
            simp only [hsb2]
            refine ⟨fun w' => St (fun _ => False) w w' [Blk sb2 #[.int .i64 0, .slice none 0 0] 45, Blk sb1 #[.int .i64 mk1, .slice pa1 ms1.length pc1] 45, Row 68 8 (.slice pa1 ms1.length pc1) ms1.length (encP.all ms1), Row 63 10 (.slice oa1 os1.length oc1) os1.length (encO.all os1), Pool H1, Blk sb0 #[.int .i64 mk2, .slice pa0 ms0.length pc0] 45, Row 68 8 (.slice pa0 ms0.length pc0) ms0.length (encP.all ms0), Row 63 10 (.slice oa0 os0.length oc0) os0.length (encO.all os0), Pool H0, Blk qb #[.int .i64 kd, .int .i64 sz, .int .i64 sl, .int .i64 lt, .int .i64 ag, .int .i64 kk] 23], hV _ _ _ (fun _ h => h) (Fam.st (fun _ h => h.pick [1, 2, 3, 4, 5, 6, 7, 8, 9])) ?_, HX⟩
            intro K hK
            go_simp
            refine hK _ ?_
            clear hK K hV V
            clear HX h1 hsb2 w1
            refine plan_one rfl rfl ?_
            intro V hV w1 h1
            go_simp
            refine (kr2 w1 h1.kept (hp1h.out _ _ h1 2 4 rfl rfl)).mono ?_
            rintro e w2 ⟨hs, ho, ms2, os2, H2, rfl, hm, ho2, hmo, hoo, G1⟩
            have hall2 : Hid (ms2.map (·.p) = ps2 ∧ os2.map (·.o) = O2 ∧ (∀ m ∈ ms2, Pm.own m ∈ H2) ∧ ∀ y ∈ os2, Om.own y ∈ H2) := Lib.hid ⟨hm, ho2, hmo, hoo⟩
            clear hm ho2 hmo hoo
            obtain ⟨pa2, pc2, rfl, -, -⟩ := slice_form' (G1.row 0 rfl)
            obtain ⟨oa2, oc2, rfl, -, -⟩ := slice_form' (G1.row 1 rfl)
            have HX : St (fun _ => False) w w2 [Row 68 8 (.slice pa2 ms2.length pc2) ms2.length (encP.all ms2), Row 63 10 (.slice oa2 os2.length oc2) os2.length (encO.all os2), Pool H2, Blk sb2 #[.int .i64 0, .slice none 0 0] 45, Blk sb1 #[.int .i64 mk1, .slice pa1 ms1.length pc1] 45, Row 68 8 (.slice pa1 ms1.length pc1) ms1.length (encP.all ms1), Row 63 10 (.slice oa1 os1.length oc1) os1.length (encO.all os1), Pool H1, Blk sb0 #[.int .i64 mk2, .slice pa0 ms0.length pc0] 45, Row 68 8 (.slice pa0 ms0.length pc0) ms0.length (encP.all ms0), Row 63 10 (.slice oa0 os0.length oc0) os0.length (encO.all os0), Pool H0, Blk qb #[.int .i64 kd, .int .i64 sz, .int .i64 sl, .int .i64 lt, .int .i64 ag, .int .i64 kk] 23] := h1.call0 G1
            refine ⟨_, rfl, fun w' => St (fun _ => False) w w' [Row 68 8 (.slice pa2 ms2.length pc2) ms2.length (encP.all ms2), Row 63 10 (.slice oa2 os2.length oc2) os2.length (encO.all os2), Pool H2, Blk sb2 #[.int .i64 0, .slice none 0 0] 45, Blk sb1 #[.int .i64 mk1, .slice pa1 ms1.length pc1] 45, Row 68 8 (.slice pa1 ms1.length pc1) ms1.length (encP.all ms1), Row 63 10 (.slice oa1 os1.length oc1) os1.length (encO.all os1), Pool H1, Blk sb0 #[.int .i64 mk2, .slice pa0 ms0.length pc0] 45, Row 68 8 (.slice pa0 ms0.length pc0) ms0.length (encP.all ms0), Row 63 10 (.slice oa0 os0.length oc0) os0.length (encO.all os0), Pool H0, Blk qb #[.int .i64 kd, .int .i64 sz, .int .i64 sl, .int .i64 lt, .int .i64 ag, .int .i64 kk] 23], hV _ _ _ (fun _ h => h) (Fam.st (fun _ h => h.pick [4, 5, 6, 7, 8, 9, 10, 11, 12])) ?_, HX⟩
            intro K hK
            go_simp
            refine hK _ ?_
            clear hK K hV V
            clear HX h1 G1 w1 w2
            iterate 5 first
              | (apply plan_pass
                 · rfl
                 · rfl
                 intro K hK
                 go_simp
                 refine hK _ ?_
                 clear hK K)
              | (apply plan_step
                 · rfl
                 · rfl
                 · intro I hI w1 h1'
                   have h1 := hI.2 _ h1'
                   first
                     | (go_simp
                        first
                          | rfl
                          | exact ⟨rfl, h1'⟩
                       )
                 intro K hK
                 go_simp
                 refine hK _ ?_
                 clear hK K)
            refine plan_one rfl rfl ?_
            intro V hV w1 h1
            refine h1.came_store 3 rfl 45 (.tmp 16) (.tmp 78) rfl #[.int .i64 mk2, .slice pa2 ms2.length pc2] rfl rfl (by kernel_rfl) (Nat.zero_lt_succ _) rfl (by simp [allOne, Value.oneCell']) ?_
            intro w2 HX
            refine ⟨fun w' => St (fun _ => False) w w' [Row 68 8 (.slice pa2 ms2.length pc2) ms2.length (encP.all ms2), Row 63 10 (.slice oa2 os2.length oc2) os2.length (encO.all os2), Pool H2, Blk sb2 #[.int .i64 mk2, .slice pa2 ms2.length pc2] 45, Blk sb1 #[.int .i64 mk1, .slice pa1 ms1.length pc1] 45, Row 68 8 (.slice pa1 ms1.length pc1) ms1.length (encP.all ms1), Row 63 10 (.slice oa1 os1.length oc1) os1.length (encO.all os1), Pool H1, Blk sb0 #[.int .i64 mk2, .slice pa0 ms0.length pc0] 45, Row 68 8 (.slice pa0 ms0.length pc0) ms0.length (encP.all ms0), Row 63 10 (.slice oa0 os0.length oc0) os0.length (encO.all os0), Pool H0, Blk qb #[.int .i64 kd, .int .i64 sz, .int .i64 sl, .int .i64 lt, .int .i64 ag, .int .i64 kk] 23], hV _ _ _ (fun _ h => h) (Fam.st (fun _ h => h.pick [4, 5, 6, 7, 8, 9, 10, 11, 12])) ?_, HX⟩
            intro K hK
            go_simp
            refine hK _ ?_
            clear hK K hV V
            clear HX h1 w1 w2
            iterate 3 first
              | (apply plan_pass
                 · rfl
                 · rfl
                 intro K hK
                 go_simp
                 refine hK _ ?_
                 clear hK K)
              | (apply plan_step
                 · rfl
                 · rfl
                 · intro I hI w1 h1'
                   have h1 := hI.2 _ h1'
                   first
                     | (go_simp
                        first
                          | rfl
                          | exact ⟨rfl, h1'⟩
                       )
                 intro K hK
                 go_simp
                 refine hK _ ?_
                 clear hK K)
            refine plan_nil ?_
            intro w9 H9
            go_wp2
            go_meet
            exact ⟨sb2, pa2, pc2, oa2, oc2, ms2, os2, H2, rfl, rfl, rfl, rfl, by assumption, H9.pick [3, 0, 1, 2, 4, 5, 6, 7, 8, 9, 10, 11, 12]⟩
        case rest =>
          obtain ⟨sb2, pa2, pc2, oa2, oc2, ms2, os2, H2, rfl, rfl, rfl, rfl, hall2, HC2⟩ := hcut
          clear HC1 kr2
          have hp2 : ∀ w' (L : List SP), St (fun _ => False) w w' L → ∀ a b : Nat, L[a]? = some (Row 68 8 (.slice pa2 ms2.length pc2) ms2.length (encP.all ms2)) → L[b]? = some (Pool H2) → PnsRO w' (.slice pa2 ms2.length pc2) ps2 := fun w' L h a b ha hb => by
            rw [← show ms2.map (·.p) = ps2 from hall2.out.1]
            exact h.pnsRO a b ha hb hall2.out.2.2.1
          have hp2h := Lib.hid hp2
          have hl1 : os1.length ≤ 268435456 := by
            have h1 := hgh1.out.outs
            have h2 := hall1.out.2.1
            simp only at h1 h2
            rw [← h2, List.length_map] at h1
            omega
          have hl2 : os2.length ≤ 268435456 := by
            have h1 := hgh2.out.outs
            have h2 := hall2.out.2.1
            simp only at h1 h2
            rw [← h2, List.length_map] at h1
            omega
          have hoo : ∀ w' (L : List SP) (v : Value), St (fun _ => False) w w' L → ∀ a b c : Nat, L[a]? = some (Row 63 10 v (os1.length + os2.length) (encO.all os1 ++ encO.all os2)) → L[b]? = some (Pool H1) → L[c]? = some (Pool H2) → OtsRO w' v (O1 ++ O2) := fun w' L v h a b c ha hb hc => by
            refine ⟨os1 ++ os2, by rw [List.map_append, hall1.out.2.1, hall2.out.2.1], ?_, fun m hm => ?_⟩
            · have h1 := h.row a ha
              rw [← Enc.all_app, ← List.length_append] at h1
              exact Enc.own encO h1 rfl
            · rcases List.mem_append.1 hm with hm | hm
              · exact h.pool_get b hb (hall1.out.2.2.2 m hm)
              · exact h.pool_get c hc (hall2.out.2.2.2 m hm)
          have hooh := Lib.hid hoo
          clear hp2 hoo
          have y0 := HC2.cell 0 0 rfl rfl
          have y1 := HC2.cell 0 1 rfl rfl
          have x0 := HC2.cell 8 0 rfl rfl
          have x1 := HC2.cell 8 1 rfl rfl
          go_wp2_with (first
            | (go_at_call 28; go_must (refine (St.callPast (ksm _ _ _ (hp0h.out _ _ HC2 9 11 rfl rfl) (hp2h.out _ _ HC2 1 3 rfl rfl)) HC2).mono ?_; rintro e w7 ⟨rfl, HP⟩; have HS : St (fun _ => False) w _ [Row 63 10 (.slice (some ⟨w7.heap.size, 0, none⟩) 0 0) 0 [], Blk sb2 #[.int .i64 mk2, .slice pa2 ms2.length pc2] 45, Row 68 8 (.slice pa2 ms2.length pc2) ms2.length (encP.all ms2), Row 63 10 (.slice oa2 os2.length oc2) os2.length (encO.all os2), Pool H2, Blk sb1 #[.int .i64 mk1, .slice pa1 ms1.length pc1] 45, Row 68 8 (.slice pa1 ms1.length pc1) ms1.length (encP.all ms1), Row 63 10 (.slice oa1 os1.length oc1) os1.length (encO.all os1), Pool H1, Blk sb0 #[.int .i64 mk2, .slice pa0 ms0.length pc0] 45, Row 68 8 (.slice pa0 ms0.length pc0) ms0.length (encP.all ms0), Row 63 10 (.slice oa0 os0.length oc0) os0.length (encO.all os0), Pool H0, Blk qb #[.int .i64 kd, .int .i64 sz, .int .i64 sl, .int .i64 lt, .int .i64 ag, .int .i64 kk] 23] := St.blk_row (cs := []) (xs := []) (size := 10) (HP.allocAt rfl #[] 63) 0 rfl (Nat.le_refl 0) (Nat.zero_le _) rfl rfl; obtain ⟨ro1, ro2, ro3, ro4, ro5⟩ := Enc.RO.cells (Enc.own encO (HS.row 7 rfl) rfl); cases ro3))
            | ((with_reducible show Go.wpList _ _ _ (Oper.mk (some 106) _ _ _ _ _ :: _) _ _); go_must (refine wpList_wanted (by first | rfl | kernel_rfl) ?_; refine St.list_add HS 0 rfl rfl (.tmp 104) (.tmp 105) 46 rfl Tryz.underlying46 Tryz.info63 (by decide) rfl (encO.all os1) rfl (encO.all_len os1) (fun e => by first | (rw [ro4 e]; done) | (rw [ro4 e]; rfl)) (fun ad e j u hj => ro5 ad e j u hj) (encO.all_one1 os1) (by omega) ?_; intro v8 w8 HT0 hz8; clear hz8; have HT : St (fun _ => False) w w8 [Row 63 10 v8 os1.length (encO.all os1), Blk sb2 #[.int .i64 mk2, .slice pa2 ms2.length pc2] 45, Row 68 8 (.slice pa2 ms2.length pc2) ms2.length (encP.all ms2), Row 63 10 (.slice oa2 os2.length oc2) os2.length (encO.all os2), Pool H2, Blk sb1 #[.int .i64 mk1, .slice pa1 ms1.length pc1] 45, Row 68 8 (.slice pa1 ms1.length pc1) ms1.length (encP.all ms1), Row 63 10 (.slice oa1 os1.length oc1) os1.length (encO.all os1), Pool H1, Blk sb0 #[.int .i64 mk2, .slice pa0 ms0.length pc0] 45, Row 68 8 (.slice pa0 ms0.length pc0) ms0.length (encP.all ms0), Row 63 10 (.slice oa0 os0.length oc0) os0.length (encO.all os0), Pool H0, Blk qb #[.int .i64 kd, .int .i64 sz, .int .i64 sl, .int .i64 lt, .int .i64 ag, .int .i64 kk] 23] := (by simpa only [Nat.zero_add, List.nil_append, List.set_cons_zero] using HT0); obtain ⟨so1, so2, so3, so4, so5⟩ := Enc.RO.cells (Enc.own encO (HT.row 3 rfl) rfl); cases so3))
            | ((with_reducible show Go.wpList _ _ _ (Oper.mk (some 108) _ _ _ _ _ :: _) _ _); go_must (refine wpList_wanted (by first | rfl | kernel_rfl) ?_; refine St.list_add HT 0 rfl rfl (.tmp 106) (.tmp 107) 46 rfl Tryz.underlying46 Tryz.info63 (by decide) rfl (encO.all os2) rfl (encO.all_len os2) (fun e => by first | (rw [so4 e]; done) | (rw [so4 e]; rfl)) (fun ad e j u hj => so5 ad e j u hj) (encO.all_one1 os2) (by omega) ?_; intro v9 w9 HU hz9; clear hz9; have HU2 : St (fun _ => False) w w9 [Row 63 10 v9 (os1.length + os2.length) (encO.all os1 ++ encO.all os2), Blk sb2 #[.int .i64 mk2, .slice pa2 ms2.length pc2] 45, Row 68 8 (.slice pa2 ms2.length pc2) ms2.length (encP.all ms2), Row 63 10 (.slice oa2 os2.length oc2) os2.length (encO.all os2), Pool H2, Blk sb1 #[.int .i64 mk1, .slice pa1 ms1.length pc1] 45, Row 68 8 (.slice pa1 ms1.length pc1) ms1.length (encP.all ms1), Row 63 10 (.slice oa1 os1.length oc1) os1.length (encO.all os1), Pool H1, Blk sb0 #[.int .i64 mk2, .slice pa0 ms0.length pc0] 45, Row 68 8 (.slice pa0 ms0.length pc0) ms0.length (encP.all ms0), Row 63 10 (.slice oa0 os0.length oc0) os0.length (encO.all os0), Pool H0, Blk qb #[.int .i64 kd, .int .i64 sz, .int .i64 sl, .int .i64 lt, .int .i64 ag, .int .i64 kk] 23] := HU))
            | (go_at_call 26; go_must (refine (St.callPast (kso _ _ _ (ho0h.out _ _ HU2 11 12 rfl rfl) (hooh.out _ _ _ HU2 0 8 4 rfl rfl rfl)) HU2).mono ?_; rintro e w10 ⟨rfl, HO⟩)))
          go_ret
          exact ⟨rfl, HO.below (Nat.le_refl _) (fun _ h => h.elim)⟩
      · have hsp2 := hsph.out
        rw [if_neg he] at hsp2
        simp only [RunR.mk.injEq, Stt.mk.injEq] at hsp2
        obtain ⟨⟨q1, q2⟩, q3, q4, q5⟩ := hsp2
        subst q1 q2 q3 q4 q5
        have y0 := HC1.cell 0 0 rfl rfl
        have y1 := HC1.cell 0 1 rfl rfl
        have x0 := HC1.cell 4 0 rfl rfl
        have x1 := HC1.cell 4 1 rfl rfl
        go_wp2_with (first
          | (go_at_call 28; go_must (refine (St.callPast (ksm _ _ _ (hp0h.out _ _ HC1 5 7 rfl rfl) (hp1h.out _ _ HC1 1 3 rfl rfl)) HC1).mono ?_; rintro e w7 ⟨rfl, HP⟩))
          | (go_at_call 26; go_must (refine (St.callPast (kso _ _ _ (ho0h.out _ _ HP 6 7 rfl rfl) (ho1h.out _ _ HP 2 3 rfl rfl)) HP).mono ?_; rintro e w8 ⟨rfl, HO⟩)))
        go_ret
        exact ⟨rfl, HO.below (Nat.le_refl _) (fun _ h => h.elim)⟩

end Go.Proofs.YtiglgfonhdfpmaaGreat

/- A query that comes in, read by its type. Plain laws. -/
set_option linter.unusedVariables false
set_option linter.unusedSimpArgs false
namespace Go.Proofs.YtiglgfonhdfpmaaGreat
open Go.RowKit

theorem qry_read {w : World} {cs : List Value} (h : R Tryz.prog w 23 cs) : ∃ q : Qry, cs = (qyC q).toList := by
  have hl : cs.length = 6 := (R.struct Tryz.underlying23 h).1.trans (by kernel_rfl)
  obtain ⟨c0, c1, c2, c3, c4, c5, rfl⟩ : ∃ a b c d e f, cs = [a, b, c, d, e, f] := by
    match cs, hl with
    | [a, b, c, d, e, f], _ => exact ⟨a, b, c, d, e, f, rfl⟩
  have r0 : R Tryz.prog w 3 [c0] := R.field Tryz.underlying23 h 0 rfl (o := 0) (n := 1) rfl rfl (by kernel_rfl)
  have r1 : R Tryz.prog w 3 [c1] := R.field Tryz.underlying23 h 1 rfl (o := 1) (n := 1) rfl rfl (by kernel_rfl)
  have r2 : R Tryz.prog w 3 [c2] := R.field Tryz.underlying23 h 2 rfl (o := 2) (n := 1) rfl rfl (by kernel_rfl)
  have r3 : R Tryz.prog w 3 [c3] := R.field Tryz.underlying23 h 3 rfl (o := 3) (n := 1) rfl rfl (by kernel_rfl)
  have r4 : R Tryz.prog w 3 [c4] := R.field Tryz.underlying23 h 4 rfl (o := 4) (n := 1) rfl rfl (by kernel_rfl)
  have r5 : R Tryz.prog w 3 [c5] := R.field Tryz.underlying23 h 5 rfl (o := 5) (n := 1) rfl rfl (by kernel_rfl)
  obtain ⟨n0, e0, _⟩ := R.int Tryz.underlying3 r0
  obtain ⟨n1, e1, _⟩ := R.int Tryz.underlying3 r1
  obtain ⟨n2, e2, _⟩ := R.int Tryz.underlying3 r2
  obtain ⟨n3, e3, _⟩ := R.int Tryz.underlying3 r3
  obtain ⟨n4, e4, _⟩ := R.int Tryz.underlying3 r4
  obtain ⟨n5, e5, _⟩ := R.int Tryz.underlying3 r5
  simp only [List.cons.injEq, and_true] at e0 e1 e2 e3 e4 e5
  subst e0 e1 e2 e3 e4 e5
  exact ⟨⟨n0, n1, n2, n3, n4, n5⟩, rfl⟩
theorem qry_agg {w : World} {v : Value} (h : R Tryz.prog w 23 v.cells.toList) (hs : ∃ cs, v = .agg cs) : ∃ q : Qry, v = qyV q := by
  obtain ⟨cs, rfl⟩ := hs
  obtain ⟨q, e⟩ := qry_read h
  refine ⟨q, ?_⟩
  have : cs = qyC q := by
    apply Array.ext'
    exact e
  rw [this]

end Go.Proofs.YtiglgfonhdfpmaaGreat

/- A step leaves a state right, and what comes out is a pane's value there. Plain laws. -/
set_option linter.unusedVariables false
set_option linter.unusedSimpArgs false
namespace Go.Proofs.YtiglgfonhdfpmaaGreat

theorem pair_mono {α : Type} {R S : α → α → Prop} (h : ∀ a b, R a b → S a b) : ∀ {l : List α}, l.Pairwise R → l.Pairwise S
  | [], _ => List.Pairwise.nil
  | x :: l, hl => by
    have := List.pairwise_cons.1 hl
    exact List.pairwise_cons.2 ⟨fun y hy => h _ _ (this.1 y hy), pair_mono h this.2⟩
theorem ord_sub {l m : List Pn} (h : Ord l) (hs : m.Sublist l) : Ord m := List.Pairwise.sublist hs h
theorem ord_with {l : List Pn} {p : Pn} (h : Ord l) (hne : ∀ y ∈ l, y.w ≠ p.w) : Ord (withP l p) := by
  obtain ⟨h1, h2⟩ := ord_cut h p.w
  unfold withP
  refine ord_app (ord_sub h (List.take_sublist _ _)) (ord_sub h (List.drop_sublist _ _)) h1 (fun y hy => ?_)
  have h3 := h2 y hy
  have h4 : y.w.place p.w ≠ 0 := fun e => hne y (List.mem_of_mem_drop hy) (place_zero.1 e)
  rw [place_swap y.w p.w]
  omega
theorem with_map (l : List Pn) (p : Pn) : (withP l p).map (·.w) = insW (l.map (·.w)) p.w := by
  unfold withP insW placeP
  simp [List.map_take, List.map_drop]
theorem filter_out (l : List Pn) (x : Wd) : (l.filter fun p => !p.w.joins x).map (·.w) = outOf (l.map (·.w)) x := by
  unfold outOf
  rw [List.filter_map]
  rfl
theorem gath_round {q : Qry} {x : Wd} {old : Wd → Bool} : ∀ {l : List Pn} {s r : Ag × Int}, gathM q x old l s = some r → r.2 = s.2 ∨ ∃ p ∈ l, p.w = x ∧ r.2 = p.round
  | [], s, r, h => by
    left
    have : s = r := by simpa [gathM] using h
    rw [this]
  | p :: l, s, r, h => by
    rw [gath_cons] at h
    split at h
    · cases hm : mergeM q s.1 p.g with
      | none => rw [hm] at h; cases h
      | some g =>
        rw [hm] at h
        simp only at h
        rcases gath_round h with h1 | ⟨y, hy, h1, h2⟩
        · simp only at h1
          split at h1
          · rename_i hw
            exact .inr ⟨p, by simp, hw, h1⟩
          · exact .inl h1
        · exact .inr ⟨y, List.mem_cons_of_mem _ hy, h1, h2⟩
    · rcases gath_round h with h1 | ⟨y, hy, h1, h2⟩
      · exact .inl h1
      · exact .inr ⟨y, List.mem_cons_of_mem _ hy, h1, h2⟩
theorem merge_n {q : Qry} {a b g : Ag} (h : mergeM q a b = some g) : g.n = a.n + b.n := by
  unfold mergeM at h
  split at h
  · simp only [Option.some.injEq] at h
    subst h
    omega
  · split at h
    · simp only [Option.some.injEq] at h
      subst h
      omega
    · split at h
      · simp only [Option.some.injEq] at h
        subst h
        rfl
      · cases h
theorem single_n (q : Qry) (v : Int) : (singleM q v).n = 1 := by
  unfold singleM
  split
  · rfl
  · split
    · rfl
    · split <;> rfl
theorem ok_make {q : Qry} {mk : Int} {p : Pn} (h1 : fitsM q p.w = true) (h2 : p.w.gone q mk = false) (h3 : 0 ≤ p.round ∧ p.round ≤ 1073741824) (h4 : p.g.right q = true) (h5 : 0 < p.g.n) (h6 : 0 < p.round ↔ p.w.ripe mk = true) : p.ok q mk = true := by
  rw [ok_eq, h1, h2, h4, decide_eq_true h3.1, decide_eq_true h3.2, decide_eq_true h5]
  simp only [Bool.not_false, Bool.and_self, Bool.true_and]
  rw [beq_iff_eq, Bool.eq_iff_iff, decide_eq_true_eq]
  exact h6
/-- A step's out: it is a pane's value, or its window is gone. -/
def OutAt (q : Qry) (mk : Int) (l : List Pn) (o : Ot) : Prop := (o.late = false ∧ o.w.right = true) ∧ o.w.to ≤ mk ∧ 1 ≤ o.round ∧ (o.w.to + q.late ≤ mk ∨ ∃ p ∈ l, p.w = o.w ∧ p.round = o.round ∧ valueM q p.g = o.value)
structure PInv (q : Qry) (mk : Int) (l : List Pn) : Prop where
  ok : ∀ p ∈ l, p.ok q mk = true
  ord : Ord l
  stl : q.kind = 3 → Stl (l.map (·.w))
theorem right_inv {q : Qry} {s : Stt} (h : s.right q = true) : PInv q s.mark s.panes := by
  obtain ⟨-, -, -, h4, h5, h6⟩ := right_parts h
  exact ⟨h4, h5, fun hk => settledW_iff.1 (h6 hk)⟩
theorem right_make {q : Qry} {s : Stt} (hq : q.right = true) (hm : -1 ≤ s.mark ∧ s.mark ≤ 1099511627776) (hl : s.panes.length ≤ 256) (h : PInv q s.mark s.panes) : s.right q = true := by
  rw [sright_eq, hq, decide_eq_true hm.1, decide_eq_true hm.2, decide_eq_true hl, List.all_eq_true.2 h.ok, ord_iff.2 h.ord]
  simp only [Bool.true_and, Bool.or_eq_true, decide_eq_true_eq]
  by_cases hk : q.kind = 3
  · exact .inr (settledW_iff.2 (h.stl hk))
  · exact .inl hk
theorem ripe_to {x : Wd} {mk : Int} (h : x.ripe mk = true) : x.to ≤ mk := by
  unfold Wd.ripe at h
  simp only [Bool.and_eq_true, decide_eq_true_eq] at h
  exact h.2
theorem put_ok {q : Qry} {mk : Int} {x : Wd} {g : Ag} {r v : Int} {y : Pn × List Ot} (hq : q.right = true) (hv : valB v = true) (hf : fitsM q x = true) (hng : x.gone q mk = false) (hg : g.right q = true) (hr : 0 ≤ r ∧ r ≤ 1073741824) (hz : x.ripe mk = false → r = 0) (h : putM q mk x g r v = some y) :
    y.1.ok q mk = true ∧ ∀ o ∈ y.2, o.w = x ∧ o.late = false ∧ o.w.to ≤ mk ∧ 1 ≤ o.round ∧ y.1.w = o.w ∧ y.1.round = o.round ∧ valueM q y.1.g = o.value := by
  unfold putM at h
  cases hm : mergeM q g (singleM q v) with
  | none => rw [hm] at h; cases h
  | some a =>
    rw [hm] at h
    simp only at h
    have ha := merge_right hg (single_right hq hv) hm
    have hn := merge_n hm
    rw [single_n] at hn
    have hgn : 0 ≤ g.n := (right_nums hg).2.1.1
    cases hrp : x.ripe mk with
    | true =>
      rw [if_pos hrp] at h
      split at h
      · cases h
      · rename_i hr2
        simp only [Option.some.injEq] at h
        subst h
        refine ⟨ok_make hf hng ⟨by simp only; omega, by simp only; omega⟩ ha (by simp only; omega) ⟨fun _ => hrp, fun _ => by simp only; omega⟩, fun o ho => ?_⟩
        simp only [List.mem_singleton] at ho
        subst ho
        exact ⟨rfl, rfl, ripe_to hrp, by simp only; omega, rfl, rfl, rfl⟩
    | false =>
      obtain rfl := hz hrp
      rw [if_neg (by rw [hrp]; simp)] at h
      simp only [Option.some.injEq] at h
      subst h
      exact ⟨ok_make hf hng ⟨by simp, by simp⟩ ha (by simp only; omega) (by simp [hrp]), fun o ho => by simp at ho⟩
theorem lay_inv {q : Qry} {mk : Int} {own : Wd} {v : Int} {l : List Pn} {y : List Pn × List Ot} (hq : q.right = true) (hv : valB v = true) (hown : own.right = true) (hf : q.kind ≠ 3 → fitsM q own = true) (h3 : q.kind = 3 → q.size ≤ own.to - own.frm)
    (hng : (becM q l own).gone q mk = false) (h : PInv q mk l) (hy : layM q mk (becM q l own) (oldM q own) v l = some y) :
    PInv q mk y.1 ∧ (∀ p ∈ l, oldM q own p.w = false → p ∈ y.1) ∧ ∀ o ∈ y.2, OutAt q mk y.1 o ∧ o.w = becM q l own := by
  have hfx : fitsM q (becM q l own) = true := by
    by_cases hk : q.kind = 3
    · unfold becM fitsM
      rw [if_pos hk, if_pos hk]
      obtain ⟨b1, b2, b3, b4⟩ := bec_law hown (l.map (·.w))
      rw [b1]
      simp only [Bool.true_and, decide_eq_true_eq]
      have := h3 hk
      omega
    · unfold becM
      rw [if_neg hk]
      exact hf hk
  unfold layM at hy
  cases hs : gathM q (becM q l own) (oldM q own) l (Ag.zero, 0) with
  | none => rw [hs] at hy; cases hy
  | some s =>
    rw [hs] at hy
    simp only at hy
    have hsr : s.1.right q = true ∧ 0 ≤ s.2 ∧ s.2 ≤ 1073741824 := gath_right (s := (Ag.zero, 0)) (fun p hp => by
      obtain ⟨-, -, -, g4, g5, -, -⟩ := ok_parts (h.ok p hp)
      exact ⟨g5, g4.1, g4.2⟩) (zero_right hq) ⟨Int.le_refl 0, (by decide : (0 : Int) ≤ 1073741824)⟩ hs
    have hz : (becM q l own).ripe mk = false → s.2 = 0 := fun hr => by
      rcases gath_round hs with h1 | ⟨p, hp, h1, h2⟩
      · exact h1
      · obtain ⟨-, -, -, g4, -, -, g7⟩ := ok_parts (h.ok p hp)
        rw [h1, hr] at g7
        have : ¬ 0 < p.round := fun hc => by simpa using g7.1 hc
        omega
    cases hp : putM q mk (becM q l own) s.1 s.2 v with
    | none => rw [hp] at hy; cases hy
    | some z =>
      rw [hp] at hy
      simp only [Option.some.injEq] at hy
      rw [← hy]
      obtain ⟨hz1, hz2⟩ := put_ok hq hv hfx hng hsr.1 hsr.2 hz hp
      have hzw := put_w hp
      refine ⟨⟨fun p hpm => ?_, ?_, fun hk => ?_⟩, fun p hpm ho => with_mem.2 (.inr (List.mem_filter.2 ⟨hpm, by simp [ho]⟩)), fun o ho => ?_⟩
      · rcases with_mem.1 hpm with rfl | hpm
        · exact hz1
        · exact h.ok p (List.mem_filter.1 hpm).1
      · refine ord_with (ord_sub h.ord List.filter_sublist) (fun y hym => ?_)
        rw [hzw]
        obtain ⟨g1, g2⟩ := List.mem_filter.1 hym
        by_cases hk : q.kind = 3
        · unfold becM
          unfold oldM at g2
          rw [if_pos hk]
          rw [if_pos hk] at g2
          exact fun e => bec_apart hown y.w (List.mem_filter.2 ⟨List.mem_map_of_mem g1, g2⟩) e.symm
        · unfold becM
          unfold oldM at g2
          rw [if_neg hk]
          rw [if_neg hk] at g2
          simpa using g2
      · simp only
        rw [with_map, hzw]
        have e1 : (fun p : Pn => !oldM q own p.w) = fun p : Pn => !p.w.joins own := by
          funext p
          unfold oldM
          rw [if_pos hk]
        rw [e1, filter_out]
        unfold becM
        rw [if_pos hk]
        exact took_stl (h.stl hk) hown
      · obtain ⟨k1, k2, k3, k4, k5, k6, k7⟩ := hz2 o ho
        exact ⟨⟨⟨k2, by rw [k1]; exact fits_wd hfx⟩, k3, k4, .inr ⟨z.1, with_mem.2 (.inl rfl), k5, k6, k7⟩⟩, k1⟩
theorem lays_inv {q : Qry} {mk v : Int} (hq : q.right = true) (hv : valB v = true) : ∀ {ws : List Wd} {s y : EvS}, (∀ x ∈ ws, x.right = true ∧ (q.kind ≠ 3 → fitsM q x = true) ∧ (q.kind = 3 → q.size ≤ x.to - x.frm)) → ws.Nodup → (q.kind = 3 → ws.length ≤ 1 ∧ (ws ≠ [] → s.outs = [])) → (q.kind ≠ 3 → ∀ o ∈ s.outs, o.w ∉ ws) →
    PInv q mk s.panes → (∀ o ∈ s.outs, OutAt q mk s.panes o) → laysM q mk v ws s = some y → PInv q mk y.panes ∧ (∀ o ∈ y.outs, OutAt q mk y.panes o) ∧ (y.taken = false → s.taken = false ∧ y.panes = s.panes ∧ y.outs = s.outs)
  | [], s, y, _, _, _, _, h, ho, hy => by
    obtain rfl : s = y := by simpa [laysM] using hy
    exact ⟨h, ho, fun ht => ⟨ht, rfl, rfl⟩⟩
  | own :: r, s, y, hw, hnd, h3, h4, h, ho, hy => by
    rw [lays_cons] at hy
    have hw2 := fun x hx => hw x (List.mem_cons_of_mem own hx)
    obtain ⟨hn1, hn2⟩ := List.nodup_cons.1 hnd
    have hr3 : q.kind = 3 → r = [] := fun hk => by
      have := (h3 hk).1
      simp only [List.length_cons] at this
      exact List.eq_nil_of_length_eq_zero (by omega)
    have hc3 : ∀ o, q.kind = 3 → r.length ≤ 1 ∧ (r ≠ [] → o = ([] : List Ot)) := fun o hk => by
      rw [hr3 hk]
      exact ⟨by simp, fun h => absurd rfl h⟩
    split at hy
    · exact lays_inv hq hv hw2 hn2 (fun hk => hc3 _ hk) (fun hk o hm => fun hc => h4 hk o hm (List.mem_cons_of_mem _ hc)) h ho hy
    · rename_i hng
      have hng : (becM q s.panes own).gone q mk = false := by simpa using hng
      cases hl : layM q mk (becM q s.panes own) (oldM q own) v s.panes with
      | none => rw [hl] at hy; cases hy
      | some z =>
        rw [hl] at hy
        simp only at hy
        obtain ⟨g1, g2, g3⟩ := hw own (by simp)
        obtain ⟨k1, k2, k3⟩ := lay_inv hq hv g1 g2 g3 hng h hl
        have hres := lays_inv hq hv (s := ⟨z.1, s.outs ++ z.2, true⟩) hw2 hn2 (fun hk => hc3 _ hk) (fun hk o hm hc => ?_) k1 (fun o hm => ?_) hy
        · exact ⟨hres.1, hres.2.1, fun ht => absurd (hres.2.2 ht).1 (by simp)⟩
        · rcases List.mem_append.1 hm with hm | hm
          · exact h4 hk o hm (List.mem_cons_of_mem _ hc)
          · have := (k3 o hm).2
            unfold becM at this
            rw [if_neg hk] at this
            rw [this] at hc
            exact hn1 hc
        · rcases List.mem_append.1 hm with hm | hm
          · obtain ⟨e1, e2, e3, e4⟩ := ho o hm
            refine ⟨e1, e2, e3, ?_⟩
            rcases e4 with e4 | ⟨p, hp, e4, e5⟩
            · exact .inl e4
            · refine .inr ⟨p, k2 p hp ?_, e4, e5⟩
              by_cases hk : q.kind = 3
              · rw [(h3 hk).2 (by simp)] at hm
                simp at hm
              · unfold oldM
                rw [if_neg hk]
                have : o.w ∉ own :: r := h4 hk o hm
                rw [e4]
                simp only [decide_eq_false_iff_not]
                intro e
                rw [e] at this
                simp at this
          · exact (k3 o hm).1
theorem wins_ok {q : Qry} {key : List UInt8} {t : Int} : ∀ x ∈ winsOf q key t, x.right = true ∧ (q.kind ≠ 3 → fitsM q x = true) ∧ (q.kind = 3 → q.size ≤ x.to - x.frm) := by
  intro x hx
  obtain ⟨h1, h2, h3, h4, h5⟩ := wins_right x hx
  refine ⟨h1, fun hk => ?_, fun _ => by omega⟩
  have h0 := (right_iff.1 h1).2.1
  unfold fitsM
  rw [if_neg hk, List.contains_iff_mem, h2]
  unfold winsOf at hx ⊢
  split at hx
  · rename_i hg
    obtain ⟨hq, hkk, ht⟩ := hg
    obtain ⟨hkd, hsz, hsl, -, -⟩ := q_size hq
    rw [if_pos ⟨hq, hkk, h0, by omega⟩, if_neg hk]
    try rw [if_neg hk] at hx
    by_cases h2k : q.kind = 2
    · rw [if_pos h2k] at hx ⊢
      have hs := hsl h2k
      obtain ⟨k, hk2, rfl⟩ := List.mem_map.1 hx
      refine List.mem_map.2 ⟨k, List.mem_filter.2 ⟨List.mem_range.2 ?_, ?_⟩, rfl⟩
      · simp only
        rw [Int.mul_ediv_cancel _ (by omega)]
        omega
      · simp only [decide_eq_true_eq]
        omega
    · rw [if_neg h2k] at hx ⊢
      rw [List.mem_singleton.1 hx]
      have e1 : (t - t % q.size) % q.size = 0 := by
        have := Int.mul_ediv_add_emod t q.size
        rw [show t - t % q.size = q.size * (t / q.size) by omega]
        exact Int.mul_emod_right _ _
      simp only [e1, Int.sub_zero, List.mem_singleton]
  · cases hx
theorem wins_nodup {q : Qry} {key : List UInt8} {t : Int} : (winsOf q key t).Nodup := by
  unfold winsOf
  split
  · rename_i hg
    obtain ⟨hq, hkk, ht⟩ := hg
    obtain ⟨hkd, hsz, hsl, -, -⟩ := q_size hq
    split
    · simp
    · split
      · rename_i h2
        have hs := hsl h2
        unfold slideWs
        refine List.pairwise_map.2 (pair_mono (R := fun a b : Nat => a ≠ b) (fun a b hab => ?_) (List.Pairwise.sublist List.filter_sublist List.nodup_range))
        intro e
        refine hab ?_
        injection e with _ e1 _
        have := Int.eq_of_mul_eq_mul_right (show q.slide ≠ 0 by omega) e1
        omega
      · simp
  · simp
theorem wins_sess {q : Qry} {key : List UInt8} {t : Int} (h : q.kind = 3) : (winsOf q key t).length ≤ 1 := by
  unfold winsOf
  split
  · try rw [if_pos h]
    simp
  · simp
theorem item_time {x : Itm} (h : x.right = true) : 0 ≤ x.time ∧ x.time ≤ 1099511627776 := by
  unfold Itm.right at h
  simp only [Bool.and_eq_true, decide_eq_true_eq] at h
  exact ⟨h.1.1, h.1.2⟩
/-- A step that goes leaves a state right; the mark doesn't fall; what comes out. -/
theorem step_right {q : Qry} {s : Stt} {x : Itm} (h : (stepM q s x).e = 0) : (stepM q s x).s.right q = true ∧ s.mark ≤ (stepM q s x).s.mark ∧ ∀ o ∈ (stepM q s x).outs, (o = lateO x ∧ (stepM q s x).s = s) ∨ OutAt q (stepM q s x).s.mark (stepM q s x).s.panes o := by
  unfold stepM at h ⊢
  by_cases hr : (s.right q && x.right) = true
  · rw [if_pos hr] at h ⊢
    simp only [Bool.and_eq_true] at hr
    obtain ⟨h1, h2⟩ := hr
    have hi := right_inv h1
    obtain ⟨hq, hmk, hlen, -, -, -⟩ := right_parts h1
    have hxt := item_time h2
    by_cases hk : x.kind = 2
    · rw [if_pos hk]
      simp only
      unfold markM
      by_cases hm : x.time ≤ s.mark
      · rw [if_pos hm]
        exact ⟨h1, Int.le_refl _, fun o ho => by simp at ho⟩
      · rw [if_neg hm]
        simp only
        have hfl : ((s.panes.map (Pn.fire x.time)).filter fun p => !p.w.gone q x.time).length ≤ 256 := by
          have := List.length_filter_le (fun p : Pn => !p.w.gone q x.time) (s.panes.map (Pn.fire x.time))
          rw [List.length_map] at this
          omega
        have hfw : ∀ p : Pn, (p.fire x.time).w = p.w ∧ (p.fire x.time).g = p.g := fun p => by
          unfold Pn.fire
          split <;> exact ⟨rfl, rfl⟩
        have hmw : (s.panes.map (Pn.fire x.time)).map (·.w) = s.panes.map (·.w) := by
          rw [List.map_map]
          refine List.map_congr_left (fun p _ => ?_)
          exact (hfw p).1
        have hrm : ∀ y : Wd, y.ripe s.mark = true → y.ripe x.time = true := fun y hy => by
          unfold Wd.ripe at hy ⊢
          simp only [Bool.and_eq_true, decide_eq_true_eq] at hy ⊢
          exact ⟨hy.1, by omega⟩
        refine ⟨right_make hq ⟨by simp only; omega, hxt.2⟩ hfl ⟨fun p hp => ?_, ?_, fun h3 => ?_⟩, by omega, fun o ho => .inr ?_⟩
        · obtain ⟨g1, g2⟩ := List.mem_filter.1 hp
          obtain ⟨y, hy, rfl⟩ := List.mem_map.1 g1
          obtain ⟨o1, o2, o3, o4, o5, o6, o7⟩ := ok_parts (hi.ok y hy)
          obtain ⟨e1, e2⟩ := hfw y
          refine ok_make (by rw [e1]; exact o1) (by simpa using g2) ?_ (by rw [e2]; exact o5) (by rw [e2]; exact o6) ?_
          · unfold Pn.fire
            split
            · exact ⟨by simp, by simp⟩
            · exact o4
          · rw [e1]
            unfold Pn.fire
            split
            · rename_i hn
              unfold Pn.now at hn
              simp only [Bool.and_eq_true] at hn
              simp [hn.2]
            · rename_i hn
              constructor
              · exact fun hc => hrm _ (o7.1 hc)
              · intro hc
                refine Decidable.byContradiction (fun hz => hn ?_)
                have : y.round = 0 := by omega
                unfold Pn.now
                simp [this, hc]
        · refine ord_sub ?_ List.filter_sublist
          have := hi.ord
          refine List.pairwise_map.2 (pair_mono (fun a b hab => ?_) this)
          rw [(hfw a).1, (hfw b).1]
          exact hab
        · have hst := stl_pair.1 (hi.stl h3)
          have hsub : (((s.panes.map (Pn.fire x.time)).filter fun p => !p.w.gone q x.time).map (·.w)).Sublist (s.panes.map (·.w)) := by
            rw [← hmw]
            exact List.Sublist.map _ List.filter_sublist
          exact stl_pair.2 ⟨fun z hz => hst.1 z (hsub.subset hz), List.Pairwise.sublist hsub hst.2⟩
        · obtain ⟨p, hp, rfl⟩ := List.mem_map.1 ho
          obtain ⟨g1, g2⟩ := List.mem_filter.1 ((sortC_perm (s.panes.filter (Pn.now x.time))).subset hp)
          have g2c := g2
          unfold Pn.now at g2
          simp only [Bool.and_eq_true, decide_eq_true_eq] at g2
          refine ⟨⟨rfl, (ok_parts (hi.ok p g1)).2.1⟩, ripe_to g2.2, by simp [fireO], ?_⟩
          cases hg : p.w.gone q x.time with
          | true =>
            left
            unfold Wd.gone at hg
            simp only [Bool.and_eq_true, decide_eq_true_eq] at hg
            exact hg.2
          | false =>
            right
            refine ⟨p.fire x.time, List.mem_filter.2 ⟨List.mem_map_of_mem g1, by rw [(hfw p).1, hg]; rfl⟩, (hfw p).1, ?_, ?_⟩
            · unfold Pn.fire
              rw [if_pos g2c]
              rfl
            · rw [(hfw p).2]
              rfl
    · rw [if_neg hk] at h ⊢
      unfold eventM at h ⊢
      cases hl : laysM q s.mark x.value (winsOf q x.key x.time) ⟨s.panes, [], false⟩ with
      | none => rw [hl] at h; simp at h
      | some y =>
        rw [hl] at h
        simp only at h ⊢
        by_cases hf : 256 < y.panes.length
        · rw [if_pos hf] at h
          simp at h
        · rw [if_neg hf]
          simp only
          obtain ⟨g1, g2, g3⟩ := lays_inv hq (right_val h2 hk) (s := ⟨s.panes, [], false⟩) wins_ok wins_nodup (fun h3 => ⟨wins_sess h3, fun _ => rfl⟩) (fun _ o ho => by simp at ho) hi (fun o ho => by simp at ho) hl
          refine ⟨right_make hq hmk (by simp only; omega) g1, Int.le_refl _, fun o ho => ?_⟩
          cases ht : y.taken with
          | true =>
            rw [ht, if_pos rfl] at ho
            exact .inr (g2 o ho)
          | false =>
            obtain ⟨-, e1, e2⟩ := g3 ht
            rw [ht] at ho
            simp only [Bool.false_eq_true, if_false, e2, List.nil_append, List.mem_singleton] at ho
            left
            refine ⟨ho, ?_⟩
            rw [e1]
  · rw [if_neg hr] at h
    simp at h
/-- A step that stops leaves everything. -/
theorem step_stop {q : Qry} {s : Stt} {x : Itm} (h : (stepM q s x).e ≠ 0) : (stepM q s x).s = s ∧ (stepM q s x).outs = [] := by
  unfold stepM at h ⊢
  by_cases hr : (s.right q && x.right) = true
  · rw [if_pos hr] at h ⊢
    by_cases hk : x.kind = 2
    · rw [if_pos hk] at h
      simp at h
    · rw [if_neg hk] at h ⊢
      unfold eventM at h ⊢
      cases hl : laysM q s.mark x.value (winsOf q x.key x.time) ⟨s.panes, [], false⟩ with
      | none => exact ⟨rfl, rfl⟩
      | some y =>
        rw [hl] at h
        simp only at h ⊢
        by_cases hf : 256 < y.panes.length
        · rw [if_pos hf]
          exact ⟨rfl, rfl⟩
        · rw [if_neg hf] at h
          simp at h
  · rw [if_neg hr]
    exact ⟨rfl, rfl⟩

end Go.Proofs.YtiglgfonhdfpmaaGreat
