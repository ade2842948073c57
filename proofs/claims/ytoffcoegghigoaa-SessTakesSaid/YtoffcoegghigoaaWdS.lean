/- The document's Settled. -/
import Derived.Test.YtoffcoegghigoaaWdR
namespace Go.Proofs.Ytoffcoegghigoaa
open Go.RowKit

def pairAt (l : List Wd) (k j : Nat) : Prop := ∀ a b, l[k]? = some a → l[j]? = some b → j ≠ k → a.joins b = false ∧ (j < k ↔ b.place a < 0)
def allAt (l : List Wd) (k : Nat) : Prop := (∀ a, l[k]? = some a → a.right = true) ∧ ∀ j, pairAt l k j
theorem stl_all {l : List Wd} : Stl l ↔ ∀ k, allAt l k := by
  constructor
  · intro h k
    obtain ⟨h1, h2⟩ := stl_iff.1 h
    refine ⟨fun a ha => h1 a (List.mem_of_getElem? ha), fun j a b ha hb hjk => ?_⟩
    rcases Nat.lt_or_gt_of_ne hjk with hlt | hgt
    · obtain ⟨g1, g2⟩ := h2 j k b a hlt hb ha
      exact ⟨by rw [joins_swap]; exact g2, fun _ => g1, fun _ => hlt⟩
    · obtain ⟨g1, g2⟩ := h2 k j a b hgt ha hb
      refine ⟨g2, fun h => by omega, fun h => ?_⟩
      have := place_swap a b
      omega
  · intro h k x hx
    refine ⟨(h k).1 x hx, fun j y hj hy => ?_⟩
    obtain ⟨g1, g2⟩ := (h k).2 j x y hx hy (by omega)
    exact ⟨g2.1 (by omega), by rw [joins_swap]; exact g1⟩

set_option maxHeartbeats 4000000 in
set_option maxRecDepth 100000 in
theorem ref_settled {v : Value} {l : List Wd} (w : World) (hv : WdsRO w v l) (hl : l.length ≤ 9223372036854775807) :
    Calls Try.prog 25 #[v] w fun e w' => e = .returned (.bool (stl l)) ∧ Below w.heap.size w w' := by
  obtain ⟨ao, cap, rfl, hcap, hfit, hic⟩ := hv
  have H0 : St (fun _ => False) w w [] := St.nil _ w
  have hich := Lib.hid hic
  have hfith := Lib.hid hfit
  clear hic hfit
  go_enter Try.func25, Try.ntmps25
  go_upto_block 1 with (fail)
  go_loopw [3, 9] (fun _ j wr => ∃ (i : Nat), i ≤ l.length ∧ j = .int .i64 i ∧ Hid (∀ k, k < i → allAt l k) ∧ St (fun _ => False) w wr []) (fun _ j _ => l.length - (intOf j).toNat)
  case atStart => exact ⟨0, by omega, rfl, Lib.hid (fun k hk => absurd hk (by omega)), H0⟩
  case round =>
    clear H0
    obtain ⟨i, hi, rfl, hg, HM⟩ := hrel
    by_cases hlt : i < l.length
    · obtain ⟨b, o, rfl, hb, hc⟩ := hich.out (by intro e; rw [e] at hlt; simp at hlt)
      obtain ⟨x, hx⟩ : ∃ x, l[i]? = some x := ⟨_, List.getElem?_eq_getElem hlt⟩
      have hxf := hfith.out x (List.mem_of_getElem? hx)
      obtain ⟨q0, q1, q2⟩ := wd_cells (hc i x hx) (HM.kept.block b hb id)
      have hch := Lib.hid hc
      have kr := fun w' => ref_wright x hxf w'
      have hxh := Lib.hid hx
      have hxfh := Lib.hid hxf
      obtain ⟨r, hr⟩ : ∃ r, x.right = r := ⟨_, rfl⟩
      rw [hr] at kr
      have hrh := Lib.hid hr
      clear hr hx hc hxf
      obtain ⟨xk, xf, xt⟩ := x
      unfold wdV wdC textV at kr
      simp only at q0 q1 q2 kr
      unfold textV at q0
      have HA : St (fun _ => False) w _ [_] := HM.allocAt rfl #[.string ⟨xk.toArray⟩, .int .i64 xf, .int .i64 xt] 41
      go_upto_region 4 with (fail)
      obtain ⟨wb, hwb⟩ : ∃ wb, wr.alloc (.cells #[.string ⟨xk.toArray⟩, .int .i64 xf, .int .i64 xt] 41) = wb := ⟨_, rfl⟩
      obtain ⟨xb, hxb⟩ : ∃ xb, wr.heap.size = xb := ⟨_, rfl⟩
      rw [hwb, hxb] at HA
      try rw [hwb]
      try simp only [hxb]
      have HA2 : St (fun _ => False) w wb [Blk xb #[.string ⟨xk.toArray⟩, .int .i64 xf, .int .i64 xt] 41] := HA
      clear hwb hxb q0 q1 q2 HM HA
      have d0 := HA2.cell 0 0 rfl rfl
      have d1 := HA2.cell 0 1 rfl rfl
      have d2 := HA2.cell 0 2 rfl rfl
      cases r with
      | false =>
        go_wp2_with (go_at_call 28; go_must (refine (St.callPast (kr _) HA2).mono ?_; rintro e w3 ⟨rfl, H3⟩))
        go_ret
        have hno : stl l = false := stl_false.2 (fun h => by have := (stl_all.1 h i).1 _ hxh.out; rw [hrh.out] at this; cases this)
        rw [hno]
        exact ⟨rfl, H3.below (Nat.le_refl _) (fun _ h => h.elim)⟩
      | true =>
        go_upto_block 3 with (go_at_call 28; go_must (refine (St.callPast (kr _) HA2).mono ?_; rintro e w3 ⟨rfl, H3⟩))
        clear d0 d1 d2 HA2 kr
        go_loopw [5, 19] (fun _ j wr => ∃ (m : Nat), m ≤ l.length ∧ j = .int .i64 m ∧ Hid (∀ j, j < m → pairAt l i j) ∧ St (fun _ => False) w wr [Blk xb #[.string ⟨xk.toArray⟩, .int .i64 xf, .int .i64 xt] 41]) (fun _ j _ => l.length - (intOf j).toNat)
        case atStart => exact ⟨0, by omega, rfl, Lib.hid (fun k hk => absurd hk (by omega)), H3⟩
        case round =>
          clear H3
          obtain ⟨m, hm, rfl, hp, HM⟩ := hrel
          by_cases hml : m < l.length
          · obtain ⟨y, hy⟩ : ∃ y, l[m]? = some y := ⟨_, List.getElem?_eq_getElem hml⟩
            have hyf := hfith.out y (List.mem_of_getElem? hy)
            obtain ⟨q0, q1, q2⟩ := wd_cells (hch.out m y hy) (HM.kept.block b hb id)
            have kj := fun w' => ref_joins ⟨xk, xf, xt⟩ y hxfh.out hyf w'
            have kp := fun w' => ref_place y ⟨xk, xf, xt⟩ w'
            have hone : Hid (∀ a b, l[i]? = some a → l[m]? = some b → a = ⟨xk, xf, xt⟩ ∧ b = y) := Lib.hid (fun a b ha hb => by
              rw [hxh.out] at ha
              rw [hy] at hb
              exact ⟨(Option.some.inj ha).symm, (Option.some.inj hb).symm⟩)
            have hyh := Lib.hid hy
            obtain ⟨J, hJ⟩ : ∃ J, Wd.joins ⟨xk, xf, xt⟩ y = J := ⟨_, rfl⟩
            obtain ⟨P, hP⟩ : ∃ P, y.place ⟨xk, xf, xt⟩ = P := ⟨_, rfl⟩
            rw [hJ] at kj
            rw [hP] at kp
            have hJh := Lib.hid hJ
            have hPh := Lib.hid hP
            clear hJ hP hy hyf
            obtain ⟨yk, yf, yt⟩ := y
            unfold wdV wdC textV at kj kp
            simp only at q0 q1 q2 kj kp
            unfold textV at q0
            have HA : St (fun _ => False) w _ [_, _] := HM.allocAt rfl #[.string ⟨yk.toArray⟩, .int .i64 yf, .int .i64 yt] 41
            go_upto_region 9 with (fail)
            obtain ⟨wb, hwb⟩ : ∃ wb, wr.alloc (.cells #[.string ⟨yk.toArray⟩, .int .i64 yf, .int .i64 yt] 41) = wb := ⟨_, rfl⟩
            obtain ⟨yb, hyb⟩ : ∃ yb, wr.heap.size = yb := ⟨_, rfl⟩
            rw [hwb, hyb] at HA
            try rw [hwb]
            try simp only [hyb]
            have HA2 : St (fun _ => False) w wb [Blk yb #[.string ⟨yk.toArray⟩, .int .i64 yf, .int .i64 yt] 41, Blk xb #[.string ⟨xk.toArray⟩, .int .i64 xf, .int .i64 xt] 41] := HA
            clear hwb hyb q0 q1 q2 HM HA
            have d0 := HA2.cell 0 0 rfl rfl
            have d1 := HA2.cell 0 1 rfl rfl
            have d2 := HA2.cell 0 2 rfl rfl
            have e0 := HA2.cell 1 0 rfl rfl
            have e1 := HA2.cell 1 1 rfl rfl
            have e2 := HA2.cell 1 2 rfl rfl
            by_cases hmi : m = i
            · have z1 : ((m : Int) != (i : Int)) = false := by simp [hmi]
              have z1' : (m != i) = false := by simp [hmi]
              have z2 : ((m : Int) == (i : Int)) = true := by simp [hmi]
              have z2' : (m == i) = true := by simp [hmi]
              have hmih := Lib.hid hmi
              clear hmi
              go_wp2
              go_roundw
              case rel =>
                refine ⟨m + 1, by omega, by go_num, Lib.hid (fun j hj => ?_), HA2.pick [1]⟩
                by_cases e : j = m
                · intro a b _ _ hne
                  exact absurd (e.trans hmih.out) hne
                · exact hp.out j (by omega)
              case measure => simp [intOf]; omega
            · have z1 : ((m : Int) != (i : Int)) = true := by simp; omega
              have z1' : (m != i) = true := by simp [hmi]
              have z2 : ((m : Int) == (i : Int)) = false := by simp; omega
              have z2' : (m == i) = false := by simp [hmi]
              have hmih := Lib.hid hmi
              obtain ⟨lt, hlt1⟩ : ∃ lt, decide (m < i) = lt := ⟨_, rfl⟩
              have hlt2 : decide ((m : Int) < (i : Int)) = lt := by rw [← hlt1]; simp
              obtain ⟨pb, hpb⟩ : ∃ pb, decide (P < 0) = pb := ⟨_, rfl⟩
              have hpair : Hid (pairAt l i m ↔ (J = false ∧ lt = pb)) := Lib.hid (by
                rw [← hJh.out, ← hlt1, ← hpb, ← hPh.out]
                constructor
                · intro h
                  obtain ⟨g1, g2⟩ := h _ _ hxh.out hyh.out hmi
                  exact ⟨g1, by rw [decide_eq_decide]; exact g2⟩
                · rintro ⟨g1, g2⟩ a b ha hb _
                  obtain ⟨rfl, rfl⟩ := hone.out a b ha hb
                  exact ⟨g1, decide_eq_decide.1 g2⟩)
              clear hmi hJh hPh
              have hend : Hid (¬ (J = false ∧ lt = pb) → stl l = false) := Lib.hid (fun hn => stl_false.2 (fun h => hn (hpair.out.1 ((stl_all.1 h i).2 m))))
              have hcs : J = true ∨ (J = false ∧ lt = !pb) ∨ (J = false ∧ lt = pb) := by cases J <;> cases lt <;> cases pb <;> simp
              rcases hcs with rfl | ⟨rfl, hlp⟩ | ⟨rfl, hlp⟩
              · go_wp2_with (go_at_call 24; go_must (refine (St.callPast (kj _) HA2).mono ?_; rintro e w4 ⟨rfl, H4⟩))
                go_ret
                rw [hend.out (by simp)]
                exact ⟨rfl, H4.below (Nat.le_refl _) (fun _ h => h.elim)⟩
              · have hn := Lib.hid (hend.out (by rintro ⟨_, h⟩; rw [hlp] at h; cases pb <;> simp at h))
                clear hend hpair
                subst hlp
                cases pb
                all_goals
                  go_wp2_with (first
                    | (go_at_call 24; go_must (refine (St.callPast (kj _) HA2).mono ?_; rintro e w4 ⟨rfl, H4⟩; have d0 := H4.cell 0 0 rfl rfl; have d1 := H4.cell 0 1 rfl rfl; have d2 := H4.cell 0 2 rfl rfl; have e0 := H4.cell 1 0 rfl rfl; have e1 := H4.cell 1 1 rfl rfl; have e2 := H4.cell 1 2 rfl rfl))
                    | (go_at_call 57; go_must (refine (St.callPast (kp _) H4).mono ?_; rintro e w5 ⟨rfl, H5⟩)))
                  go_ret
                  rw [hn.out]
                  exact ⟨rfl, H5.below (Nat.le_refl _) (fun _ h => h.elim)⟩
              · have hn := Lib.hid (hpair.out.2 ⟨rfl, hlp⟩)
                clear hend hpair
                subst hlp
                cases lt
                all_goals
                  go_wp2_with (first
                    | (go_at_call 24; go_must (refine (St.callPast (kj _) HA2).mono ?_; rintro e w4 ⟨rfl, H4⟩; have d0 := H4.cell 0 0 rfl rfl; have d1 := H4.cell 0 1 rfl rfl; have d2 := H4.cell 0 2 rfl rfl; have e0 := H4.cell 1 0 rfl rfl; have e1 := H4.cell 1 1 rfl rfl; have e2 := H4.cell 1 2 rfl rfl))
                    | (go_at_call 57; go_must (refine (St.callPast (kp _) H4).mono ?_; rintro e w5 ⟨rfl, H5⟩)))
                  go_roundw
                  case rel =>
                    refine ⟨m + 1, by omega, by go_num, Lib.hid (fun j hj => ?_), H5.pick [1]⟩
                    by_cases e : j = m
                    · subst e; exact hn.out
                    · exact hp.out j (by omega)
                  case measure => simp [intOf]; omega
          · obtain rfl : m = l.length := by omega
            go_wp2
            go_roundw
            case rel =>
              refine ⟨i + 1, by omega, by go_num, Lib.hid (fun k hk => ?_), HM.pick []⟩
              by_cases e : k = i
              · subst e
                refine ⟨fun a ha => ?_, fun j => ?_⟩
                · rw [hxh.out] at ha
                  obtain rfl := Option.some.inj ha
                  exact hrh.out
                · by_cases hj : j < l.length
                  · exact hp.out j hj
                  · intro a b _ hb
                    rw [List.getElem?_eq_none (by omega)] at hb
                    cases hb
              · exact hg.out k (by omega)
            case measure => simp [intOf]; omega
    · obtain rfl : i = l.length := by omega
      have hyes : stl l = true := stl_true.2 (stl_all.2 (fun k => by
        by_cases hk : k < l.length
        · exact hg.out k hk
        · refine ⟨fun a ha => ?_, fun j a b ha => ?_⟩ <;> (rw [List.getElem?_eq_none (by omega)] at ha; cases ha)))
      have hyh := Lib.hid hyes
      clear hyes
      go_wp2
      go_ret
      rw [hyh.out]
      exact ⟨rfl, HM.below (Nat.le_refl _) (fun _ h => h.elim)⟩
end Go.Proofs.Ytoffcoegghigoaa
