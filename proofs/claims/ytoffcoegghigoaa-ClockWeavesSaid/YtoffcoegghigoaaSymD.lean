/- slices' stable sort at items; clock's Sorted. Condition: times within bounds, at most 10^9 items. -/
import Derived.Test.YtoffcoegghigoaaSymC
import Derived.Test.YtoffcoegghigoaaClkH
namespace Go.Proofs.Ytoffcoegghigoaa
open Go.RowKit

theorem sym_all {n cap g : Nat} {R : List Value} (hnb : n ≤ 3518437208880) : ∀ (N a m b : Nat), b - a ≤ N → a < m → m < b → SymOK n cap g R a m b
  | 0, a, m, b, h, h1, h2 => absurd h1 (by omega)
  | N + 1, a, m, b, h, h1, h2 => by
    by_cases k1 : a + 1 = m
    · subst k1
      exact sym_one hnb h2
    · by_cases k2 : m + 1 = b
      · subst k2
        exact sym_last hnb (by omega)
      · exact sym_gen hnb (by omega) (by omega) fun a' m' b' h3 h4 h5 => sym_all hnb N a' m' b' (by omega) h4 h5

theorem srt_app {P E : List Itm} {a i : Nat} (hP : P.length = a) (hi : a ≤ i) : srt (P ++ E) a i = P ++ ((isr (E.take (i - a))).reverse ++ E.drop (i - a)) := by
  unfold srt
  rw [List.take_append_of_le_length (by omega), List.take_of_length_le (by omega), List.drop_append, List.drop_append, List.drop_of_length_le (by omega), List.drop_of_length_le (l := P) (by omega), List.nil_append, List.nil_append, hP, Nat.sub_self, List.drop_zero]
theorem fsame_ins {P E L : List Itm} (k : Nat) (h : FSame (P ++ E) L) : FSame ((P ++ (isr (E.take k)).reverse) ++ E.drop k) L := by
  refine FSame.trans ?_ h
  rw [List.append_assoc]
  refine (FSame.refl P).app ?_
  conv => rhs; rw [← List.take_append_drop k E]
  exact (isr_fsame _).app (FSame.refl _)
theorem fsame_mrg {P U V W D L : List Itm} (h : FSame (P ++ (U ++ (V ++ D))) L) (g : Mrg U V W) : FSame ((P ++ W) ++ D) L := by
  refine FSame.trans ?_ h
  rw [List.append_assoc, ← List.append_assoc U]
  exact (FSame.refl P).app (g.2.app (FSame.refl D))

set_option maxHeartbeats 16000000 in
set_option maxRecDepth 100000 in
theorem stable_all {g n cap : Nat} {L : List Itm} {R : List Value} {w : World} {S : Nat → Prop} (hn : L.length = n) (hnb : n ≤ 3518437208880) (hm : ∀ z ∈ L, z.mild) (H : Sep w [Blk g (itms L ++ R).toArray 85] S) :
    Calls Try.prog 85 #[.slice (some ⟨g, 0, none⟩) n cap, .int .i64 n, cmpV] w fun e w' => e = .returned (.tuple #[]) ∧ St S w w' [Blk g (itms (isr L).reverse ++ R).toArray 85] := by
  have H0 := St.refl H
  have ki : Hid (∀ (M : List Itm) (S' : Nat → Prop) (w' : World) (a b : Nat), FSame M L → a ≤ b → b ≤ n → Sep w' [Blk g (itms M ++ R).toArray 85] S' → _) := Lib.hid fun M S' w' a b h1 h2 h3 K => ins_sort (cap := cap) (a := a) (b := b) (L := M) (h1.len.trans hn) hnb (h1.all hm) h2 h3 K
  have kp : Hid (∀ (a m b : Nat), a < m → m < b → SymOK n cap g R a m b) := Lib.hid fun a m b h1 h2 => sym_all hnb (b - a) a m b (Nat.le_refl _) h1 h2
  have hmh := Lib.hid hm
  have hfin : Hid (∀ M, Asc M → FSame M L → M = (isr L).reverse) := Lib.hid fun M h1 h2 => asc_unique h1 (isr_asc L) (h2.trans (isr_fsame L).symm)
  have hln : Hid (∀ M, FSame M L → M.length = n) := Lib.hid fun M h => h.len.trans hn
  have hL0 := Lib.hid (FSame.refl L)
  clear hm H hn
  unfold cmpV at ki ⊢
  go_enter Try.func85, Try.ntmps85
  go_upto_block 1 with (fail)
  go_loopw [7, 8] (fun s7 s8 wr => ∃ (j a b : Nat) (P E : List Itm), s7 = .int .i64 a ∧ s8 = .int .i64 b ∧ Hid (b = a + 20 ∧ P.length = a ∧ a = j * 20 ∧ a ≤ n) ∧ Hid (Chunks 20 P) ∧ Hid (FSame (P ++ E) L) ∧ St S w wr [Blk g (itms (P ++ E) ++ R).toArray 85]) (fun s7 _ _ => n - (intOf s7).toNat)
  case atStart => exact ⟨0, 0, 20, [], L, rfl, rfl, Lib.hid ⟨rfl, rfl, by omega, by omega⟩, Lib.hid (chunks_one List.Pairwise.nil), hL0, H0⟩
  case round =>
    clear H0 hL0
    obtain ⟨j, a, b, P, E, rfl, rfl, hab, hP, hF, HM⟩ := hrel
    obtain ⟨S1, K1, G1⟩ := St.call (l1 := [_]) (l2 := []) HM
    have hle : P.length + E.length = n := by rw [← List.length_append]; exact hln.out _ hF.out
    by_cases hc : b ≤ n
    · have hci : (b : Int) ≤ (n : Int) := by omega
      have k1 := ki.out (P ++ E) S1 wr a b hF.out (by have := hab.out; omega) hc K1
      have hs := srt_app (E := E) (i := b) hab.out.2.1 (by have := hab.out; omega)
      have hb0 := hab.out
      rw [hs, show b - a = 20 by omega] at k1
      have hF2 := Lib.hid (fsame_ins 20 hF.out)
      have hl2 : (isr (E.take 20)).reverse.length = 20 := by rw [List.length_reverse, isr_len, List.length_take]; omega
      have hP2 := Lib.hid (chunks_app hP.out (by rw [hb0.2.1]; exact hb0.2.2.1) (chunks_one (c := 20) (isr_asc (E.take 20))))
      obtain ⟨P', hP'⟩ : ∃ P', P ++ (isr (E.take 20)).reverse = P' := ⟨_, rfl⟩
      obtain ⟨E', hE'⟩ : ∃ E', E.drop 20 = E' := ⟨_, rfl⟩
      rw [← List.append_assoc, hP', hE'] at k1
      rw [hP', hE'] at hF2
      rw [hP'] at hP2
      have hl3 : Hid (P'.length = b) := Lib.hid (by rw [← hP', List.length_append, hl2]; omega)
      have hj : Hid (b = (j + 1) * 20) := Lib.hid (by omega)
      clear hP' hE' hl2 hs hF hP K1 HM hb0
      go_upto_region 4 with (go_at_call 93; go_must (refine k1.mono ?_; rintro e w1 ⟨rfl, H1⟩; have H2 : St S w w1 [Blk g (itms (P' ++ E') ++ R).toArray 85] := G1 _ _ H1; clear H1 G1 k1))
      go_wp2
      go_roundw
      case rel => exact ⟨j + 1, b, b + 20, P', E', rfl, by go_num, Lib.hid ⟨rfl, hl3.out, hj.out, hc⟩, hP2, hF2, H2⟩
      case measure => have := hab.out; simp [intOf]; omega
    · have hci : ¬ (b : Int) ≤ (n : Int) := by omega
      have hb0 := hab.out
      have k1 := ki.out (P ++ E) S1 wr a n hF.out hb0.2.2.2 (Nat.le_refl _) K1
      have hs := srt_app (E := E) (i := n) hab.out.2.1 hb0.2.2.2
      rw [hs] at k1
      have hF2 := Lib.hid (fsame_ins (n - a) hF.out)
      have hP2 := Lib.hid (chunks_app hP.out (by rw [hb0.2.1]; exact hb0.2.2.1) (chunks_one (c := 20) (isr_asc (E.take (n - a)))))
      have hE0 : E.drop (n - a) = [] := List.drop_of_length_le (by omega)
      rw [hE0, List.append_nil] at hF2 k1
      obtain ⟨M, hM⟩ : ∃ M, P ++ (isr (E.take (n - a))).reverse = M := ⟨_, rfl⟩
      rw [hM] at k1 hF2 hP2
      clear hM hs hF hP K1 HM hE0 hle hb0
      go_upto_block 3 with (go_at_call 93; go_must (refine k1.mono ?_; rintro e w1 ⟨rfl, H1⟩; have H2 : St S w w1 [Blk g (itms M ++ R).toArray 85] := G1 _ _ H1; clear H1 G1 k1))
      go_loopw [6, 7, 8, 9] (fun s6 _ _ _ wr => ∃ (c : Nat) (M : List Itm), s6 = .int .i64 c ∧ Hid (20 ≤ c ∧ c ≤ 7036874417760) ∧ Hid (Chunks c M) ∧ Hid (FSame M L) ∧ St S w wr [Blk g (itms M ++ R).toArray 85]) (fun s6 _ _ _ _ => n - (intOf s6).toNat)
      case atStart => exact ⟨20, M, rfl, Lib.hid ⟨by omega, by omega⟩, hP2, hF2, H2⟩
      case round =>
        clear H2 hP2 hF2 hab hci hc
        clear M P E
        obtain ⟨c, M, rfl, hc, hP, hF, HM⟩ := hrel
        have hMl := hln.out _ hF.out
        have hc0 := hc.out
        by_cases hcn : c < n
        · have hcni : (c : Int) < (n : Int) := by omega
          have wc : IntKind.i64.wrap (2 * (c : Int)) = ((2 * c : Nat) : Int) := by rw [IntKind.wrap_i64]; omega
          have wc2 : IntKind.i64.wrap ((c : Int) * 2) = ((2 * c : Nat) : Int) := by rw [IntKind.wrap_i64]; omega
          obtain ⟨d, hd⟩ : ∃ d, 2 * c = d := ⟨_, rfl⟩
          rw [hd] at wc wc2
          have hdh := Lib.hid hd
          clear hd
          go_upto_block 5 with (fail)
          go_loopw [7, 8] (fun s7 s8 wr => ∃ (j a b : Nat) (P E : List Itm), s7 = .int .i64 a ∧ s8 = .int .i64 b ∧ Hid (b = a + d ∧ P.length = a ∧ a = j * d ∧ a ≤ n) ∧ Hid (Chunks d P) ∧ Hid (Chunks c E) ∧ Hid (FSame (P ++ E) L) ∧ St S w wr [Blk g (itms (P ++ E) ++ R).toArray 85]) (fun s7 _ _ => n - (intOf s7).toNat)
          case atStart => exact ⟨0, 0, d, [], M, rfl, by go_num, Lib.hid ⟨by omega, rfl, by omega, by omega⟩, Lib.hid (chunks_one List.Pairwise.nil), hP, hF, HM⟩
          case round =>
            clear HM hP hF hMl
            clear M
            obtain ⟨j, a, b, P, E, rfl, rfl, hab, hP, hE, hF, HM⟩ := hrel
            obtain ⟨S1, K1, G1⟩ := St.call (l1 := [_]) (l2 := []) HM
            have hle : P.length + E.length = n := by rw [← List.length_append]; exact hln.out _ hF.out
            have hd0 := hdh.out
            have hb0 := hab.out
            have wac : IntKind.i64.wrap ((a : Int) + (c : Int)) = ((a + c : Nat) : Int) := by rw [IntKind.wrap_i64]; omega
            obtain ⟨m, hmm⟩ : ∃ m, a + c = m := ⟨_, rfl⟩
            rw [hmm] at wac
            have hmmh := Lib.hid hmm
            clear hmm
            by_cases hcn2 : b ≤ n
            · have hci : (b : Int) ≤ (n : Int) := by omega
              have wbd : IntKind.i64.wrap ((b : Int) + (d : Int)) = ((b + d : Nat) : Int) := by rw [IntKind.wrap_i64]; omega
              have hU := hE.out.first
              have hV := hE.out 1
              rw [Nat.one_mul] at hV
              have hsp : P ++ E = P ++ (E.take c ++ ((E.drop c).take c ++ E.drop d)) := by
                have e1 : E.drop d = (E.drop c).drop c := by rw [List.drop_drop]; congr 1; omega
                rw [e1, List.take_append_drop, List.take_append_drop]
              have lU : a + (E.take c).length = m := by have := hmmh.out; rw [List.length_take]; omega
              have lV : m + ((E.drop c).take c).length = b := by have := hmmh.out; rw [List.length_take, List.length_drop]; omega
              have lD : b + (E.drop d).length = n := by rw [List.length_drop]; omega
              have hE2 : Hid (Chunks c (E.drop d)) := Lib.hid (by have := hE.out.drop (j := 2); rwa [hd0] at this)
              obtain ⟨U, hU0⟩ : ∃ U, E.take c = U := ⟨_, rfl⟩
              obtain ⟨V, hV0⟩ : ∃ V, (E.drop c).take c = V := ⟨_, rfl⟩
              obtain ⟨D, hD0⟩ : ∃ D, E.drop d = D := ⟨_, rfl⟩
              rw [hU0] at hU hsp lU
              rw [hV0] at hV hsp lV
              rw [hD0] at hsp lD hE2
              rw [hsp] at K1 hF
              have k1 := kp.out a m b (by have := hmmh.out; omega) (by have := hmmh.out; omega) P U V D wr S1 hb0.2.1 lU lV lD (hF.out.all hmh.out) hU hV K1
              have hj : Hid (b = (j + 1) * d) := Lib.hid (by rw [Nat.add_mul, Nat.one_mul, ← hb0.2.2.1]; exact hb0.1)
              have hlb : Hid (∀ W, Mrg U V W → (P ++ W).length = b ∧ Chunks d (P ++ W) ∧ FSame ((P ++ W) ++ D) L) := Lib.hid fun W g => ⟨by rw [List.length_append, g.2.len, List.length_append]; omega, chunks_app hP.out (by rw [hb0.2.1]; exact hb0.2.2.1) (chunks_one g.1), fsame_mrg hF.out g⟩
              unfold cmpV at k1
              clear hU0 hV0 hD0 hsp K1 HM hb0 hU hV lU lV lD hF hP hE hle hd0
              go_upto_region 11 with (go_at_call 94; go_must (refine k1.mono ?_; rintro e w1 ⟨rfl, W, hW, H1⟩; have H2 : St S w w1 [Blk g (itms (P ++ (W ++ D)) ++ R).toArray 85] := G1 _ _ H1; clear H1 G1 k1))
              go_wp2
              go_roundw
              case rel =>
                obtain ⟨q1, q2, q3⟩ := hlb.out W hW
                exact ⟨j + 1, b, b + d, P ++ W, D, rfl, by go_num, Lib.hid ⟨rfl, q1, hj.out, hcn2⟩, Lib.hid q2, hE2, Lib.hid q3, by rw [List.append_assoc]; exact H2⟩
              case measure => have := hab.out; have := hdh.out; simp [intOf]; omega
            · have hci : ¬ (b : Int) ≤ (n : Int) := by omega
              by_cases hmn : m < n
              · have hmni : (m : Int) < (n : Int) := by omega
                have hU := hE.out.first
                have hV := hE.out 1
                rw [Nat.one_mul] at hV
                have hsp : P ++ E = P ++ (E.take c ++ ((E.drop c).take c ++ [])) := by
                  have e1 : (E.drop c).take c = E.drop c := List.take_of_length_le (by rw [List.length_drop]; omega)
                  rw [e1, List.append_nil, List.take_append_drop]
                have lU : a + (E.take c).length = m := by have := hmmh.out; rw [List.length_take]; omega
                have lV : m + ((E.drop c).take c).length = n := by have := hmmh.out; rw [List.length_take, List.length_drop]; omega
                obtain ⟨U, hU0⟩ : ∃ U, E.take c = U := ⟨_, rfl⟩
                obtain ⟨V, hV0⟩ : ∃ V, (E.drop c).take c = V := ⟨_, rfl⟩
                rw [hU0] at hU hsp lU
                rw [hV0] at hV hsp lV
                rw [hsp] at K1 hF
                have k1 := kp.out a m n (by have := hmmh.out; omega) hmn P U V [] wr S1 hb0.2.1 lU lV (by simp) (hF.out.all hmh.out) hU hV K1
                have hlb : Hid (∀ W, Mrg U V W → Chunks d (P ++ (W ++ [])) ∧ FSame (P ++ (W ++ [])) L) := Lib.hid fun W g => ⟨by rw [List.append_nil]; exact chunks_app hP.out (by rw [hb0.2.1]; exact hb0.2.2.1) (chunks_one g.1), by rw [← List.append_assoc]; exact fsame_mrg hF.out g⟩
                unfold cmpV at k1
                clear hU0 hV0 hsp K1 HM hb0 hU hV lU lV hF hP hE hle hd0
                go_upto_region 16 with (go_at_call 94; go_must (refine k1.mono ?_; rintro e w1 ⟨rfl, W, hW, H1⟩; have H2 : St S w w1 [Blk g (itms (P ++ (W ++ [])) ++ R).toArray 85] := G1 _ _ H1; clear H1 G1 k1))
                go_wp2
                go_roundw
                case rel =>
                  obtain ⟨q2, q3⟩ := hlb.out W hW
                  exact ⟨d, _, by go_num, Lib.hid (by have := hdh.out; have := hc.out; omega), Lib.hid q2, Lib.hid q3, H2⟩
                case measure => have := hc.out; have := hdh.out; simp [intOf]; omega
              · have hmni : ¬ (m : Int) < (n : Int) := by omega
                have hCh : Hid (Chunks d (P ++ E)) := Lib.hid (chunks_app hP.out (by rw [hb0.2.1]; exact hb0.2.2.1) (chunks_one (hE.out.whole (by have := hmmh.out; omega))))
                clear K1 hb0 hP hE hle hd0 G1
                go_wp2
                go_roundw
                case rel => exact ⟨d, _, by go_num, Lib.hid (by have := hdh.out; have := hc.out; omega), hCh, hF, HM⟩
                case measure => have := hc.out; have := hdh.out; simp [intOf]; omega
        · have hcni : ¬ (c : Int) < (n : Int) := by omega
          have he := hfin.out M (hP.out.whole (by omega)) hF.out
          go_wp2
          go_end0
          rw [← he]
          exact ⟨rfl, HM⟩
end Go.Proofs.Ytoffcoegghigoaa
