/- The walks of the pen: word, Number, Signed, Text, Fixed, Bytes. Condition: what is written is of moderate size. -/
import Derived.Test.YtbikjhmdpgoofabPenM
import Derived.Test.YtbikjhmdpgoofabGen
import Derived.Test.YtbikjhmdpgoofabMore
import Derived.Test.YtbikjhmdpgoofabCalm
import Derived.Test.YtbikjhmdpgoofabRet
import Derived.Test.YtbikjhmdpgoofabApp
import Derived.IntWalk
namespace Go.Proofs.Ytbikjhmdpgoofab
open Go.RowKit

/-- A pen that wrote these bytes. -/
def PenAt (b : Nat) (l : List UInt8) : SP := SP.ex fun v : Value => SP.all [Blk b #[v] 55, Row 5 1 v l.length (bvs l)]
theorem PenAt.open {b : Nat} {l : List UInt8} {w0 w : World} {L : List SP} {S : Nat → Prop} (H : St S w0 w (PenAt b l :: L)) : ∃ v, St S w0 w (Blk b #[v] 55 :: Row 5 1 v l.length (bvs l) :: L) := by
  obtain ⟨v, H⟩ := St.ex_iff.1 H
  exact ⟨v, St.all_iff.1 H⟩
theorem PenAt.mk {b : Nat} {l : List UInt8} {w0 w : World} {L : List SP} {S : Nat → Prop} {v : Value} (H : St S w0 w (Blk b #[v] 55 :: Row 5 1 v l.length (bvs l) :: L)) : St S w0 w (PenAt b l :: L) :=
  St.ex_iff.2 ⟨v, St.all_iff.2 H⟩

theorem or_more (c : Nat) : bits BinOp.or IntKind.u8 ((c : Int) % 256) 128 = ((c % 128 + 128 : Nat) : Int) := by
  have key : ∀ r : Fin 256, bits BinOp.or IntKind.u8 ((r.val : Nat) : Int) 128 = ((r.val % 128 + 128 : Nat) : Int) := by decide +kernel
  have := key ⟨c % 256, Nat.mod_lt _ (by omega)⟩
  simp only at this
  rw [show ((c : Int) % 256) = ((c % 256 : Nat) : Int) by omega, this]
  omega

set_option maxHeartbeats 1000000 in
set_option maxRecDepth 100000 in
theorem pen_word {b : Nat} {l : List UInt8} (n : Nat) {w : World} {S : Nat → Prop} (hn : n < 18446744073709551616) (hl : l.length ≤ 70000000000000) (H : Sep w [PenAt b l] S) :
    Calls Try.prog 69 #[.pointer (some ⟨b, 0, none⟩), .int .u64 n] w fun e w' => e = .returned (.tuple #[]) ∧ St S w w' [PenAt b (l ++ vint n)] := by
  have H0 := St.refl H
  go_enter Try.func69, Try.ntmps69
  go_wp2
  go_loopw [1] (fun x wr => ∃ (f c : Nat) (pre : List UInt8), x = .int .u64 c ∧ c < 128 ^ (f + 1) ∧ c < 18446744073709551616 ∧ pre.length + f = 10 ∧ pre ++ vintF f c = vint n ∧ St S w wr [PenAt b (l ++ pre)]) (fun x _ => (intOf x).toNat)
  case atStart => exact ⟨10, n, [], rfl, by omega, hn, rfl, rfl, by simpa using H0⟩
  case round =>
    clear H0
    obtain ⟨f, c, pre, rfl, hc, hc2, hp, hv, HL⟩ := hrel
    obtain ⟨L, hL⟩ : ∃ L, l ++ pre = L := ⟨_, rfl⟩
    rw [hL] at HL
    have hpl : L.length ≤ 70000000000010 := by rw [← hL]; simp; omega
    have hLh := Lib.hid hL
    clear hL
    obtain ⟨v, HL⟩ := PenAt.open HL
    have c0 := HL.cell 0 0 rfl rfl
    have hb := HL.blk_lt 0 rfl
    by_cases hlt : 128 ≤ c
    · obtain ⟨x, hx⟩ : ∃ x, c % 128 + 128 = x := ⟨_, rfl⟩
      have hor : bits BinOp.or IntKind.u8 ((c : Int) % 256) 128 = (x : Int) := by rw [or_more]; omega
      have hcons : vintF f c = UInt8.ofNat x :: vintF (f - 1) (c / 128) := by
        cases f with
        | zero => simp at hc; omega
        | succ f => rw [vintF, if_neg (by omega), hx]; rfl
      have hf1 : 1 ≤ f := by
        cases f with
        | zero => simp at hc; omega
        | succ f => omega
      have hbx := bv_ofNat (n := x) (by omega)
      have hbxh := Lib.hid hbx
      rw [hcons] at hv
      have hvh := Lib.hid hv
      have hch := Lib.hid hc
      clear hbx hcons hv hx hc
      go_wp2_with (at_builtin; go_must (refine St.list_app (HL.skip _) 1 rfl rfl (.tmp 12) (.tmp 16) 29 rfl Try.underlying29 Try.info5 (by decide) rfl [.int .u8 x] rfl rfl (new_cells #[.int .u8 x] _) (by simp [Value.oneCell']) (by omega) (by omega) ?_; intro g cap2 w3 H4 hz3; have c5 := H4.cell 0 0 rfl rfl; have f5 := H4.free 0 0 rfl))
      go_roundw
      case rel =>
        refine ⟨f - 1, c / 128, pre ++ [UInt8.ofNat x], rfl, ?_, by omega, by simp; omega, by rw [List.append_assoc]; exact hvh.out, ?_⟩
        · have h := hch.out
          obtain ⟨k, rfl⟩ : ∃ k, f = k + 1 := ⟨f - 1, by omega⟩
          rw [Nat.pow_succ] at h
          show c / 128 < 128 ^ (k + 1 - 1 + 1)
          simp only [Nat.add_sub_cancel]
          omega
        · have H5 := H4.set 0 rfl 0 (.slice (some ⟨g, 0, none⟩) (L.length + 1) cap2)
          refine PenAt.mk (L := []) (v := .slice (some ⟨g, 0, none⟩) (L.length + 1) cap2) ?_
          have e0 : l ++ (pre ++ [UInt8.ofNat x]) = L ++ [UInt8.ofNat x] := by rw [← List.append_assoc, hLh.out]
          have e2 : bvs (L ++ [UInt8.ofNat x]) = bvs L ++ [.int .u8 x] := by rw [bvs_append, ← hbxh.out]; rfl
          rw [e0, e2, List.length_append, List.length_singleton]
          exact H5
      case measure => simp [intOf]; omega
    · have hv2 := hv
      rw [vintF_small (by omega)] at hv2
      have hvh := Lib.hid hv2
      have hbx := bv_ofNat (n := c) (by omega)
      have hbxh := Lib.hid hbx
      have hcm : (c : Int) % 256 = c := by omega
      clear hv hv2 hbx hc
      go_wp2_with (at_builtin; go_must (refine St.list_app (HL.skip _) 1 rfl rfl (.tmp 24) (.tmp 27) 29 rfl Try.underlying29 Try.info5 (by decide) rfl [.int .u8 c] rfl rfl (new_cells #[.int .u8 c] _) (by simp [Value.oneCell']) (by omega) (by omega) ?_; intro g cap2 w3 H4 hz3; have c5 := H4.cell 0 0 rfl rfl; have f5 := H4.free 0 0 rfl))
      go_end0
      refine ⟨rfl, ?_⟩
      have H5 := H4.set 0 rfl 0 (.slice (some ⟨g, 0, none⟩) (L.length + 1) cap2)
      refine PenAt.mk (L := []) (v := .slice (some ⟨g, 0, none⟩) (L.length + 1) cap2) ?_
      rw [← hvh.out]
      have e0 : l ++ (pre ++ [UInt8.ofNat c]) = L ++ [UInt8.ofNat c] := by rw [← List.append_assoc, hLh.out]
      have e2 : bvs (L ++ [UInt8.ofNat c]) = bvs L ++ [.int .u8 c] := by rw [bvs_append, ← hbxh.out]; rfl
      rw [e0, e2, List.length_append, List.length_singleton]
      exact H5

theorem pen_number {b : Nat} {l : List UInt8} (n : Int) {w : World} {S : Nat → Prop} (hn : n ≤ 9223372036854775807) (hl : l.length ≤ 70000000000000) (H : Sep w [PenAt b l] S) :
    Calls Try.prog 21 #[.pointer (some ⟨b, 0, none⟩), .int .i64 n] w fun e w' => e = .returned (.bool (decide (0 ≤ n))) ∧ St S w w' [PenAt b (l ++ if 0 ≤ n then vint n.toNat else [])] := by
  by_cases h0 : 0 ≤ n
  · obtain ⟨k, rfl⟩ := Int.eq_ofNat_of_zero_le h0
    have e1 : decide ((k : Int) < 0) = false := by simp
    have e2 : decide (0 ≤ (k : Int)) = true := by simp
    have e3 : (if 0 ≤ (k : Int) then vint (k : Int).toNat else []) = vint k := by rw [if_pos h0]; simp
    rw [e2, e3]
    have x1 : IntKind.u64.wrap (k : Int) = k := IntWalk.u64_in _ (by omega)
    have hk : k < 18446744073709551616 := by omega
    clear e2 e3 h0
    go_enter Try.func21, Try.ntmps21
    go_wp2_with fail
    refine (pen_word k hk hl H).mono ?_
    rintro e w1 ⟨rfl, H1⟩
    go_wp2
    go_ret
    exact ⟨rfl, H1⟩
  · have e1 : decide (n < 0) = true := by simpa using h0
    have e2 : decide (0 ≤ n) = false := by simpa using h0
    rw [e2, if_neg h0, List.append_nil]
    clear h0 e2
    have H0 := St.refl H
    go_enter Try.func21, Try.ntmps21
    go_wp2
    go_ret
    exact ⟨rfl, H0⟩
theorem pen_number_nil (n : Int) (w : World) : Calls Try.prog 21 #[.pointer none, .int .i64 n] w fun e w' => e = .returned (.bool false) ∧ w' = w := by
  go_enter Try.func21, Try.ntmps21
  go_wp2
  go_ret
  exact ⟨rfl, rfl⟩
theorem pen_signed_nil (n : Int) (w : World) : Calls Try.prog 23 #[.pointer none, .int .i64 n] w fun e w' => e = .returned (.tuple #[]) ∧ w' = w := by
  go_enter Try.func23, Try.ntmps23
  go_wp2
  exact bodyPost_ret (results_none rfl _ _ _) rfl ⟨rfl, rfl⟩
theorem pen_signed {b : Nat} {l : List UInt8} (n : Int) {w : World} {S : Nat → Prop} (hn : -9223372036854775808 ≤ n ∧ n ≤ 9223372036854775807) (hl : l.length ≤ 70000000000000) (H : Sep w [PenAt b l] S) :
    Calls Try.prog 23 #[.pointer (some ⟨b, 0, none⟩), .int .i64 n] w fun e w' => e = .returned (.tuple #[]) ∧ St S w w' [PenAt b (l ++ vint (zig n))] := by
  by_cases h0 : 0 ≤ n
  · obtain ⟨k, rfl⟩ := Int.eq_ofNat_of_zero_le h0
    have e1 : decide ((k : Int) < 0) = false := by simp
    rw [zig_pos]
    have hk : 2 * k < 18446744073709551616 := by omega
    clear h0
    go_enter Try.func23, Try.ntmps23
    go_wp2_with fail
    rw [show ((k : Int) * 2) = ((2 * k : Nat) : Int) by omega]
    refine (pen_word (2 * k) hk hl H).mono ?_
    rintro e w1 ⟨rfl, H1⟩
    go_wp2
    go_end0
    exact ⟨rfl, H1⟩
  · have e1 : decide (n < 0) = true := by simpa using h0
    have hz := zig_neg (show n < 0 by omega)
    obtain ⟨z, hzz⟩ : ∃ z, zig n = z := ⟨_, rfl⟩
    rw [hzz] at hz ⊢
    have e2 : bits BinOp.xor IntKind.u64 IntKind.u64.max (IntKind.u64.wrap (IntKind.u64.wrap n * 2)) = (z : Int) := by
      have x1 : IntKind.u64.wrap n = n + 18446744073709551616 := by simp [IntKind.wrap, IntKind.bits, IntKind.signed]; omega
      have x2 : IntKind.u64.wrap ((n + 18446744073709551616) * 2) = ((2 * n + 18446744073709551616).toNat : Int) := by simp [IntKind.wrap, IntKind.bits, IntKind.signed]; omega
      rw [x1, x2, xor_max _ (by omega)]
      omega
    have hk : z < 18446744073709551616 := by omega
    clear hzz h0 hz
    go_enter Try.func23, Try.ntmps23
    go_wp2_with fail
    refine (pen_word z hk hl H).mono ?_
    rintro e w1 ⟨rfl, H1⟩
    go_wp2
    go_end0
    exact ⟨rfl, H1⟩

/-- What is appended of bytes that can be read. -/
theorem BytesRO.news {S : Nat → Prop} {w w' : World} {ad : Option Addr} {n cap : Nat} {bs : List UInt8} (hv : BytesRO S w (.slice ad n cap) bs) (hk : Kept S w w') :
    n = bs.length ∧ (ad = none → n = 0) ∧ ∀ a, ad = some a → ∀ j u, (bvs bs)[j]? = some u → w'.cell? (a.add j) = some u := by
  obtain ⟨ad', cap', h, _, h2⟩ := hv
  simp only [Value.slice.injEq] at h
  obtain ⟨rfl, rfl, rfl⟩ := h
  refine ⟨rfl, fun h => ?_, fun a ha j u hu => ?_⟩
  · by_cases h0 : bs = []
    · subst h0; rfl
    · obtain ⟨b, o, e, _⟩ := h2 h0
      rw [h] at e
      cases e
  · have hj : j < bs.length := by have := (List.getElem?_eq_some_iff.1 hu).1; rwa [length_bvs] at this
    obtain ⟨b, o, e, h3, h4, h5⟩ := h2 (by intro h; subst h; simp at hj)
    rw [ha] at e
    cases e
    rw [Addr.add_mid, World.cell?_of_block (w := w) (hk.block b h3 h4), h5 j hj, ← hu]
    simp [bvs, hj]
/-- Bytes in a block that the call doesn't touch. -/
theorem ro_obj {w : World} {S S2 : Nat → Prop} {g n : Nat} {bs : List UInt8} {t : TypeId} {f : Nat × Nat} (h : (ObjAt g (.cells (bvs bs).toArray t f)).on w S2) (hd : ∀ k, S2 k → ¬ S k) (hn : bs.length = n) : BytesRO S w (.slice (some ⟨g, 0, none⟩) n n) bs :=
  ⟨_, n, by rw [hn], by omega, fun _ => ⟨g, 0, rfl, blk_lt h.1, hd g ((h.2 g).2 rfl), fun i hi => by have h1 := h.1; rw [Nat.zero_add, cell_blk h1]; simp [bvs, hi]⟩⟩
theorem ro_row {w : World} {S S2 : Nat → Prop} {v : Value} {n : Nat} {bs : List UInt8} (h : (Row 5 1 v n (bvs bs)).on w S2) (hd : ∀ k, S2 k → ¬ S k) : BytesRO S w v bs := by
  obtain ⟨h1, h2⟩ := h
  have hn : n = bs.length := by have := h1.1; rw [length_bvs] at this; omega
  subst hn
  rcases own_shape h1 with ⟨rfl, h0⟩ | ⟨g, cap, rfl, hc, hg⟩
  · obtain rfl : bs = [] := List.eq_nil_of_length_eq_zero h0
    exact ⟨none, 0, rfl, Nat.le_refl _, fun h => absurd rfl h⟩
  · exact ⟨_, cap, rfl, hc, fun _ => ⟨g, 0, rfl, hg, hd g ((h2 g).2 (by simp [Value.ownBlock])), fun i hi => by rw [Nat.zero_add]; exact own_cell h1 (by simp [bvs, hi])⟩⟩
theorem own_ro {w : World} {v : Value} {n : Nat} {l : List UInt8} (h : w.ownsRow 0 5 1 v n (bvs l)) : BytesRO (fun _ => False) w v l ∧ n = l.length := by
  have hn : n = l.length := by have := h.1; rw [length_bvs] at this; omega
  refine ⟨?_, hn⟩
  rcases own_shape h with ⟨rfl, h0⟩ | ⟨g, cap, rfl, hc, hg⟩
  · obtain rfl : l = [] := List.eq_nil_of_length_eq_zero (by omega)
    exact ⟨none, 0, rfl, Nat.le_refl _, fun h => absurd rfl h⟩
  · subst hn
    exact ⟨_, cap, rfl, hc, fun _ => ⟨g, 0, rfl, hg, id, fun i hi => by rw [Nat.zero_add]; exact own_cell h (by simp [bvs, hi])⟩⟩

set_option maxRecDepth 100000 in
theorem bytes_clone {v : Value} {bs : List UInt8} {w : World} (hv : BytesRO (fun _ => False) w v bs) (hl : bs.length ≤ 140000000000000) :
    Calls Try.prog 71 #[v] w fun e w' => ∃ v', e = .returned v' ∧ St (fun _ => False) w w' [Row 5 1 v' bs.length (bvs bs)] := by
  obtain ⟨ad, cap, rfl, hcap, hcell⟩ := id hv
  cases ad with
  | none =>
    have h0 : bs = [] := by
      by_cases h : bs = []
      · exact h
      · obtain ⟨b, o, e, _⟩ := hcell h
        cases e
    subst h0
    have hq := fun w => Lib.run_eql_slice_nil (P := Try.prog) w 29 5 none 0 cap 0 0 Try.underlying29
    go_enter Try.func71, Try.ntmps71
    go_wp2
    go_ret
    exact ⟨_, rfl, (St.nil _ w).row_nil 5 1⟩
  | some a =>
    have hnew : St (fun _ => False) w (w.alloc (.cells #[] 5)) [Row 5 1 (.slice (some ⟨w.heap.size, 0, none⟩) 0 0) 0 []] := by
      refine ⟨(Kept.refl _ _).alloc _, fun k => k = w.heap.size, ⟨?_, fun k => by simp [Value.ownBlock, eq_comm]⟩, fun k h => .inr (by omega), trivial⟩
      exact World.ownsRow_lit w #[] 0 (Nat.zero_le _) (by simp [maxLen]) rfl
    obtain ⟨_, hA, hnews⟩ := BytesRO.news hv hnew.kept
    have hlen : (bvs bs).length = bs.length * 1 := by rw [length_bvs, Nat.mul_one]
    have hb : (0 + bs.length) * 1 ≤ 140737488355328 := by omega
    clear hcell
    have hq := fun w => Lib.run_eql_slice_nil (P := Try.prog) w 29 5 (some a) bs.length cap 0 0 Try.underlying29
    go_enter Try.func71, Try.ntmps71
    go_wp2_with (at_builtin; go_must (refine St.list_add hnew 0 rfl rfl (.tmp 5) (.tmp 6) 29 rfl Try.underlying29 Try.info5 (by decide) rfl (bvs bs) rfl hlen hA hnews one_bvs hb ?_; intro v' w1 H1 hz))
    go_ret
    exact ⟨v', rfl, by simpa using H1⟩

theorem pen_bytes {b : Nat} {l : List UInt8} {w : World} {S : Nat → Prop} (hl : l.length ≤ 140000000000000) (H : Sep w [PenAt b l] S) :
    Calls Try.prog 28 #[.pointer (some ⟨b, 0, none⟩)] w fun e w' => ∃ v', e = .returned v' ∧ St S w w' [Row 5 1 v' l.length (bvs l), PenAt b l] := by
  have H0 := St.refl H
  obtain ⟨v, H1⟩ := PenAt.open (St.refl H)
  have c0 := H1.cell 0 0 rfl rfl
  have hro := (own_ro (H1.row 1 rfl)).1
  go_enter Try.func28, Try.ntmps28
  go_wp2_with fail
  refine (bytes_clone hro hl).mono ?_
  rintro e w1 ⟨v', rfl, H2⟩
  have H3 := H0.call0 H2
  go_wp2
  go_ret
  exact ⟨v', rfl, H3⟩
theorem pen_bytes_nil (w : World) : Calls Try.prog 28 #[.pointer none] w fun e w' => e = .returned (.slice none 0 0) ∧ w' = w := by
  go_enter Try.func28, Try.ntmps28
  go_wp2
  go_ret
  exact ⟨rfl, rfl⟩

theorem pen_fixed {b : Nat} {l bs : List UInt8} {v : Value} {w : World} {S : Nat → Prop} (hl : l.length + bs.length ≤ 140000000000000) (hv : BytesRO S w v bs) (H : Sep w [PenAt b l] S) :
    Calls Try.prog 27 #[.pointer (some ⟨b, 0, none⟩), v] w fun e w' => e = .returned (.tuple #[]) ∧ St S w w' [PenAt b (l ++ bs)] := by
  obtain ⟨ad, cap, rfl, hcap, _⟩ := id hv
  obtain ⟨x, H1⟩ := PenAt.open (St.refl H)
  have H1 : St S w w [_, _] := H1
  have c0 := H1.cell 0 0 rfl rfl
  have hb0 := H1.blk_lt 0 rfl
  obtain ⟨_, hA, hnews⟩ := BytesRO.news hv (Kept.refl S w)
  have hlen : (bvs bs).length = bs.length * 1 := by rw [length_bvs, Nat.mul_one]
  have hb : (l.length + bs.length) * 1 ≤ 140737488355328 := by omega
  go_enter Try.func27, Try.ntmps27
  go_wp2_with (at_builtin; go_must (refine St.list_add H1 1 rfl rfl (.tmp 10) (.tmp 11) 29 rfl Try.underlying29 Try.info5 (by decide) rfl (bvs bs) rfl hlen hA hnews one_bvs hb ?_; intro v' w1 H2 hz; obtain ⟨ao', cap', rfl, _, _⟩ := slice_form' (H2.row 1 rfl); have c1 := H2.cell 0 0 rfl rfl; have f1 := H2.free 0 0 rfl))
  go_end0
  have H3 := H2.set 0 rfl 0 (.slice ao' (l.length + bs.length) cap')
  refine ⟨rfl, PenAt.mk (L := []) (v := .slice ao' (l.length + bs.length) cap') ?_⟩
  rw [bvs_append, List.length_append]
  exact H3
theorem pen_fixed_nil (ad : Option Addr) (n cap : Nat) (w : World) : Calls Try.prog 27 #[.pointer none, .slice ad n cap] w fun e w' => e = .returned (.tuple #[]) ∧ w' = w := by
  go_enter Try.func27, Try.ntmps27
  go_wp2
  go_end0
  exact ⟨rfl, rfl⟩

theorem pen_text {b : Nat} {l bs : List UInt8} {v : Value} {w : World} {S : Nat → Prop} (hl : l.length ≤ 70000000000000) (hbl : bs.length ≤ 9223372036854775807) (hv : BytesRO S w v bs) (H : Sep w [PenAt b l] S) :
    Calls Try.prog 25 #[.pointer (some ⟨b, 0, none⟩), v] w fun e w' => e = .returned (.bool (decide (bs.length ≤ 4096))) ∧ St S w w' [PenAt b (l ++ if bs.length ≤ 4096 then vint bs.length ++ bs else [])] := by
  obtain ⟨ad, cap, rfl, hcap, _⟩ := id hv
  have H0 := St.refl H
  by_cases h0 : bs.length ≤ 4096
  · have e1 : decide ((4096 : Int) < bs.length) = false := by simp; omega
    have e2 : decide (bs.length ≤ 4096) = true := by simpa using h0
    rw [e2, if_pos h0, ← List.append_assoc]
    have x1 : IntKind.u64.wrap (bs.length : Int) = bs.length := IntWalk.u64_in _ (by omega)
    have hvl := vint_len bs.length
    have hlen : (bvs bs).length = bs.length * 1 := by rw [length_bvs, Nat.mul_one]
    clear e2
    go_enter Try.func25, Try.ntmps25
    go_wp2_with fail
    refine (pen_word bs.length (by omega) hl H).mono ?_
    rintro e w1 ⟨rfl, H1⟩
    obtain ⟨L, hL⟩ : ∃ L, l ++ vint bs.length = L := ⟨_, rfl⟩
    have hLl : L.length ≤ 70000000000011 := by rw [← hL]; simp; omega
    rw [hL] at H1
    have hLh := Lib.hid hL
    clear hL
    obtain ⟨x, H2⟩ := PenAt.open H1
    have H2 : St S w w1 [_, _] := H2
    have c0 := H2.cell 0 0 rfl rfl
    have hb0 := H2.blk_lt 0 rfl
    obtain ⟨_, hA, hnews⟩ := BytesRO.news hv H2.kept
    have hb : (L.length + bs.length) * 1 ≤ 140737488355328 := by omega
    go_wp2_with (at_builtin; go_must (refine St.list_add H2 1 rfl rfl (.tmp 21) (.tmp 22) 29 rfl Try.underlying29 Try.info5 (by decide) rfl (bvs bs) rfl hlen hA hnews one_bvs hb ?_; intro v' w2 H3 hz; obtain ⟨ao', cap', rfl, _, _⟩ := slice_form' (H3.row 1 rfl); have c1 := H3.cell 0 0 rfl rfl; have f1 := H3.free 0 0 rfl))
    go_ret
    have H4 := H3.set 0 rfl 0 (.slice ao' (L.length + bs.length) cap')
    rw [hLh.out]
    refine ⟨rfl, PenAt.mk (L := []) (v := .slice ao' (L.length + bs.length) cap') ?_⟩
    rw [bvs_append, List.length_append]
    exact H4
  · have e1 : decide ((4096 : Int) < bs.length) = true := by simp; omega
    have e2 : decide (bs.length ≤ 4096) = false := by simpa using h0
    rw [e2, if_neg h0, List.append_nil]
    clear h0 e2
    go_enter Try.func25, Try.ntmps25
    go_wp2
    go_ret
    exact ⟨rfl, H0⟩
theorem pen_text_nil (ad : Option Addr) (n cap : Nat) (w : World) : Calls Try.prog 25 #[.pointer none, .slice ad n cap] w fun e w' => e = .returned (.bool false) ∧ w' = w := by
  go_enter Try.func25, Try.ntmps25
  go_wp2
  go_ret
  exact ⟨rfl, rfl⟩

end Go.Proofs.Ytbikjhmdpgoofab
