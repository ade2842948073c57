/- StorePlays: ops that came in; bytes lent while others lie there. -/
import Derived.Test.YtbikjhmdpgoofabStoreJ
import Derived.Test.YtbikjhmdpgoofabStoreG
import Derived.Test.YtbikjhmdpgoofabRefE
import Derived.Test.YtbikjhmdpgoofabInM
import Derived.Test.YtbikjhmdpgoofabScript
namespace Go.Proofs.Ytbikjhmdpgoofab
open Go.RowKit

/-- An op as it lies in memory. -/
structure OpV where
  kind : Int
  at' : Int
  n : Int
  Bv : Value
  kv : Value
  B : List UInt8
  keep : List Bool
def OpV.fits (w : World) (x : OpV) : Prop := (-9223372036854775808 ≤ x.kind ∧ x.kind ≤ 9223372036854775807) ∧ (-9223372036854775808 ≤ x.at' ∧ x.at' ≤ 9223372036854775807) ∧ (-9223372036854775808 ≤ x.n ∧ x.n ≤ 9223372036854775807) ∧ BytesRO (fun _ => False) w x.Bv x.B ∧ x.B.length ≤ 9223372036854775807 ∧ BoolsRO (fun _ => False) w x.kv x.keep
def OpsRO (w : World) (v : Value) (l : List OpV) : Prop :=
  ∃ ad cap, v = .slice ad l.length cap ∧ l.length ≤ 9223372036854775807 ∧ (∀ x ∈ l, x.fits w) ∧
    (l ≠ [] → ∃ b o, ad = some ⟨b, o, none⟩ ∧ b < w.heap.size ∧ ∀ i x, l[i]? = some x → w.rangeAt b (o + i * 5) (opCells x.kind x.at' x.n x.Bv x.kv).toList)
theorem opv_bounds {n : Int} (h : (Lit.int .i64 n).wf = true) : -9223372036854775808 ≤ n ∧ n ≤ 9223372036854775807 := by
  simp only [Lit.wf, Bool.and_eq_true, decide_eq_true_eq] at h
  simp [IntKind.min, IntKind.max, IntKind.signed, IntKind.bits] at h
  exact h
theorem opv_read {w : World} {cs : List Value} (h : R Try.prog w 86 cs) : ∃ x : OpV, cs = (opCells x.kind x.at' x.n x.Bv x.kv).toList ∧ x.fits w := by
  have hl : cs.length = 5 := (R.struct Try.underlying86 h).1.trans (by kernel_rfl)
  obtain ⟨c0, c1, c2, c3, c4, rfl⟩ : ∃ a b c d e, cs = [a, b, c, d, e] := by
    match cs, hl with
    | [a, b, c, d, e], _ => exact ⟨a, b, c, d, e, rfl⟩
  have r0 : R Try.prog w 3 [c0] := R.field Try.underlying86 h 0 rfl (o := 0) (n := 1) rfl rfl (by kernel_rfl)
  have r1 : R Try.prog w 3 [c1] := R.field Try.underlying86 h 1 rfl (o := 1) (n := 1) rfl rfl (by kernel_rfl)
  have r2 : R Try.prog w 3 [c2] := R.field Try.underlying86 h 2 rfl (o := 2) (n := 1) rfl rfl (by kernel_rfl)
  have r3 : R Try.prog w 29 [c3] := R.field Try.underlying86 h 3 rfl (o := 3) (n := 1) rfl rfl (by kernel_rfl)
  have r4 : R Try.prog w 84 [c4] := R.field Try.underlying86 h 4 rfl (o := 4) (n := 1) rfl rfl (by kernel_rfl)
  obtain ⟨n0, e0, g0⟩ := R.int Try.underlying3 r0
  obtain ⟨n1, e1, g1⟩ := R.int Try.underlying3 r1
  obtain ⟨n2, e2, g2⟩ := R.int Try.underlying3 r2
  obtain ⟨v3, l3, e3, h3, h3'⟩ := R.bytes Try.underlying29 Try.underlying5 (by kernel_rfl) r3
  obtain ⟨v4, l4, e4, h4⟩ := R.bools Try.underlying84 Try.underlying4 (by kernel_rfl) r4
  simp only [List.cons.injEq, and_true] at e0 e1 e2 e3 e4
  subst e0 e1 e2 e3 e4
  exact ⟨⟨n0, n1, n2, c3, c4, l3, l4⟩, rfl, opv_bounds g0, opv_bounds g1, opv_bounds g2, h3, h3', h4⟩
theorem opvs_read {w : World} {cs : List Value} (h : R Try.prog w 78 cs) : ∃ v l, cs = [v] ∧ OpsRO w v l := by
  obtain ⟨ao, cap, l, rfl, h1, h2, h3⟩ := R.list (p := fun cs (x : OpV) => cs = (opCells x.kind x.at' x.n x.Bv x.kv).toList ∧ x.fits w) Try.underlying78 (size := 5) (by kernel_rfl) (by omega) (fun cs' h => opv_read h) h
  refine ⟨_, l, rfl, ao, cap, rfl, h2, fun x hx => ?_, fun hl => ?_⟩
  · obtain ⟨b, o, _, _, hc⟩ := h3 (fun h => by subst h; simp at hx)
    obtain ⟨i, hi⟩ := List.getElem?_of_mem hx
    obtain ⟨cs', _, _, _, g⟩ := hc i x hi
    exact g
  · obtain ⟨b, o, rfl, hb, hc⟩ := h3 hl
    refine ⟨b, o, rfl, hb, fun i x hi => ?_⟩
    obtain ⟨cs', _, g2, rfl, _⟩ := hc i x hi
    exact g2
theorem BoolsRO.free {S : Nat → Prop} {w : World} {v : Value} {l : List Bool} (h : BoolsRO S w v l) : BoolsRO (fun _ => False) w v l := by
  obtain ⟨ad, cap, h1, h2, h3⟩ := h
  refine ⟨ad, cap, h1, h2, fun hl => ?_⟩
  obtain ⟨b, o, g1, g2, _, g4⟩ := h3 hl
  exact ⟨b, o, g1, g2, id, g4⟩
theorem St.lendBoolsS {S : Nat → Prop} {w0 w : World} {l1 rest : List SP} {v : Value} {bs : List Bool} (H : St S w0 w (l1 ++ rest)) (hv : BoolsRO S w0 v bs) :
    ∃ S1, Sep w l1 S1 ∧ BoolsRO S1 w v bs ∧ ∀ w' l1', St S1 w w' l1' → St S w0 w' (l1' ++ rest) := by
  obtain ⟨S1, h1, h2, _, h4⟩ := St.call2 H
  obtain ⟨ad, cap, e1, e2, e3⟩ := hv
  refine ⟨S1, h1, ⟨ad, cap, e1, e2, fun hl => ?_⟩, h4⟩
  obtain ⟨b, o, g1, g2, g3, g4⟩ := e3 hl
  exact ⟨b, o, g1, Nat.lt_of_lt_of_le g2 H.size, fun hs => (h2 b hs).elim g3 (fun h => by omega), fun i hi => (World.cell?_of_block (w := w0) (H.kept.block b g2 g3)).trans (g4 i hi)⟩
/-- Bytes that are lent to calls on other parts, with what bears them. -/
def Lent (S : Nat → Prop) (w0 : World) (v : Value) (X : List UInt8) (P : SP) : Prop :=
  ∀ (w' : World) (l1 rest : List SP), St S w0 w' (l1 ++ (P :: rest)) → ∃ S1, Sep w' l1 S1 ∧ BytesRO S1 w' v X ∧ ∀ w'' l1', St S1 w' w'' l1' → St S w0 w'' (l1' ++ (P :: rest))
theorem Lent.conv {S : Nat → Prop} {w0 : World} {v : Value} {X : List UInt8} {P : SP} (h : Lent S w0 v X P) {w' : World} {rest : List SP} (H : St S w0 w' (P :: rest)) : (convert 29 9 v).run Try.prog w' = .ok (.string ⟨X.toArray⟩) w' := by
  obtain ⟨S1, _, h2, _⟩ := h w' [] rest H
  exact conv_ro' h2 (fun _ _ _ => rfl)
theorem op_whole' {S : Nat → Prop} {w0 w : World} {l : List SP} {kind at' n : Int} {Bv kv : Value} {B : List UInt8} (hv : BytesRO S w0 Bv B) (hB : B.length ≤ 9223372036854775807) (H : St S w0 w l) :
    Calls Try.prog 79 #[.agg (opCells kind at' n Bv kv)] w fun e w' => ∃ ad len cap X P, e = .returned (.slice ad len cap) ∧ X.length ≤ 128 ∧ Lent S w0 (.slice ad len cap) X P ∧ St S w0 w' (P :: l) := by
  have hv0 := hv.move H.kept
  refine (op_whole hv0.free hB).mono ?_
  rintro e w' ⟨v, rfl, ⟨h1, rfl, h3⟩ | ⟨h1, g, rfl, h3⟩⟩
  · obtain ⟨ad, cap, rfl, _⟩ := id hv
    exact ⟨ad, B.length, cap, B, SP.all [], rfl, by omega, fun w' l1 rest h => St.lendS h hv, St.all_iff.2 (H.call0 h3)⟩
  · have hX : (wholeOf B).length = 128 := by unfold wholeOf; rw [if_neg h1]; simp
    exact ⟨_, 128, 128, wholeOf B, Blk g (bvs (wholeOf B)).toArray 5, rfl, by omega, fun w' l1 rest h => St.lend h hX, H.call0 h3⟩
/-- Load of what is of no right length. -/
theorem store_load_bad {b : Nat} {m : StM} {ad : Option Addr} {n cap : Nat} {w : World} {S : Nat → Prop} (hg : m.Good) (hn : n ≠ 128 * m.last.length) (H : Sep w [StoreAt b m] S) :
    Calls Try.prog 55 #[.pointer (some ⟨b, 0, none⟩), .slice ad n cap] w fun e w' => e = .returned (.bool false) ∧ w = w' := by
  have hcnt := hg.count
  obtain ⟨bl, br, vw, H0⟩ := StoreAt.out H
  have H3 : St S w w [StoreB b (.slice (some ⟨bl, 0, none⟩) m.last.length m.last.length) vw (.slice (some ⟨br, 0, none⟩) m.last.length m.last.length) m.calls, Blk bl (lastCells m.last).toArray 98, Blk br (intCells m.reads).toArray 3, Row 100 129 vw m.waits.length (waitCells m.waits)] := St.refl H0
  have c0 := H3.cell 0 0 rfl rfl
  have hwr : IntKind.i64.wrap (128 * (m.last.length : Int)) = 128 * (m.last.length : Int) := by rw [IntKind.wrap_i64]; omega
  have y1 : ((n : Int) != 128 * (m.last.length : Int)) = true := by simp; omega
  clear hn H0 H3
  go_enter Try.func55, Try.ntmps55
  go_wp2
  go_ret
  exact ⟨rfl, rfl⟩

end Go.Proofs.Ytbikjhmdpgoofab
