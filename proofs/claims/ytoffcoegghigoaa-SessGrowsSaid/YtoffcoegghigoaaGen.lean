/- Laws of reading, lending and calling that need no function of the program: bytes that can be read, texts of them, calls in the midst of a call. -/
import Derived.Test.YtoffcoegghigoaaSep
import Derived.Test.YtoffcoegghigoaaStoreM
import Derived.Test.YtoffcoegghigoaaArr
import Derived.Test.YtoffcoegghigoaaMore
import Derived.Laws.BytesArg
namespace Go.Proofs.Ytoffcoegghigoaa
open Go.RowKit

theorem Try.info5 : (Try.prog.info? 5).map (fun i => (i.zero, i.size, i.bytes)) = some (some (.int .u8 0), 1, 1) := by kernel_rfl

/-- A slice of bytes that can be read, and stays so while outside S nothing turns. -/
def BytesRO (S : Nat → Prop) (w : World) (v : Value) (l : List UInt8) : Prop :=
  ∃ ad cap, v = .slice ad l.length cap ∧ l.length ≤ cap ∧ (l ≠ [] → ∃ b o, ad = some ⟨b, o, none⟩ ∧ b < w.heap.size ∧ ¬ S b ∧ ∀ i (hi : i < l.length), w.cell? ⟨b, o + i, none⟩ = some (bv l[i]))
theorem all_bvs (l : List UInt8) : allOne (bvs l).toArray = true := Array.all_eq_true_iff_forall_mem.2 (fun v hv => one_bvs v (by simpa using hv))
/-- A slice of bytes of the call's own. -/
def BytesAt (v : Value) (l : List UInt8) : SP where
  on w S := (l = [] ∧ v = .slice none 0 0 ∧ ∀ k, ¬ S k) ∨ ∃ g t, v = .slice (some ⟨g, 0, none⟩) l.length l.length ∧ w.heap[g]? = some (.cells (bvs l).toArray t (0, 0)) ∧ ∀ k, S k ↔ k = g
  loc w w' S h hs := by
    rcases h with h | ⟨g, t, h1, h2, h3⟩
    · exact .inl h
    · exact .inr ⟨g, t, h1, (hs g ((h3 g).2 rfl)).trans h2, h3⟩
  lt w S k h hk := by
    rcases h with ⟨_, _, h⟩ | ⟨g, t, h1, h2, h3⟩
    · exact absurd hk (h k)
    · obtain rfl := (h3 k).1 hk
      exact blk_lt h2
theorem BytesAt.nil {w0 w : World} {l : List SP} {S : Nat → Prop} (H : St S w0 w l) : St S w0 w (BytesAt (.slice none 0 0) [] :: l) :=
  ⟨H.kept, fun _ => False, .inl ⟨rfl, rfl, fun _ h => h⟩, fun _ h => h.elim, H.sep.mono (fun _ _ h => ⟨h, id⟩)⟩
theorem BytesAt.mk {w0 w : World} {l : List SP} {S : Nat → Prop} {g : Nat} {bs : List UInt8} {t : TypeId} (H : St S w0 w (Blk g (bvs bs).toArray t :: l)) : St S w0 w (BytesAt (.slice (some ⟨g, 0, none⟩) bs.length bs.length) bs :: l) := by
  obtain ⟨h, S1, h1, h2, h3⟩ := H
  exact ⟨h, S1, .inr ⟨g, t, rfl, h1.1, h1.2⟩, h2, h3⟩
theorem take_snoc' {α : Type} {l : List α} {k : Nat} {x : α} (h : l[k]? = some x) : l.take (k + 1) = l.take k ++ [x] := by
  obtain ⟨hlt, rfl⟩ := List.getElem?_eq_some_iff.1 h
  exact List.take_succ_eq_append_getElem hlt
/-- A slice of bools that can be read, and stays so while outside S nothing turns. -/
def BoolsRO (S : Nat → Prop) (w : World) (v : Value) (l : List Bool) : Prop :=
  ∃ ad cap, v = .slice ad l.length cap ∧ l.length ≤ 9223372036854775807 ∧ (l ≠ [] → ∃ b o, ad = some ⟨b, o, none⟩ ∧ b < w.heap.size ∧ ¬ S b ∧ ∀ i (hi : i < l.length), w.cell? ⟨b, o + i, none⟩ = some (.bool l[i]))
theorem BoolsRO.move {S : Nat → Prop} {w w' : World} {v : Value} {l : List Bool} (h : BoolsRO S w v l) (hk : Kept S w w') : BoolsRO S w' v l := by
  obtain ⟨ad, cap, h1, h2, h3⟩ := h
  refine ⟨ad, cap, h1, h2, fun hl => ?_⟩
  obtain ⟨b, o, g1, g2, g3, g4⟩ := h3 hl
  exact ⟨b, o, g1, Nat.lt_of_lt_of_le g2 hk.size, g3, fun i hi => (World.cell?_of_block (w := w) (hk.block b g2 g3)).trans (g4 i hi)⟩
theorem BytesRO.move {S : Nat → Prop} {w w' : World} {v : Value} {l : List UInt8} (h : BytesRO S w v l) (hk : Kept S w w') : BytesRO S w' v l := by
  obtain ⟨ad, cap, h1, h2, h3⟩ := h
  refine ⟨ad, cap, h1, h2, fun hl => ?_⟩
  obtain ⟨b, o, g1, g2, g3, g4⟩ := h3 hl
  exact ⟨b, o, g1, Nat.lt_of_lt_of_le g2 hk.size, g3, fun i hi => (World.cell?_of_block (w := w) (hk.block b g2 g3)).trans (g4 i hi)⟩
theorem nums_bvs (l : List UInt8) : strOfNums (l.map fun b => (b.toNat : Int)) = ⟨l.toArray⟩ := by
  unfold strOfNums
  rw [List.map_map]
  congr 2
  rw [List.map_congr_left (g := id) (fun b _ => by simp), List.map_id]
/-- Bytes that lie there, as a text. -/
theorem conv_text {w : World} {b o n cap : Nat} {l : List UInt8} (h : w.rangeAt b o (bvs l)) (hn : l.length = n) : (convert 75 9 (.slice (some ⟨b, o, none⟩) n cap)).run Try.prog w = .ok (.string ⟨l.toArray⟩) w := by
  have := run_convert_bytes_arg (P := Try.prog) w 75 5 Try.underlying75 Try.underlying5 b o n cap (l.map fun b => (b.toNat : Int)) (by simpa using hn) (fun i hi => by
    rw [h i (bv (l[i]'(by omega))) (by simp [bvs, hn, hi])]
    simp [bv, List.getD, hn, hi]) 9 Try.underlying9
  rw [nums_bvs] at this
  exact this
theorem conv_nil {w : World} {n cap : Nat} : (convert 75 9 (.slice none n cap)).run Try.prog w = .ok (.string ⟨#[]⟩) w :=
  run_convert_bytes_nil (P := Try.prog) w 75 5 Try.underlying75 Try.underlying5 n cap 9 Try.underlying9
theorem conv_at {w : World} {v : Value} {l : List UInt8} {S : Nat → Prop} (h : (BytesAt v l).on w S) : (convert 75 9 v).run Try.prog w = .ok (.string ⟨l.toArray⟩) w := by
  rcases h with ⟨rfl, rfl, _⟩ | ⟨g, t, rfl, h, _⟩
  · exact conv_nil
  · exact conv_text (fun j u hj => by rw [cell_blk h]; simpa using hj) rfl
theorem rep_set (n k : Nat) (x : UInt8) : (List.replicate n x).set k x = List.replicate n x := by
  apply List.ext_getElem?
  intro i
  rw [List.getElem?_set]
  by_cases h : k = i
  · subst h
    by_cases h2 : k < n <;> simp [h2]
  · simp [h]
/-- Bytes of the call's own are lent to a call. -/
theorem St.lend {S : Nat → Prop} {w0 w : World} {l1 rest : List SP} {g n : Nat} {bs : List UInt8} {t : TypeId} (H : St S w0 w (l1 ++ (Blk g (bvs bs).toArray t :: rest))) (hn : bs.length = n) :
    ∃ S1, Sep w l1 S1 ∧ BytesRO S1 w (.slice (some ⟨g, 0, none⟩) n n) bs ∧ ∀ w' l1', St S1 w w' l1' → St S w0 w' (l1' ++ (Blk g (bvs bs).toArray t :: rest)) := by
  obtain ⟨S1, h1, h2, S2, g1, g2, g3⟩ := H.sep.split
  have hg : ¬ S1 g := (g2 g ((g1.2 g).2 rfl)).2
  obtain ⟨T, k1, k2⟩ := St.call H
  refine ⟨S1, h2, ⟨_, n, by rw [hn], by omega, fun _ => ⟨g, 0, rfl, Go.Proofs.Ytoffcoegghigoaa.blk_lt g1.1, hg, fun i hi => ?_⟩⟩, fun w' l1' G => ?_⟩
  · rw [cell_blk g1.1]; simp [bvs, hi]
  · refine ⟨?_, ?_⟩
    · refine H.kept.trans' G.kept (fun i hi hs => ?_)
      rcases (h1 i hs).1 with a | a
      · exact a
      · omega
    · have hsz := H.kept.size
      have h3 : Sep w (Blk g (bvs bs).toArray t :: rest) (fun k => (S k ∨ w0.heap.size ≤ k) ∧ ¬ S1 k) := ⟨S2, g1, g2, g3⟩
      refine Sep.join G.sep ?_ (((h3.clip).move ?_).mono ?_)
      · rintro k _ (a | a)
        · exact (h1 k a).1
        · exact .inr (by omega)
      · rintro k hk ⟨⟨_, b⟩, _⟩
        exact G.kept.block k hk b
      · rintro k _ ⟨⟨a, b⟩, c⟩
        exact ⟨a, by rintro (d | d); exact b d; omega⟩
/-- What came in may be lent at any time. -/
theorem St.lendIn {w0 w : World} {l1 rest : List SP} {v : Value} {bs : List UInt8} (H : St (fun _ => False) w0 w (l1 ++ rest)) (hv : BytesRO (fun _ => False) w0 v bs) :
    ∃ S1, Sep w l1 S1 ∧ BytesRO S1 w v bs ∧ ∀ w' l1', St S1 w w' l1' → St (fun _ => False) w0 w' (l1' ++ rest) := by
  obtain ⟨S1, h1, h2, _, h4⟩ := St.call2 H
  obtain ⟨ad, cap, e1, e2, e3⟩ := hv
  refine ⟨S1, h1, ⟨ad, cap, e1, e2, fun hl => ?_⟩, h4⟩
  obtain ⟨b, o, g1, g2, _, g4⟩ := e3 hl
  exact ⟨b, o, g1, Nat.lt_of_lt_of_le g2 H.size, fun hs => (h2 b hs).elim id (fun h => by omega), fun i hi => (World.cell?_of_block (w := w0) (H.kept.block b g2 id)).trans (g4 i hi)⟩
theorem BytesAt.out {S : Nat → Prop} {w0 w : World} {rest : List SP} {v : Value} {bs : List UInt8} {n : Nat} (H : St S w0 w (BytesAt v bs :: rest)) (hn : bs.length = n) (h0 : 0 < n) :
    ∃ g t, v = .slice (some ⟨g, 0, none⟩) n n ∧ St S w0 w (Blk g (bvs bs).toArray t :: rest) := by
  obtain ⟨hk, S1, h1, h2, h3⟩ := H
  rcases h1 with ⟨rfl, _⟩ | ⟨g, t, e1, e2, e3⟩
  · simp at hn; omega
  · exact ⟨g, t, by rw [e1, hn], hk, S1, ⟨e2, e3⟩, h2, h3⟩
theorem row_form {w : World} {base : Nat} {e : TypeId} {size : Nat} {v : Value} {n N : Nat} {xs : List Value} (h : w.ownsRow base e size v n xs) (hn : n = N) (h0 : 0 < N) : ∃ g cap, v = .slice (some ⟨g, 0, none⟩) N cap := by
  subst hn
  rcases own_shape h with ⟨_, h⟩ | ⟨g, cap, h, _⟩
  · omega
  · exact ⟨g, cap, h⟩
theorem noBools (S : Nat → Prop) (w : World) : BoolsRO S w (.slice none 0 0) [] := ⟨none, 0, rfl, by simp, fun h => absurd rfl h⟩
theorem box_keep {S : Nat → Prop} {w w' : World} {b : Nat} {x y : Value} {t : TypeId} {r : List SP} (H : St S w w' (Blk b #[x, y] t :: r)) :
    w'.cell? ⟨b, 0, none⟩ = some x ∧ w'.cell? ⟨b, 1, none⟩ = some y ∧ St S w w' (Blk b #[x, y] t :: r) := ⟨H.cell 0 0 rfl rfl, H.cell 0 1 rfl rfl, H⟩
/-- A call that leaves all that was there alone, in the midst of a call. -/
theorem St.callPast {S : Nat → Prop} {w w' : World} {L : List SP} {P : Program} {fid : Nat} {args : Array Value} {p : Ending → Prop} (hc : Calls P fid args w' fun e w2 => p e ∧ Below w'.heap.size w' w2) (H : St S w w' L) :
    Calls P fid args w' fun e w2 => p e ∧ St S w w2 L := hc.mono fun _ _ h => ⟨h.1, H.past h.2⟩
theorem St.callSame {S : Nat → Prop} {w w' : World} {L : List SP} {P : Program} {fid : Nat} {args : Array Value} {p : Ending → Prop} (hc : Calls P fid args w' fun e w2 => p e ∧ w' = w2) (H : St S w w' L) :
    Calls P fid args w' fun e w2 => p e ∧ St S w w2 L := hc.mono fun _ _ h => ⟨h.1, h.2 ▸ H⟩
theorem St.callSame' {S : Nat → Prop} {w w' : World} {L : List SP} {P : Program} {fid : Nat} {args : Array Value} {p : Ending → Prop} (hc : Calls P fid args w' fun e w2 => p e ∧ w2 = w') (H : St S w w' L) :
    Calls P fid args w' fun e w2 => p e ∧ St S w w2 L := hc.mono fun _ _ h => ⟨h.1, h.2 ▸ H⟩
/-- A call on one part, in the midst of a call. -/
theorem St.callOn {S : Nat → Prop} {w w' : World} {A A' : SP} {L : List SP} {P : Program} {fid : Nat} {args : Array Value} {p : Ending → Prop} (hc : ∀ S', Sep w' [A] S' → Calls P fid args w' fun e w2 => p e ∧ St S' w' w2 [A']) (H : St S w w' (A :: L)) :
    Calls P fid args w' fun e w2 => p e ∧ St S w w2 (A' :: L) := by
  obtain ⟨S1, K1, G1⟩ := St.call (l1 := [_]) H
  exact (hc S1 K1).mono fun _ _ h => ⟨h.1, G1 _ _ h.2⟩
/-- What lies outside S may be lent at any time. -/
theorem St.lendS {S : Nat → Prop} {w0 w : World} {l1 rest : List SP} {v : Value} {bs : List UInt8} (H : St S w0 w (l1 ++ rest)) (hv : BytesRO S w0 v bs) :
    ∃ S1, Sep w l1 S1 ∧ BytesRO S1 w v bs ∧ ∀ w' l1', St S1 w w' l1' → St S w0 w' (l1' ++ rest) := by
  obtain ⟨S1, h1, h2, _, h4⟩ := St.call2 H
  obtain ⟨ad, cap, e1, e2, e3⟩ := hv
  refine ⟨S1, h1, ⟨ad, cap, e1, e2, fun hl => ?_⟩, h4⟩
  obtain ⟨b, o, g1, g2, g3, g4⟩ := e3 hl
  exact ⟨b, o, g1, Nat.lt_of_lt_of_le g2 H.size, fun hs => (h2 b hs).elim g3 (fun h => by omega), fun i hi => (World.cell?_of_block (w := w0) (H.kept.block b g2 g3)).trans (g4 i hi)⟩
theorem BytesRO.part {S : Nat → Prop} {w : World} {b o n cap : Nat} {l : List UInt8} (h : BytesRO S w (.slice (some ⟨b, o, none⟩) n cap) l) (hn : l.length = n) {i k : Nat} (hk : i + k ≤ n) (cap' : Nat) (hc : k ≤ cap') :
    BytesRO S w (.slice (some ⟨b, o + i, none⟩) k cap') ((l.drop i).take k) := by
  obtain ⟨ad, cp, e1, e2, e3⟩ := h
  have hl : ((l.drop i).take k).length = k := by simp; omega
  refine ⟨_, cap', by rw [hl], by rw [hl]; exact hc, fun hne => ?_⟩
  have hk0 : 0 < k := by
    rcases Nat.eq_zero_or_pos k with h | h
    · subst h; simp at hne
    · exact h
  obtain ⟨b', o', g1, g2, g3, g4⟩ := e3 (by intro h; subst h; simp at hn; omega)
  simp only [Value.slice.injEq] at e1
  obtain ⟨e1, _⟩ := e1
  rw [g1] at e1
  simp only [Option.some.injEq, Addr.mk.injEq] at e1
  obtain ⟨rfl, rfl, _⟩ := e1
  refine ⟨_, _, rfl, g2, g3, fun j hj => ?_⟩
  rw [hl] at hj
  have := g4 (i + j) (by omega)
  rw [Nat.add_assoc, this]
  congr 2
  simp
theorem conv_zero' {w : World} (a : Addr) (cap : Nat) : (convert 75 9 (.slice (some a) 0 cap)).run Try.prog w = .ok (.string ⟨#[]⟩) w := by
  have hl : (loadCells a 0).run Try.prog w = .ok (([] : List Int).map (Value.int .u8)).toArray w := by
    simpa using run_loadCells_list (P := Try.prog) w a [] (fun j v hj => by simp at hj)
  rw [run_convert_bytes_string w 75 9 5 _ 0 cap Try.underlying75 Try.underlying5 Try.underlying9, run_bytesToString w _ 0 cap [] hl]
  rfl
/-- Bytes that came in, as a text. -/
theorem conv_ro' {S : Nat → Prop} {w w' : World} {v : Value} {bs : List UInt8} (hv : BytesRO S w v bs) (hk : ∀ b, b < w.heap.size → ¬ S b → w'.heap[b]? = w.heap[b]?) :
    (convert 75 9 v).run Try.prog w' = .ok (.string ⟨bs.toArray⟩) w' := by
  obtain ⟨ad, cap, rfl, _, h⟩ := hv
  by_cases h0 : bs = []
  · subst h0
    cases ad with
    | none => exact conv_nil
    | some a => exact conv_zero' a cap
  · obtain ⟨b, o, rfl, h1, h2, h3⟩ := h h0
    refine conv_text (fun j u hj => ?_) rfl
    have hjl : j < bs.length := by have := (List.getElem?_eq_some_iff.1 hj).1; rwa [length_bvs] at this
    rw [World.cell?_of_block (w := w) (hk b h1 h2), h3 j hjl, ← hj]
    simp [bvs, hjl]
theorem own_text' {w : World} {v : Value} {n : Nat} {bs : List UInt8} (h : w.ownsRow 0 5 1 v n (bvs bs)) : (convert 75 9 v).run Try.prog w = .ok (.string ⟨bs.toArray⟩) w := by
  have hn : bs.length = n := by have := h.1; rw [length_bvs] at this; omega
  rcases own_shape h with ⟨rfl, h0⟩ | ⟨g, cap, rfl, _⟩
  · have : bs = [] := List.eq_nil_of_length_eq_zero (by omega)
    subst this
    exact conv_nil
  · exact conv_text (fun j u hj => by rw [Nat.zero_add]; exact own_cell h hj) hn

end Go.Proofs.Ytoffcoegghigoaa
