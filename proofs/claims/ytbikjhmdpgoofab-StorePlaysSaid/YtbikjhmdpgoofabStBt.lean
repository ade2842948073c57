/- A text turned into bytes: fresh, lent to calls, appended to. Laws over any program of these types. -/
import Derived.Test.YtbikjhmdpgoofabStPl
import Derived.Lib.ConvBytes
import Derived.ArgAppend
namespace Go.Proofs.Ytbikjhmdpgoofab
open Go.RowKit

/-- Fresh bytes of a text. -/
def Conv (v : Value) (l : List UInt8) : SP where
  on w S := ∃ g cap cur, v = .slice (some ⟨g, 0, none⟩) l.length cap ∧ w.heap[g]? = some (.cells cur 5 (cur.size, cur.size + 1)) ∧ cur.size = cap ∧ l.length ≤ cap ∧ (∀ i (hi : i < l.length), cur[i]? = some (bv l[i])) ∧ ∀ k, S k ↔ k = g
  loc w w' S h hs := by
    obtain ⟨g, cap, cur, h1, h2, h3, h5, h6, h4⟩ := h
    exact ⟨g, cap, cur, h1, (hs g ((h4 g).2 rfl)).trans h2, h3, h5, h6, h4⟩
  lt w S k h hk := by
    obtain ⟨g, cap, cur, h1, h2, h3, h5, h6, h4⟩ := h
    obtain rfl := (h4 k).1 hk
    exact Go.Proofs.Ytbikjhmdpgoofab.blk_lt h2
theorem conv_new {S : Nat → Prop} {w0 w : World} {L : List SP} (H : St S w0 w L) (bs : List UInt8) : ∃ cap w1, (convert 9 29 (.string ⟨bs.toArray⟩)).run Try.prog w = .ok (.slice (some ⟨w.heap.size, 0, none⟩) bs.length cap) w1 ∧
    St S w0 w1 (Conv (.slice (some ⟨w.heap.size, 0, none⟩) bs.length cap) bs :: L) := by
  have hsz := text_len bs
  refine ⟨grownCap w bs.length 0 5, Lib.bytesWorld w 5 ⟨bs.toArray⟩, by rw [Lib.run_convert_string_bytes (P := Try.prog) w 9 29 5 ⟨bs.toArray⟩ Try.underlying9 Try.underlying29 Try.underlying5, hsz], ?_⟩
  have hb : Below w.heap.size w (Lib.bytesWorld w 5 ⟨bs.toArray⟩) := ⟨rfl, rfl, rfl, by rw [Lib.bytesWorld_size]; omega, fun j hj => Lib.bytesWorld_at_old _ _ _ _ hj⟩
  have H1 := H.past hb
  have hge := grownCap_ge w bs.length 0 5
  refine ⟨H1.kept, fun k => k = w.heap.size, ⟨w.heap.size, _, _, rfl, Lib.bytesWorld_at_new _ _ _, ?_, hge, fun i hi => ?_, fun _ => Iff.rfl⟩, fun k e => .inr (by have := H.size; omega), ?_⟩
  · simp [Lib.bytesCells]
    rw [hsz]
    omega
  · simp [Lib.bytesCells, Array.getElem?_append, hi, bv]
  · refine (H.sep.clip.move (fun k hk _ => hb.block k hk)).mono ?_
    rintro k _ ⟨a, b⟩
    exact ⟨a, by omega⟩
theorem St.lendConv {S : Nat → Prop} {w0 w : World} {l1 rest : List SP} {v : Value} {bs : List UInt8} (H : St S w0 w (l1 ++ (Conv v bs :: rest))) :
    ∃ S1, Sep w l1 S1 ∧ BytesRO S1 w v bs ∧ ∀ w' l1', St S1 w w' l1' → St S w0 w' (l1' ++ (Conv v bs :: rest)) := by
  obtain ⟨S1, h1, h2, S2, g1, g2, g3⟩ := H.sep.split
  obtain ⟨g, cap, cur, e1, e2, e3, e5, e6, e4⟩ := id g1
  have hg : ¬ S1 g := (g2 g ((e4 g).2 rfl)).2
  refine ⟨S1, h2, ⟨_, cap, e1, e5, fun _ => ⟨g, 0, rfl, Go.Proofs.Ytbikjhmdpgoofab.blk_lt e2, hg, fun i hi => ?_⟩⟩, fun w' l1' G => ?_⟩
  · rw [Nat.zero_add, cell_blk e2]
    exact e6 i hi
  · refine ⟨?_, ?_⟩
    · refine H.kept.trans' G.kept (fun i hi hs => ?_)
      rcases (h1 i hs).1 with a | a
      · exact a
      · omega
    · have hsz := H.kept.size
      have h3 : Sep w (Conv v bs :: rest) (fun k => (S k ∨ w0.heap.size ≤ k) ∧ ¬ S1 k) := ⟨S2, g1, g2, g3⟩
      refine Sep.join G.sep ?_ (((h3.clip).move ?_).mono ?_)
      · rintro k _ (a | a)
        · exact (h1 k a).1
        · exact .inr (by omega)
      · rintro k hk ⟨⟨_, b⟩, _⟩
        exact G.kept.block k hk b
      · rintro k _ ⟨⟨a, b⟩, c⟩
        exact ⟨a, by rintro (d | d); exact b d; omega⟩
theorem setCells_other {b : Nat} : ∀ (vs : List Value) (o : Nat) (w : World) {k : Nat}, k ≠ b → (w.setCells b o vs).heap[k]? = w.heap[k]?
  | [], _, _, _, _ => rfl
  | v :: r, o, w, k, h => by rw [World.setCells, setCells_other r (o + 1) _ h, set_other h]
theorem setCells_size {b : Nat} : ∀ (vs : List Value) (o : Nat) (w : World), (w.setCells b o vs).heap.size = w.heap.size ∧ (w.setCells b o vs).os = w.os ∧ (w.setCells b o vs).tape = w.tape ∧ (w.setCells b o vs).output = w.output
  | [], _, _ => ⟨rfl, rfl, rfl, rfl⟩
  | v :: r, o, w => by
    obtain ⟨h1, h2, h3, h4⟩ := setCells_size r (o + 1) (w.setCell ⟨b, o, none⟩ v)
    rw [World.setCells]
    exact ⟨h1.trans (by simp), h2, h3, h4⟩
theorem new_byte (w : World) (t : TypeId) : (w.alloc (.cells #[.int .u8 0] t)).cell? ⟨w.heap.size, 0, none⟩ = some (bv 0) := by
  rw [cell_blk (heap_alloc_new w (.cells #[.int .u8 0] t))]
  simp [bv]
/-- A guarded operation that is wanted is as one without a guard. -/
theorem wpList_want {P : Program} {ops : Array Oper} {Q : Exit → Act → World → Prop} {a : Act} {w : World} {rest : List Oper} {dst : Option Tmp} {op : Op} {ty : TypeId} {pos : String} {after : Array Edge} {g : Option (Nat × Bool)}
    (hw : Region.wanted ⟨dst, op, ty, pos, after, g⟩ (yielded ops a.tmps) = true) (h : wpList P ops Q (⟨dst, op, ty, pos, after, none⟩ :: rest) a w) : wpList P ops Q (⟨dst, op, ty, pos, after, g⟩ :: rest) a w := by
  rw [wpList, if_pos hw]
  rw [wpList, if_pos (by simp [Region.wanted])] at h
  exact h
/-- One more byte behind fresh ones, at a plain region's operation: the slice is longer by one, all else as it was. -/
theorem list_conv_add {S : Nat → Prop} {w0 w : World} {L : List SP} {bs : List UInt8} {g n cap : Nat} (H : St S w0 w (Conv (.slice (some ⟨g, 0, none⟩) n cap) bs :: L)) (hlen : bs.length = n) (hn : n ≤ 1000000000)
    {ops : Array Oper} {rest : List Oper} {o : Oper} {a : Act} {Q : Exit → Act → World → Prop} (hgd : o.guard = none) (s x : Operand) (ho : o.op = .call { callee := .builtin .append, args := #[s, x], argTypes := #[29, 29] })
    (hs : a.eval s = .slice (some ⟨g, 0, none⟩) n cap) {ad : Addr} {c : Nat} (u : UInt8) (hx : a.eval x = .slice (some ad) 1 c) (hnew : w.cell? ad = some (bv u))
    (h : ∀ ao cap' w', St S w0 w' L → wpList Try.prog ops Q rest (a.put o.dst (.slice ao (n + 1) cap')) w') : wpList Try.prog ops Q (o :: rest) a w := by
  obtain ⟨ti, hti, hz, hsz, hby⟩ := info_parts Try.info5
  obtain ⟨S1, hC, hturn⟩ := H.turn 0 rfl
  obtain ⟨g', cap', cur, e1, e2, e3, e5, e6, e4⟩ := id hC
  cases e1
  have hadd : ∀ (j : Nat) (v : Value), [bv u][j]? = some v → w.cell? (ad.add j) = some v := by
    intro j v hj
    cases j with
    | zero =>
      have : ad.add 0 = ad := by cases ad; simp [Addr.add]
      rw [this, hnew, ← hj]
      rfl
    | succ j => simp at hj
  refine wpList_append_arg w hgd s x 29 ho 5 ti (.int .u8 0) 1 1 Try.underlying29 hti hz hsz hby rfl (by omega) g 0 bs.length cap (bvs bs) hs (by rw [length_bvs, Nat.mul_one]) ?_ ad 1 c [bv u] hx rfl hadd (by simp [one_bv]) ?_ (by unfold maxLen; omega) (by omega) ?_ ?_
  · intro j v hj
    have hjl : j < bs.length := by have := (List.getElem?_eq_some_iff.1 hj).1; rwa [length_bvs] at this
    rw [Nat.zero_add, cell_blk e2, e6 j hjl, ← hj]
    simp [bvs, hjl]
  · intro hr j hj
    have hj0 : j = 0 := by simpa using hj
    subst hj0
    have hlt : bs.length < cur.size := by omega
    refine ⟨?_, ?_⟩
    · rw [Nat.zero_add, Nat.mul_one, Nat.add_zero, cell_blk e2, Array.getElem?_eq_getElem hlt]
      rfl
    · simp [World.frozen?, e2]
      omega
  · intro hr
    refine h _ _ _ ?_
    obtain ⟨q1, q2, q3, q4⟩ := setCells_size (b := g) [bv u] (0 + bs.length * 1) w
    have H2 : St S w0 _ (SP.all [] :: L) := hturn (A' := SP.all []) (S1' := fun _ => False) ⟨q2, q3, q4, by rw [q1]; exact Nat.le_refl _, fun k _ hk => setCells_other _ _ _ (fun e => hk ((e4 k).2 e))⟩ ⟨trivial, fun _ h => h.elim⟩ (fun _ h => h.elim)
    exact St.all_iff.1 H2
  · intro hr v' w' hown hgrow
    rcases own_shape hown with ⟨rfl, h0⟩ | ⟨g2, cap2, rfl, _⟩
    · omega
    · refine h _ _ _ ?_
      have hb : Below w.heap.size w w' := ⟨hgrow.os, hgrow.tape, hgrow.output, hgrow.size, fun k hk => hgrow.block k hk (by simp)⟩
      exact (H.past hb).tail

end Go.Proofs.Ytbikjhmdpgoofab
