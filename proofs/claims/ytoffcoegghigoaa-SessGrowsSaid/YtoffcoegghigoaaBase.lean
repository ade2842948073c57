/- Small laws on blocks and worlds: what a call has left alone ('Kept'), what a block holds behind a store. No condition. -/
import Derived.Test.YtoffcoegghigoaaRows
import Derived.WalkKit
import Derived.WalkSpells
import Derived.WalkLawsBesides
import Derived.Deep.AppendLies
import Derived.Deep.QuietTactic
import Derived.BigQuiet
import Derived.Lib.Hide
import Derived.Deep.RegionLaw
namespace Go.Proofs.Ytoffcoegghigoaa
open Go.RowKit

/-- Outside S nothing that was there has turned. -/
structure Kept (S : Nat → Prop) (w w' : World) : Prop where
  os : w'.os = w.os
  tape : w'.tape = w.tape
  output : w'.output = w.output
  size : w.heap.size ≤ w'.heap.size
  block : ∀ k, k < w.heap.size → ¬ S k → w'.heap[k]? = w.heap[k]?

theorem Kept.refl (S : Nat → Prop) (w : World) : Kept S w w := ⟨rfl, rfl, rfl, Nat.le_refl _, fun _ _ _ => rfl⟩
theorem Kept.trans {S : Nat → Prop} {a b c : World} (h : Kept S a b) (k : Kept S b c) : Kept S a c :=
  ⟨k.os.trans h.os, k.tape.trans h.tape, k.output.trans h.output, Nat.le_trans h.size k.size, fun i hi hs => (k.block i (Nat.lt_of_lt_of_le hi h.size) hs).trans (h.block i hi hs)⟩
/-- Of the second step only what it does to blocks that were there at first counts. -/
theorem Kept.trans' {S S' : Nat → Prop} {a b c : World} (h : Kept S a b) (k : Kept S' b c) (hS : ∀ i, i < a.heap.size → S' i → S i) : Kept S a c :=
  ⟨k.os.trans h.os, k.tape.trans h.tape, k.output.trans h.output, Nat.le_trans h.size k.size, fun i hi hs => (k.block i (Nat.lt_of_lt_of_le hi h.size) (fun h' => hs (hS i hi h'))).trans (h.block i hi hs)⟩
theorem Kept.mono {S S' : Nat → Prop} {a b : World} (h : Kept S a b) (hS : ∀ i, i < a.heap.size → S i → S' i) : Kept S' a b :=
  ⟨h.os, h.tape, h.output, h.size, fun i hi hs => h.block i hi (fun h' => hs (hS i hi h'))⟩
theorem Kept.drew {S : Nat → Prop} {a w : World} (h : Kept S a w) : Kept S a w.drew := ⟨h.os, h.tape, h.output, h.size, h.block⟩
theorem Kept.drewN {S : Nat → Prop} {a w : World} (h : Kept S a w) (n : Nat) : Kept S a (w.drewN n) := ⟨h.os, h.tape, h.output, h.size, h.block⟩
theorem Kept.alloc {S : Nat → Prop} {a w : World} (h : Kept S a w) (o : Obj) : Kept S a (w.alloc o) :=
  h.trans ⟨rfl, rfl, rfl, by simp, fun k hk _ => heap_alloc_old w o hk⟩
theorem Kept.setCell {S : Nat → Prop} {a w : World} (h : Kept S a w) {p : Addr} (hp : p.block < a.heap.size → S p.block) (u : Value) : Kept S a (w.setCell p u) :=
  h.trans' (S' := (· = p.block)) ⟨rfl, rfl, rfl, by simp, fun k _ hk => Below.heap_setCell _ _ _ _ hk⟩ (fun i hi e => by subst e; exact hp hi)
theorem Kept.grown {S : Nat → Prop} {a w w' : World} {row : Option Nat} (h : Kept S a w) (hg : w.grownBy w' row) (hr : ∀ k, k < a.heap.size → row = some k → S k) : Kept S a w' :=
  h.trans' (S' := fun k => some k = row) ⟨hg.os, hg.tape, hg.output, hg.size, fun k hk hn => hg.block k hk hn⟩ (fun i hi e => hr i hi e.symm)
theorem Kept.of_below {S : Nat → Prop} {a w w' : World} (h : Kept S a w) {B : Nat} (hb : Below B w w') (hB : ∀ k, k < a.heap.size → B ≤ k → S k) : Kept S a w' :=
  h.trans' (S' := fun k => B ≤ k) ⟨hb.os, hb.tape, hb.output, hb.size, fun k _ hn => hb.block k (by omega)⟩ (fun i hi e => hB i hi e)
theorem Kept.below {S : Nat → Prop} {B : Nat} {w w' : World} (h : Kept S w w') (hB : B ≤ w.heap.size) (hS : ∀ k, S k → B ≤ k) : Below B w w' :=
  ⟨h.os, h.tape, h.output, h.size, fun k hk => h.block k (by omega) (fun s => by have := hS k s; omega)⟩
theorem Below.to_kept {w w' : World} (h : Below w.heap.size w w') (S : Nat → Prop) : Kept S w w' := ⟨h.os, h.tape, h.output, h.size, fun k hk _ => h.block k hk⟩
theorem Below.of_kept {B : Nat} {S : Nat → Prop} {a w w' : World} (h : Below B a w) (hB : B ≤ w.heap.size) (k : Kept S w w') (hS : ∀ i, S i → B ≤ i) : Below B a w' :=
  h.trans (k.below hB hS)

theorem kept_set {w : World} {b i : Nat} {v : Value} : Kept (· = b) w (w.setCell ⟨b, i, none⟩ v) := Kept.setCell (S := (· = b)) (p := ⟨b, i, none⟩) (Kept.refl _ _) (fun _ => rfl) _
theorem kept_drewN {w : World} {S : Nat → Prop} {n : Nat} : Kept S w (w.drewN n) := (Kept.refl _ _).drewN n

/-! Blocks. -/
section
variable {w : World} {b i : Nat} {cs : Array Value} {t : TypeId} {f : Nat × Nat}
theorem blk_lt {o : Obj} (h : w.heap[b]? = some o) : b < w.heap.size := (Array.getElem?_eq_some_iff.1 h).1
theorem cell_blk (h : w.heap[b]? = some (.cells cs t f)) (i : Nat) : w.cell? ⟨b, i, none⟩ = cs[i]? := by simp [World.cell?, h]
theorem cell_blk' (h : w.heap[b]? = some (.cells cs t f)) {i : Nat} {v : Value} (hv : cs[i]? = some v) : w.cell? ⟨b, i, none⟩ = some v := by rw [cell_blk h, hv]
theorem free_blk (h : w.heap[b]? = some (.cells cs t (0, 0))) (i : Nat) : w.frozen? ⟨b, i, none⟩ = false := by simp [World.frozen?, h]
theorem set_same (h : w.heap[b]? = some (.cells cs t f)) (i : Nat) (v : Value) : (w.setCell ⟨b, i, none⟩ v).heap[b]? = some (.cells (cs.setIfInBounds i v) t f) := by
  have hlt := blk_lt h
  show (w.heap.modify b _)[b]? = _
  have h' : w.heap[b] = .cells cs t f := by simpa [Array.getElem?_eq_getElem hlt] using h
  rw [Array.getElem?_eq_getElem (by simpa using hlt), Array.getElem_modify_self, h']
  rfl
theorem set_other {k : Nat} (h : k ≠ b) (i : Nat) (v : Value) : (w.setCell ⟨b, i, none⟩ v).heap[k]? = w.heap[k]? := Below.heap_setCell _ _ _ _ h
theorem alloc_blk {o o' : Obj} (h : w.heap[b]? = some o) : (w.alloc o').heap[b]? = some o := by rw [heap_alloc_old _ _ (blk_lt h)]; exact h
end

/-- An owned row is no block of another element type. -/
theorem own_ne {w : World} {base : Nat} {e : TypeId} {size : Nat} {v : Value} {n : Nat} {xs : List Value} (h : w.ownsRow base e size v n xs) {b : Nat} {cs : Array Value} {t : TypeId} {f : Nat × Nat}
    (hb : w.heap[b]? = some (.cells cs t f)) (hne : t ≠ e) : some b ≠ v.ownBlock := by
  rcases h.2 with ⟨rfl, _⟩ | ⟨g, cap, cur, rfl, _, hg, _⟩
  · simp [Value.ownBlock]
  · simp only [Value.ownBlock, ne_eq, Option.some.injEq]
    rintro rfl
    rw [hb] at hg
    simp only [Option.some.injEq, Obj.cells.injEq] at hg
    exact hne hg.2.1
/-- Two owned rows of unlike element types lie apart. -/
theorem own_own {w : World} {b1 b2 : Nat} {e1 e2 : TypeId} {s1 s2 : Nat} {v1 v2 : Value} {n1 n2 : Nat} {x1 x2 : List Value} (h1 : w.ownsRow b1 e1 s1 v1 n1 x1) (h2 : w.ownsRow b2 e2 s2 v2 n2 x2) (hne : e1 ≠ e2) :
    v1.ownBlock = none ∨ v1.ownBlock ≠ v2.ownBlock := by
  rcases h1.2 with ⟨rfl, _⟩ | ⟨g, cap, cur, rfl, _, hg, _⟩
  · exact .inl rfl
  · exact .inr (own_ne h2 hg hne)
theorem own_lt {w : World} {base : Nat} {e : TypeId} {size : Nat} {v : Value} {n : Nat} {xs : List Value} (h : w.ownsRow base e size v n xs) {b : Nat} (hb : w.heap.size ≤ b) : some b ≠ v.ownBlock := by
  intro hv
  have := (h.lt b hv.symm).2
  omega
theorem own_set {w : World} {base : Nat} {e : TypeId} {size : Nat} {v : Value} {n : Nat} {xs : List Value} (h : w.ownsRow base e size v n xs) {b : Nat} {cs : Array Value} {t : TypeId} {f : Nat × Nat}
    (hb : w.heap[b]? = some (.cells cs t f)) (hne : t ≠ e) (i : Nat) (u : Value) : (w.setCell ⟨b, i, none⟩ u).ownsRow base e size v n xs :=
  ownsRow_setCell_other h (a := ⟨b, i, none⟩) (Ne.symm (own_ne h hb hne)) u
theorem own_grown {w w' : World} {b1 b2 : Nat} {e1 e2 : TypeId} {s1 s2 : Nat} {v1 v2 : Value} {n1 n2 : Nat} {x1 x2 : List Value} (h1 : w.ownsRow b1 e1 s1 v1 n1 x1) (h2 : w.ownsRow b2 e2 s2 v2 n2 x2) (hg : w.grownBy w' v2.ownBlock) (hne : e1 ≠ e2) :
    w'.ownsRow b1 e1 s1 v1 n1 x1 := h1.kept hg (own_own h1 h2 hne)
theorem below_grown {B : Nat} {a w w' : World} {e : TypeId} {s : Nat} {v : Value} {n : Nat} {x : List Value} (h : Below B a w) (hB : B ≤ w.heap.size) (ho : w.ownsRow B e s v n x) (hg : w.grownBy w' v.ownBlock) : Below B a w' :=
  h.grown hg hB fun k hk => (ho.lt k hk).1
/-- What an append leaves of a block that is not the row. -/
theorem grown_blk {w w' : World} {row : Option Nat} (hg : w.grownBy w' row) {b : Nat} {o : Obj} (h : w.heap[b]? = some o) (hne : some b ≠ row) : w'.heap[b]? = some o :=
  (hg.block b (blk_lt h) hne).trans h

section
variable {P : Program}
/-- 'append' of what a block holds, onto a row of the call's own, as one step of a region that draws. -/
theorem step_app {w : World} {ops : Array Oper} {o : Oper} {a : Act} {K : Act → World → Prop} {Q : Exit → Act → World → Prop} {E : Prop} (hgd : o.guard = none) (s x : Operand) (t : TypeId)
    (ho : o.op = .call { callee := .builtin .append, args := #[s, x], argTypes := #[t, t] }) {e : TypeId} {z : Value} {size bytes : Nat} (ht : P.underlying t = some (.slice e))
    (hinfo : (P.info? e).map (fun i => (i.zero, i.size, i.bytes)) = some (some z, size, bytes)) (hzs : z.cells.size = size ∧ 0 < size ∧ 0 < bytes)
    {base : Nat} {v : Value} {n : Nat} {xs : List Value} (hown : w.ownsRow base e size v n xs) (hs : a.eval s = v) {B c m : Nat} {cs : Array Value} {tt : TypeId} {fr : Nat × Nat}
    (hB : w.heap[B]? = some (.cells cs tt fr)) (hx : a.eval x = .slice (some ⟨B, 0, none⟩) m c) (hl : cs.size = m * size) (h1 : ∀ u ∈ cs.toList, u.oneCell' = true)
    (hm : 0 < m) (hbytes : (n + m) * bytes ≤ 140737488355328) (hbase : base ≤ w.heap.size) 
    (h : ∀ g cap w', w'.ownsRow base e size (.slice (some ⟨g, 0, none⟩) (n + m) cap) (n + m) (xs ++ cs.toList) → w.grownBy w' v.ownBlock → (v.ownBlock = some g ∨ g = w.heap.size) → g < w'.heap.size → K (a.put o.dst (.slice (some ⟨g, 0, none⟩) (n + m) cap)) w') :
    if Region.wanted o (yielded ops a.tmps) = true then Oper.wp P o a w K Q else E := by
  obtain ⟨i, hi, hz, hsz, hby⟩ := info_parts hinfo
  exact step_append_lies w hgd s x t ho base e i z size bytes ht hi hz hsz hby hzs.1 hzs.2.1 v n xs hs hown ⟨B, 0, none⟩ m c cs.toList hx (by simpa using hl) (World.news_of_block hB) h1 hm
    (by have := Nat.le_mul_of_pos_right (n + m) hzs.2.2; unfold maxLen; omega) hbytes hbase _ rfl h
/-- The same at a plain region's operation. -/
theorem list_app {w : World} {ops : Array Oper} {rest : List Oper} {o : Oper} {a : Act} {Q : Exit → Act → World → Prop} (hgd : o.guard = none) (s x : Operand) (t : TypeId)
    (ho : o.op = .call { callee := .builtin .append, args := #[s, x], argTypes := #[t, t] }) {e : TypeId} {z : Value} {size bytes : Nat} (ht : P.underlying t = some (.slice e))
    (hinfo : (P.info? e).map (fun i => (i.zero, i.size, i.bytes)) = some (some z, size, bytes)) (hzs : z.cells.size = size ∧ 0 < size ∧ 0 < bytes)
    {base : Nat} {v : Value} {n : Nat} {xs : List Value} (hown : w.ownsRow base e size v n xs) (hs : a.eval s = v) {B c m : Nat} {cs : Array Value} {tt : TypeId} {fr : Nat × Nat}
    (hB : w.heap[B]? = some (.cells cs tt fr)) (hx : a.eval x = .slice (some ⟨B, 0, none⟩) m c) (hl : cs.size = m * size) (h1 : ∀ u ∈ cs.toList, u.oneCell' = true)
    (hm : 0 < m) (hbytes : (n + m) * bytes ≤ 140737488355328) (hbase : base ≤ w.heap.size) 
    (h : ∀ g cap w', w'.ownsRow base e size (.slice (some ⟨g, 0, none⟩) (n + m) cap) (n + m) (xs ++ cs.toList) → w.grownBy w' v.ownBlock → (v.ownBlock = some g ∨ g = w.heap.size) → g < w'.heap.size → wpList P ops Q rest (a.put o.dst (.slice (some ⟨g, 0, none⟩) (n + m) cap)) w') :
    wpList P ops Q (o :: rest) a w := by
  obtain ⟨i, hi, hz, hsz, hby⟩ := info_parts hinfo
  exact wpList_append_lies w hgd s x t ho base e i z size bytes ht hi hz hsz hby hzs.1 hzs.2.1 v n xs hs hown ⟨B, 0, none⟩ m c cs.toList hx (by simpa using hl) (World.news_of_block hB) h1 hm
    (by have := Nat.le_mul_of_pos_right (n + m) hzs.2.2; unfold maxLen; omega) hbytes hbase _ rfl h
end

end Go.Proofs.Ytoffcoegghigoaa
