import Derived.Test.YtiglgfonhdfpmaaGreatRows
import Derived.WalkKit
import Derived.WalkSpells
import Derived.WalkLawsBesides
import Derived.Deep.AppendLies
import Derived.Deep.QuietTactic
import Derived.BigQuiet
import Derived.Lib.Hide
import Derived.Deep.RegionLaw
import Derived.Laws.CopyOwn
import Derived.Deep.MidRow
import Derived.Lib.Bytealg
import Derived.Lib.Small
import Derived.Great.BuildSlice
import Derived.StillTailTactics
import Derived.Laws.Cover3
import Derived.Laws.OwnMore
import Derived.WideShapes
import Derived.Laws.BytesArg
import Derived.Deep.Upon
import Derived.Still
import Derived.StillTail
import Derived.Deep.Cut
import Derived.Deep.CutBlock
import Derived.Shelf.Small.Strs
/- Small laws on blocks and worlds: what a call has left alone ('Kept'), what a block holds behind a store. No condition. -/
set_option linter.unusedVariables false
set_option linter.unusedSimpArgs false
namespace Go.Proofs.YtiglgfonhdfpmaaGreat
open Go.RowKit

/-- Outside S nothing that was there has turned. -/
structure Kept (S : Nat → Prop) (w w' : World) : Prop where
  os : w'.os = w.os
  tape : w'.tape = w.tape
  output : w'.output = w.output
  size : w.heap.size ≤ w'.heap.size
  block : ∀ k, k < w.heap.size → ¬ S k → w'.heap[k]? = w.heap[k]?

theorem Kept.refl (S : Nat → Prop) (w : World) : Kept S w w := ⟨rfl, rfl, rfl, Nat.le_refl _, fun _ _ _ => rfl⟩
theorem Kept.trans {S : Nat → Prop} {a b c : World} (h : Kept S a b) (k : Kept S b c) : Kept S a c :=
  ⟨k.os.trans h.os, k.tape.trans h.tape, k.output.trans h.output, Nat.le_trans h.size k.size, fun i hi hs => (k.block i (Nat.lt_of_lt_of_le hi h.size) hs).trans (h.block i hi hs)⟩
/-- Of the second step only what it does to blocks that were there at first counts. -/
theorem Kept.trans' {S S' : Nat → Prop} {a b c : World} (h : Kept S a b) (k : Kept S' b c) (hS : ∀ i, i < a.heap.size → S' i → S i) : Kept S a c :=
  ⟨k.os.trans h.os, k.tape.trans h.tape, k.output.trans h.output, Nat.le_trans h.size k.size, fun i hi hs => (k.block i (Nat.lt_of_lt_of_le hi h.size) (fun h' => hs (hS i hi h'))).trans (h.block i hi hs)⟩
theorem Kept.mono {S S' : Nat → Prop} {a b : World} (h : Kept S a b) (hS : ∀ i, i < a.heap.size → S i → S' i) : Kept S' a b :=
  ⟨h.os, h.tape, h.output, h.size, fun i hi hs => h.block i hi (fun h' => hs (hS i hi h'))⟩
theorem Kept.drew {S : Nat → Prop} {a w : World} (h : Kept S a w) : Kept S a w.drew := ⟨h.os, h.tape, h.output, h.size, h.block⟩
theorem Kept.drewN {S : Nat → Prop} {a w : World} (h : Kept S a w) (n : Nat) : Kept S a (w.drewN n) := ⟨h.os, h.tape, h.output, h.size, h.block⟩
theorem Kept.alloc {S : Nat → Prop} {a w : World} (h : Kept S a w) (o : Obj) : Kept S a (w.alloc o) :=
  h.trans ⟨rfl, rfl, rfl, by simp, fun k hk _ => heap_alloc_old w o hk⟩
theorem Kept.setCell {S : Nat → Prop} {a w : World} (h : Kept S a w) {p : Addr} (hp : p.block < a.heap.size → S p.block) (u : Value) : Kept S a (w.setCell p u) :=
  h.trans' (S' := (· = p.block)) ⟨rfl, rfl, rfl, by simp, fun k _ hk => Below.heap_setCell _ _ _ _ hk⟩ (fun i hi e => by subst e; exact hp hi)
theorem Kept.grown {S : Nat → Prop} {a w w' : World} {row : Option Nat} (h : Kept S a w) (hg : w.grownBy w' row) (hr : ∀ k, k < a.heap.size → row = some k → S k) : Kept S a w' :=
  h.trans' (S' := fun k => some k = row) ⟨hg.os, hg.tape, hg.output, hg.size, fun k hk hn => hg.block k hk hn⟩ (fun i hi e => hr i hi e.symm)
theorem Kept.of_below {S : Nat → Prop} {a w w' : World} (h : Kept S a w) {B : Nat} (hb : Below B w w') (hB : ∀ k, k < a.heap.size → B ≤ k → S k) : Kept S a w' :=
  h.trans' (S' := fun k => B ≤ k) ⟨hb.os, hb.tape, hb.output, hb.size, fun k _ hn => hb.block k (by omega)⟩ (fun i hi e => hB i hi e)
theorem Kept.below {S : Nat → Prop} {B : Nat} {w w' : World} (h : Kept S w w') (hB : B ≤ w.heap.size) (hS : ∀ k, S k → B ≤ k) : Below B w w' :=
  ⟨h.os, h.tape, h.output, h.size, fun k hk => h.block k (by omega) (fun s => by have := hS k s; omega)⟩
theorem kept_set {w : World} {b i : Nat} {v : Value} : Kept (· = b) w (w.setCell ⟨b, i, none⟩ v) := Kept.setCell (S := (· = b)) (p := ⟨b, i, none⟩) (Kept.refl _ _) (fun _ => rfl) _
/-! Blocks. -/
section
variable {w : World} {b i : Nat} {cs : Array Value} {t : TypeId} {f : Nat × Nat}
theorem blk_lt {o : Obj} (h : w.heap[b]? = some o) : b < w.heap.size := (Array.getElem?_eq_some_iff.1 h).1
theorem cell_blk (h : w.heap[b]? = some (.cells cs t f)) (i : Nat) : w.cell? ⟨b, i, none⟩ = cs[i]? := by simp [World.cell?, h]
theorem cell_blk' (h : w.heap[b]? = some (.cells cs t f)) {i : Nat} {v : Value} (hv : cs[i]? = some v) : w.cell? ⟨b, i, none⟩ = some v := by rw [cell_blk h, hv]
theorem free_blk (h : w.heap[b]? = some (.cells cs t (0, 0))) (i : Nat) : w.frozen? ⟨b, i, none⟩ = false := by simp [World.frozen?, h]
theorem set_same (h : w.heap[b]? = some (.cells cs t f)) (i : Nat) (v : Value) : (w.setCell ⟨b, i, none⟩ v).heap[b]? = some (.cells (cs.setIfInBounds i v) t f) := by
  have hlt := blk_lt h
  show (w.heap.modify b _)[b]? = _
  have h' : w.heap[b] = .cells cs t f := by simpa [Array.getElem?_eq_getElem hlt] using h
  rw [Array.getElem?_eq_getElem (by simpa using hlt), Array.getElem_modify_self, h']
  rfl
end

section
variable {P : Program}
/-- The same at a plain region's operation. -/
theorem list_app {w : World} {ops : Array Oper} {rest : List Oper} {o : Oper} {a : Act} {Q : Exit → Act → World → Prop} (hgd : o.guard = none) (s x : Operand) (t : TypeId)
    (ho : o.op = .call { callee := .builtin .append, args := #[s, x], argTypes := #[t, t] }) {e : TypeId} {z : Value} {size bytes : Nat} (ht : P.underlying t = some (.slice e))
    (hinfo : (P.info? e).map (fun i => (i.zero, i.size, i.bytes)) = some (some z, size, bytes)) (hzs : z.cells.size = size ∧ 0 < size ∧ 0 < bytes)
    {base : Nat} {v : Value} {n : Nat} {xs : List Value} (hown : w.ownsRow base e size v n xs) (hs : a.eval s = v) {B c m : Nat} {cs : Array Value} {tt : TypeId} {fr : Nat × Nat}
    (hB : w.heap[B]? = some (.cells cs tt fr)) (hx : a.eval x = .slice (some ⟨B, 0, none⟩) m c) (hl : cs.size = m * size) (h1 : ∀ u ∈ cs.toList, u.oneCell' = true)
    (hm : 0 < m) (hbytes : (n + m) * bytes ≤ 140737488355328) (hbase : base ≤ w.heap.size) 
    (h : ∀ g cap w', w'.ownsRow base e size (.slice (some ⟨g, 0, none⟩) (n + m) cap) (n + m) (xs ++ cs.toList) → w.grownBy w' v.ownBlock → (v.ownBlock = some g ∨ g = w.heap.size) → g < w'.heap.size → wpList P ops Q rest (a.put o.dst (.slice (some ⟨g, 0, none⟩) (n + m) cap)) w') :
    wpList P ops Q (o :: rest) a w := by
  obtain ⟨i, hi, hz, hsz, hby⟩ := info_parts hinfo
  exact wpList_append_lies w hgd s x t ho base e i z size bytes ht hi hz hsz hby hzs.1 hzs.2.1 v n xs hs hown ⟨B, 0, none⟩ m c cs.toList hx (by simpa using hl) (World.news_of_block hB) h1 hm
    (by have := Nat.le_mul_of_pos_right (n + m) hzs.2.2; unfold maxLen; omega) hbytes hbase _ rfl h
end

end Go.Proofs.YtiglgfonhdfpmaaGreat

/- What the call owns, part by part: each part bears its own blocks, no two parts share one, and outside S nothing that was there has turned. Plain laws, no program in sight. -/
set_option linter.unusedVariables false
set_option linter.unusedSimpArgs false
namespace Go.Proofs.YtiglgfonhdfpmaaGreat
open Go.RowKit

/-- A part: what it says of the world, and of which blocks. -/
structure SP where
  on : World → (Nat → Prop) → Prop
  loc : ∀ w w' S, on w S → (∀ k, S k → w'.heap[k]? = w.heap[k]?) → on w' S
  lt : ∀ w S k, on w S → S k → k < w.heap.size

def Sep (w : World) : List SP → (Nat → Prop) → Prop
  | [], _ => True
  | A :: l, S => ∃ S1, A.on w S1 ∧ (∀ k, S1 k → S k) ∧ Sep w l (fun k => S k ∧ ¬ S1 k)

theorem Sep.mono {w : World} : ∀ {l : List SP} {S S' : Nat → Prop}, Sep w l S → (∀ k, k < w.heap.size → S k → S' k) → Sep w l S'
  | [], _, _, _, _ => trivial
  | A :: _, _, _, ⟨S1, h1, h2, h3⟩, hs => ⟨S1, h1, fun k hk => hs k (A.lt _ _ _ h1 hk) (h2 k hk), Sep.mono h3 (fun k hk h => ⟨hs k hk h.1, h.2⟩)⟩

/-- Parts are there in another world in which their blocks are as they were. -/
theorem Sep.move {w w' : World} : ∀ {l : List SP} {S : Nat → Prop}, Sep w l S → (∀ k, k < w.heap.size → S k → w'.heap[k]? = w.heap[k]?) → Sep w' l S
  | [], _, _, _ => trivial
  | A :: _, _, ⟨S1, h1, h2, h3⟩, hs => ⟨S1, A.loc _ _ _ h1 (fun k hk => hs k (A.lt _ _ _ h1 hk) (h2 k hk)), h2, Sep.move h3 (fun k hk h => hs k hk h.1)⟩

/-- All blocks of the parts are there. -/
theorem Sep.clip {w : World} : ∀ {l : List SP} {S : Nat → Prop}, Sep w l S → Sep w l (fun k => S k ∧ k < w.heap.size)
  | [], _, _ => trivial
  | A :: _, _, ⟨S1, h1, h2, h3⟩ => ⟨S1, h1, fun k hk => ⟨h2 k hk, A.lt _ _ _ h1 hk⟩, (Sep.clip h3).mono (fun _ _ h => ⟨⟨h.1.1, h.2⟩, h.1.2⟩)⟩

/-- The first parts apart from the rest. -/
theorem Sep.split {w : World} : ∀ {l1 l2 : List SP} {S : Nat → Prop}, Sep w (l1 ++ l2) S → ∃ S1, (∀ k, S1 k → S k ∧ k < w.heap.size) ∧ Sep w l1 S1 ∧ Sep w l2 (fun k => S k ∧ ¬ S1 k)
  | [], _, _, h => ⟨fun _ => False, fun _ h => h.elim, trivial, Sep.mono h (fun _ _ h => ⟨h, id⟩)⟩
  | A :: l1, l2, S, ⟨S0, h1, h2, h3⟩ => by
    obtain ⟨S1, g1, g2, g3⟩ := Sep.split h3
    refine ⟨fun k => S0 k ∨ S1 k, ?_, ⟨S0, h1, fun k hk => .inl hk, g2.mono (fun k _ hk => ⟨.inr hk, (g1 k hk).1.2⟩)⟩, g3.mono ?_⟩
    · rintro k (hk | hk)
      · exact ⟨h2 k hk, A.lt _ _ _ h1 hk⟩
      · exact ⟨(g1 k hk).1.1, (g1 k hk).2⟩
    · rintro k _ ⟨⟨a, b⟩, c⟩
      exact ⟨a, by rintro (h | h); exact b h; exact c h⟩

theorem Sep.join {w : World} : ∀ {l1 l2 : List SP} {S S1 : Nat → Prop}, Sep w l1 S1 → (∀ k, k < w.heap.size → S1 k → S k) → Sep w l2 (fun k => S k ∧ ¬ S1 k) → Sep w (l1 ++ l2) S
  | [], _, _, _, _, _, h => Sep.mono h (fun _ _ h => h.1)
  | A :: l1, l2, S, S1, ⟨S0, h1, h2, h3⟩, hs, h => by
    refine ⟨S0, h1, fun k hk => hs k (A.lt _ _ _ h1 hk) (h2 k hk), Sep.join (S1 := fun k => S1 k ∧ ¬ S0 k) h3 (fun k hk a => ⟨hs k hk a.1, a.2⟩) (h.mono ?_)⟩
    rintro k _ ⟨a, b⟩
    exact ⟨⟨a, fun h0 => b (h2 k h0)⟩, fun c => b c.1⟩

/-- WHAT HOLDS IN THE MIDST OF A CALL: outside S nothing that was there has turned; the parts lie in S or in what is new. -/
structure St (S : Nat → Prop) (w0 w : World) (l : List SP) : Prop where
  kept : Kept S w0 w
  sep : Sep w l (fun k => S k ∨ w0.heap.size ≤ k)

section
variable {S : Nat → Prop} {w0 w w' : World} {l l1 l2 : List SP}

theorem St.refl (h : Sep w l S) : St S w w l := ⟨Kept.refl _ _, h.mono (fun _ _ h => .inl h)⟩
theorem St.nil (S : Nat → Prop) (w : World) : St S w w [] := ⟨Kept.refl _ _, trivial⟩
theorem St.below (h : St S w0 w l) {B : Nat} (hB : B ≤ w0.heap.size) (hS : ∀ k, S k → B ≤ k) : Below B w0 w := h.kept.below hB hS
theorem St.size (h : St S w0 w l) : w0.heap.size ≤ w.heap.size := h.kept.size
theorem St.drew (h : St S w0 w l) : St S w0 w.drew l := ⟨h.kept.drew, h.sep.move (fun _ _ _ => rfl)⟩
theorem St.drewN (h : St S w0 w l) (n : Nat) : St S w0 (w.drewN n) l := ⟨h.kept.drewN n, h.sep.move (fun _ _ _ => rfl)⟩
/-- A new block that is nobody's. -/
theorem St.skip (h : St S w0 w l) (o : Obj) : St S w0 (w.alloc o) l := ⟨h.kept.alloc o, h.sep.move (fun _ hk _ => heap_alloc_old _ _ hk)⟩
/-- A call that leaves all that was there alone. -/
theorem St.past (h : St S w0 w l) (hb : Below w.heap.size w w') : St S w0 w' l :=
  ⟨h.kept.of_below hb (fun k hk hk' => by have := h.kept.size; omega), h.sep.move (fun k hk _ => hb.block k hk)⟩
theorem St.drop (h : St S w0 w (l1 ++ l2)) : St S w0 w l2 := by
  obtain ⟨_, _, _, h3⟩ := h.sep.split
  exact ⟨h.kept, h3.mono (fun _ _ h => h.1)⟩
theorem St.take (h : St S w0 w (l1 ++ l2)) : St S w0 w l1 := by
  obtain ⟨_, h1, h2, _⟩ := h.sep.split
  exact ⟨h.kept, h2.mono (fun k _ h => (h1 k h).1)⟩
theorem St.tail {A : SP} (h : St S w0 w (A :: l)) : St S w0 w l := St.drop (l1 := [A]) h

/-- THE FIRST PARTS ARE HANDED TO A CALL: what it makes of them stands in their place. -/
theorem St.call (h : St S w0 w (l1 ++ l2)) : ∃ S1, Sep w l1 S1 ∧ ∀ w' l1', St S1 w w' l1' → St S w0 w' (l1' ++ l2) := by
  obtain ⟨S1, h1, h2, h3⟩ := h.sep.split
  refine ⟨S1, h2, fun w' l1' g => ⟨?_, ?_⟩⟩
  · refine h.kept.trans' g.kept (fun i hi hs => ?_)
    rcases (h1 i hs).1 with a | a
    · exact a
    · omega
  · have hsz := h.kept.size
    refine Sep.join g.sep ?_ (((h3.clip).move ?_).mono ?_)
    · rintro k _ (a | a)
      · exact (h1 k a).1
      · exact .inr (by omega)
    · rintro k hk ⟨⟨_, b⟩, _⟩
      exact g.kept.block k hk b
    · rintro k _ ⟨⟨a, b⟩, c⟩
      exact ⟨a, by rintro (d | d); exact b d; omega⟩
/-- The same where nothing of the caller's is handed over. -/
theorem St.call0 (h : St S w0 w l) {l1' : List SP} (g : St (fun _ => False) w w' l1') : St S w0 w' (l1' ++ l) := by
  obtain ⟨S1, _, h2⟩ := St.call (l1 := []) (l2 := l) h
  exact h2 w' l1' ⟨g.kept.mono (fun _ _ h => h.elim), g.sep.mono (fun k _ h => .inr (h.elim False.elim id))⟩
end

/-! The parts. -/
/-- A block of cells, known whole. -/
def Blk (b : Nat) (cs : Array Value) (t : TypeId) : SP where
  on w S := w.heap[b]? = some (.cells cs t (0, 0)) ∧ ∀ k, S k ↔ k = b
  loc w w' S h hs := ⟨(hs b ((h.2 b).2 rfl)).trans h.1, h.2⟩
  lt w S k h hk := by
    obtain rfl := (h.2 k).1 hk
    exact blk_lt h.1

/-- A slice that owns its row. -/
def Row (e : TypeId) (size : Nat) (v : Value) (n : Nat) (xs : List Value) : SP where
  on w S := w.ownsRow 0 e size v n xs ∧ ∀ k, S k ↔ v.ownBlock = some k
  loc w w' S h hs := by
    refine ⟨⟨h.1.1, ?_⟩, h.2⟩
    rcases h.1.2 with a | ⟨g, cap, cur, rfl, hb, hg, r⟩
    · exact .inl a
    · exact .inr ⟨g, cap, cur, rfl, hb, (hs g ((h.2 g).2 rfl)).trans hg, r⟩
  lt w S k h hk := (h.1.lt k ((h.2 k).1 hk)).2

/-- Several parts as one. -/
def SP.all (l : List SP) : SP where
  on w S := Sep w l S ∧ ∀ k, S k → k < w.heap.size
  loc w w' S h hs := ⟨h.1.move (fun k _ hk => hs k hk), fun k hk => by
    have := h.2 k hk
    have e := hs k hk
    rw [Array.getElem?_eq_getElem this] at e
    exact (Array.getElem?_eq_some_iff.1 e).1⟩
  lt w S k h hk := h.2 k hk

def SP.ex {α : Type} (f : α → SP) : SP where
  on w S := ∃ a, (f a).on w S
  loc w w' S h hs := by obtain ⟨a, h⟩ := h; exact ⟨a, (f a).loc w w' S h hs⟩
  lt w S k h hk := by obtain ⟨a, h⟩ := h; exact (f a).lt w S k h hk

def SP.pure (p : Prop) : SP where
  on _ S := p ∧ ∀ k, ¬ S k
  loc _ _ _ h _ := h
  lt _ _ k h hk := absurd hk (h.2 k)

section
variable {S : Nat → Prop} {w0 w w' : World} {l l1 l2 : List SP}

theorem Sep.all_iff : Sep w (SP.all l1 :: l2) S ↔ Sep w (l1 ++ l2) S := by
  constructor
  · rintro ⟨S1, ⟨h1, h1'⟩, h2, h3⟩
    exact Sep.join h1 (fun k _ h => h2 k h) h3
  · intro h
    obtain ⟨S1, h1, h2, h3⟩ := h.split
    exact ⟨S1, ⟨h2, fun k hk => (h1 k hk).2⟩, fun k hk => (h1 k hk).1, h3⟩
theorem Sep.ex_iff {α : Type} {f : α → SP} : Sep w (SP.ex f :: l) S ↔ ∃ a, Sep w (f a :: l) S := by
  constructor
  · rintro ⟨S1, ⟨a, h1⟩, h2⟩
    exact ⟨a, S1, h1, h2⟩
  · rintro ⟨a, S1, h1, h2⟩
    exact ⟨S1, ⟨a, h1⟩, h2⟩
theorem Sep.pure_iff {p : Prop} : Sep w (SP.pure p :: l) S ↔ p ∧ Sep w l S := by
  constructor
  · rintro ⟨S1, ⟨h1, h2⟩, _, h3⟩
    exact ⟨h1, h3.mono (fun _ _ h => h.1)⟩
  · rintro ⟨h1, h2⟩
    exact ⟨fun _ => False, ⟨h1, fun _ h => h⟩, fun _ h => h.elim, h2.mono (fun _ _ h => ⟨h, id⟩)⟩
theorem St.all_iff : St S w0 w (SP.all l1 :: l2) ↔ St S w0 w (l1 ++ l2) := ⟨fun h => ⟨h.kept, Sep.all_iff.1 h.sep⟩, fun h => ⟨h.kept, Sep.all_iff.2 h.sep⟩⟩
theorem St.ex_iff {α : Type} {f : α → SP} : St S w0 w (SP.ex f :: l) ↔ ∃ a, St S w0 w (f a :: l) :=
  ⟨fun h => by obtain ⟨a, g⟩ := Sep.ex_iff.1 h.sep; exact ⟨a, h.kept, g⟩, fun ⟨_, h⟩ => ⟨h.kept, Sep.ex_iff.2 ⟨_, h.sep⟩⟩⟩
theorem St.pure_iff {p : Prop} : St S w0 w (SP.pure p :: l) ↔ p ∧ St S w0 w l :=
  ⟨fun h => ⟨(Sep.pure_iff.1 h.sep).1, h.kept, (Sep.pure_iff.1 h.sep).2⟩, fun h => ⟨h.2.kept, Sep.pure_iff.2 ⟨h.1, h.2.sep⟩⟩⟩

/-- What a part says. -/
theorem Sep.get : ∀ (i : Nat) {l : List SP} {A : SP} {S : Nat → Prop}, l[i]? = some A → Sep w l S → ∃ S1, A.on w S1
  | 0, B :: l, A, S, h, hs => by
    obtain rfl : B = A := by simpa using h
    exact ⟨_, hs.choose_spec.1⟩
  | i + 1, B :: l, A, S, h, ⟨S0, _, _, h3⟩ => Sep.get i (by simpa using h) h3
  | 0, [], _, _, h, _ => by simp at h
  | i + 1, [], _, _, h, _ => by simp at h
theorem Sep.blk (h : Sep w l S) (i : Nat) {b : Nat} {cs : Array Value} {t : TypeId} (hi : l[i]? = some (Blk b cs t)) : w.heap[b]? = some (.cells cs t (0, 0)) := (Sep.get i hi h).choose_spec.1
theorem Sep.row (h : Sep w l S) (i : Nat) {e : TypeId} {size : Nat} {v : Value} {n : Nat} {xs : List Value} (hi : l[i]? = some (Row e size v n xs)) : w.ownsRow 0 e size v n xs := (Sep.get i hi h).choose_spec.1
theorem St.blk (h : St S w0 w l) (i : Nat) {b : Nat} {cs : Array Value} {t : TypeId} (hi : l[i]? = some (Blk b cs t)) : w.heap[b]? = some (.cells cs t (0, 0)) := h.sep.blk i hi
theorem St.row (h : St S w0 w l) (i : Nat) {e : TypeId} {size : Nat} {v : Value} {n : Nat} {xs : List Value} (hi : l[i]? = some (Row e size v n xs)) : w.ownsRow 0 e size v n xs := h.sep.row i hi
theorem St.cell (h : St S w0 w l) (i j : Nat) {b : Nat} {cs : Array Value} {t : TypeId} (hi : l[i]? = some (Blk b cs t)) {v : Value} (hv : cs[j]? = some v) : w.cell? ⟨b, j, none⟩ = some v := cell_blk' (h.blk i hi) hv
theorem St.free (h : St S w0 w l) (i j : Nat) {b : Nat} {cs : Array Value} {t : TypeId} (hi : l[i]? = some (Blk b cs t)) : w.frozen? ⟨b, j, none⟩ = false := free_blk (h.blk i hi) j
theorem St.blk_lt (h : St S w0 w l) (i : Nat) {b : Nat} {cs : Array Value} {t : TypeId} (hi : l[i]? = some (Blk b cs t)) : b < w.heap.size := Go.Proofs.YtiglgfonhdfpmaaGreat.blk_lt (h.blk i hi)

/-- ONE PART TURNS: what else is there stays. -/
theorem Sep.turn : ∀ (i : Nat) {l : List SP} {A : SP} {S : Nat → Prop}, l[i]? = some A → Sep w l S → ∃ S1, A.on w S1 ∧ (∀ k, S1 k → S k) ∧ ∀ {w' : World} {A' : SP} {S1' : Nat → Prop} {S' : Nat → Prop}, (∀ k, k < w.heap.size → ¬ S1 k → w'.heap[k]? = w.heap[k]?) → A'.on w' S1' →
      (∀ k, S1' k → S1 k ∨ (w.heap.size ≤ k ∧ S' k)) → (∀ k, S k → S' k) → Sep w' (l.set i A') S'
  | 0, B :: l, A, S, h, ⟨S1, h1, h2, h3⟩ => by
    obtain rfl : B = A := by simpa using h
    refine ⟨S1, h1, h2, fun {w' A' S1' S'} hw ha hs hS => ⟨S1', ha, fun k hk => (hs k hk).elim (fun a => hS k (h2 k a)) (fun a => a.2), (h3.clip.move (fun k hk a => hw k hk a.1.2)).mono ?_⟩⟩
    rintro k _ ⟨⟨a, b⟩, c⟩
    exact ⟨hS k a, fun d => (hs k d).elim b (fun e => by omega)⟩
  | i + 1, B :: l, A, S, h, ⟨S0, h1, h2, h3⟩ => by
    obtain ⟨S1, g1, g2, g3⟩ := Sep.turn i (by simpa using h) h3
    refine ⟨S1, g1, fun k hk => (g2 k hk).1, fun {w' A' S1' S'} hw ha hs hS => ⟨S0, B.loc _ _ _ h1 (fun k hk => hw k (B.lt _ _ _ h1 hk) (fun c => (g2 k c).2 hk)), fun k hk => hS k (h2 k hk), ?_⟩⟩
    refine g3 (S' := fun k => S' k ∧ ¬ S0 k) hw ha (fun k hk => (hs k hk).elim Or.inl (fun a => .inr ⟨a.1, a.2, fun b => ?_⟩)) (fun k a => ⟨hS k a.1, a.2⟩)
    have := B.lt _ _ _ h1 b
    omega
  | 0, [], _, _, h, _ => by simp at h
  | i + 1, [], _, _, h, _ => by simp at h

theorem St.turn (h : St S w0 w l) (i : Nat) {A : SP} (hi : l[i]? = some A) : ∃ S1, A.on w S1 ∧ ∀ {w' : World} {A' : SP} {S1' : Nat → Prop}, Kept S1 w w' → A'.on w' S1' → (∀ k, S1' k → S1 k ∨ w.heap.size ≤ k) → St S w0 w' (l.set i A') := by
  obtain ⟨S1, h1, h2, h3⟩ := h.sep.turn i hi
  refine ⟨S1, h1, fun {w' A' S1'} hk ha hs => ⟨h.kept.trans' hk (fun k hk' a => ?_), h3 hk.block ha (fun k a => (hs k a).elim Or.inl (fun b => .inr ⟨b, .inr (by have := h.size; omega)⟩)) (fun _ a => a)⟩⟩
  exact (h2 k a).elim id (fun b => by omega)

/-- A store into a block that is known whole. -/
theorem St.set (h : St S w0 w l) (i : Nat) {b : Nat} {cs : Array Value} {t : TypeId} (hi : l[i]? = some (Blk b cs t)) (j : Nat) (u : Value) : St S w0 (w.setCell ⟨b, j, none⟩ u) (l.set i (Blk b (cs.setIfInBounds j u) t)) := by
  obtain ⟨S1, h1, h2⟩ := h.turn i hi
  exact h2 (S1' := S1) (kept_set.mono (fun k _ e => by subst e; exact (h1.2 k).2 rfl)) ⟨set_same h1.1 j u, h1.2⟩ (fun _ a => .inl a)

/-- A new block. -/
theorem St.alloc (h : St S w0 w l) (cs : Array Value) (t : TypeId) : St S w0 (w.alloc (.cells cs t)) (Blk w.heap.size cs t :: l) := by
  refine ⟨h.kept.alloc _, fun k => k = w.heap.size, ⟨heap_alloc_new _ _, fun _ => Iff.rfl⟩, fun k e => .inr (by have := h.size; omega), ?_⟩
  refine (h.sep.clip.move (fun k hk _ => heap_alloc_old _ _ hk)).mono ?_
  rintro k _ ⟨a, b⟩
  exact ⟨a, by omega⟩

theorem St.allocAt (h : St S w0 w l) {B : Nat} (hB : w.heap.size = B) (cs : Array Value) (t : TypeId) : St S w0 (w.alloc (.cells cs t)) (Blk B cs t :: l) := by
  subst hB; exact h.alloc cs t

theorem Sep.fps : ∀ {l : List SP} {S : Nat → Prop}, Sep w l S → ∃ f : Nat → Nat → Prop, (∀ i A, l[i]? = some A → A.on w (f i) ∧ ∀ k, f i k → S k) ∧ ∀ i j, i ≠ j → ∀ k, f i k → ¬ f j k
  | [], _, _ => ⟨fun _ _ => False, fun i A h => by simp at h, fun _ _ _ _ h => h.elim⟩
  | B :: l, S, ⟨S1, h1, h2, h3⟩ => by
    obtain ⟨f, f1, f2⟩ := Sep.fps h3
    refine ⟨fun i k => match i with | 0 => S1 k | i + 1 => f i k ∧ i < l.length, ?_, ?_⟩
    · intro i A h
      cases i with
      | zero =>
        obtain rfl : B = A := by simpa using h
        exact ⟨h1, h2⟩
      | succ i =>
        have h' : l[i]? = some A := by simpa using h
        have hlt : i < l.length := (List.getElem?_eq_some_iff.1 h').1
        have e : (fun k => f i k ∧ i < l.length) = f i := by funext k; simp [hlt]
        exact ⟨by show A.on w (fun k => f i k ∧ i < l.length); rw [e]; exact (f1 i A h').1, fun k hk => ((f1 i A h').2 k hk.1).1⟩
    · intro i j hij k hi hj
      cases i with
      | zero =>
        cases j with
        | zero => exact hij rfl
        | succ j => exact ((f1 j _ (List.getElem?_eq_getElem hj.2)).2 k hj.1).2 hi
      | succ i =>
        cases j with
        | zero => exact ((f1 i _ (List.getElem?_eq_getElem hi.2)).2 k hi.1).2 hj
        | succ j => exact f2 i j (by omega) k hi.1 hj.1
theorem Sep.of_fps : ∀ {l : List SP} {S : Nat → Prop} (f : Nat → Nat → Prop), (∀ i A, l[i]? = some A → A.on w (f i) ∧ ∀ k, f i k → S k) → (∀ i j, i < l.length → j < l.length → i ≠ j → ∀ k, f i k → ¬ f j k) → Sep w l S
  | [], _, _, _, _ => trivial
  | B :: l, S, f, h1, h2 => by
    refine ⟨f 0, (h1 0 B rfl).1, (h1 0 B rfl).2, Sep.of_fps (fun i => f (i + 1)) (fun i A h => ⟨(h1 (i + 1) A (by simpa using h)).1, fun k hk => ⟨(h1 (i + 1) A (by simpa using h)).2 k hk, ?_⟩⟩) (fun i j hi hj hij => h2 (i + 1) (j + 1) (by simpa using hi) (by simpa using hj) (by omega))⟩
    have hlt : i < l.length := (List.getElem?_eq_some_iff.1 h).1
    exact h2 (i + 1) 0 (by simpa using hlt) (by simp) (by omega) k hk
/-- Some of the parts, in another order. -/
theorem Sep.pick (h : Sep w l S) (is : List Nat) (hn : is.Nodup) (hi : is.all (· < l.length) = true) : Sep w (is.filterMap (l[·]?)) S := by
  obtain ⟨f, f1, f2⟩ := h.fps
  have hall : ∀ i ∈ is, i < l.length := fun i h => by simpa using List.all_eq_true.1 hi i h
  have e : is.filterMap (l[·]?) = is.attach.map (fun i => l[i.1]'(hall i.1 i.2)) := by
    clear hn hi
    induction is with
    | nil => rfl
    | cons a r ih =>
      have ha := hall a (by simp)
      rw [List.filterMap_cons, List.getElem?_eq_getElem ha]
      simp only [List.attach_cons, List.map_cons, List.map_map]
      congr 1
      rw [ih (fun i h => hall i (by simp [h]))]
      rfl
  have hg : ∀ (n : Nat) (A : SP), (is.filterMap (l[·]?))[n]? = some A → ∃ i : Nat, is[n]? = some i ∧ l[i]? = some A := by
    intro n A h
    rw [e, List.getElem?_map] at h
    obtain ⟨x, hx, rfl⟩ := Option.map_eq_some_iff.1 h
    refine ⟨x.1, ?_, List.getElem?_eq_getElem _⟩
    have h2 := congrArg (Option.map Subtype.val) hx
    rw [← List.getElem?_map] at h2
    simpa using h2
  have hlen : (is.filterMap (l[·]?)).length = is.length := by rw [e]; simp
  refine Sep.of_fps (fun n => f (is.getD n 0)) (fun n A h => ?_) (fun n m hn' hm' hnm k => ?_)
  · obtain ⟨i, hi, hA⟩ := hg n A h
    have : is.getD n 0 = i := by simp [List.getD, hi]
    rw [this]
    exact f1 i A hA
  · rw [hlen] at hn' hm'
    refine f2 _ _ ?_ k
    simp only [List.getD, List.getElem?_eq_getElem hn', List.getElem?_eq_getElem hm', Option.getD_some]
    intro hc
    have hp := List.pairwise_iff_getElem.1 hn
    rcases Nat.lt_or_ge n m with a | a
    · exact hp n m hn' hm' a hc
    · exact hp m n hm' hn' (by omega) hc.symm
theorem St.pick (h : St S w0 w l) (is : List Nat) (hn : is.Nodup := by decide) (hi : is.all (· < l.length) = true := by rfl) : St S w0 w (is.filterMap (l[·]?)) := ⟨h.kept, h.sep.pick is hn hi⟩

/-- A nil slice owns nothing. -/
theorem St.row_nil (h : St S w0 w l) (e : TypeId) (size : Nat) : St S w0 w (Row e size (.slice none 0 0) 0 [] :: l) :=
  ⟨h.kept, fun _ => False, ⟨World.ownsRow_nil _ _ _ _, fun k => by simp [Value.ownBlock]⟩, fun _ h => h.elim, h.sep.mono (fun _ _ h => ⟨h, id⟩)⟩

/-- Behind an append. -/
theorem St.grown (h : St S w0 w l) (i : Nat) {e : TypeId} {size : Nat} {v : Value} {n : Nat} {xs : List Value} (hi : l[i]? = some (Row e size v n xs)) {g n' c : Nat} {xs' : List Value}
    (ho : w'.ownsRow 0 e size (.slice (some ⟨g, 0, none⟩) n' c) n' xs') (hg : w.grownBy w' v.ownBlock) (hat : v.ownBlock = some g ∨ g = w.heap.size) : St S w0 w' (l.set i (Row e size (.slice (some ⟨g, 0, none⟩) n' c) n' xs')) := by
  obtain ⟨S1, h1, h2⟩ := h.turn i hi
  refine h2 (S1' := fun k => k = g) ?_ ⟨ho, fun k => by simp [Value.ownBlock, eq_comm]⟩ ?_
  · exact (Kept.refl _ _).grown hg (fun k _ e => (h1.2 k).2 e)
  · rintro k rfl
    exact hat.elim (fun a => .inl ((h1.2 _).2 a)) (fun a => .inr (by omega))
end

section
variable {P : Program} {S : Nat → Prop} {w0 w : World} {l : List SP}
/-- The same at a plain region's operation. -/
theorem St.list_app (H : St S w0 w l) (i : Nat) {e : TypeId} {size : Nat} {v : Value} {n : Nat} {xs : List Value} (hi : l[i]? = some (Row e size v n xs))
    {ops : Array Oper} {rest : List Oper} {o : Oper} {a : Act} {Q : Exit → Act → World → Prop} (hgd : o.guard = none) (s x : Operand) (t : TypeId)
    (ho : o.op = .call { callee := .builtin .append, args := #[s, x], argTypes := #[t, t] }) {z : Value} {bytes : Nat} (ht : P.underlying t = some (.slice e))
    (hinfo : (P.info? e).map (fun i => (i.zero, i.size, i.bytes)) = some (some z, size, bytes)) (hzs : z.cells.size = size ∧ 0 < size ∧ 0 < bytes)
    (hs : a.eval s = v) {ad : Addr} {c m : Nat} (news : List Value) (hx : a.eval x = .slice (some ad) m c) (hl : news.length = m * size) (hnews : ∀ j u, news[j]? = some u → w.cell? (ad.add j) = some u) (h1 : ∀ u ∈ news, u.oneCell' = true)
    (hm : 0 < m) (hbytes : (n + m) * bytes ≤ 140737488355328)
    (h : ∀ g cap w', St S w0 w' (l.set i (Row e size (.slice (some ⟨g, 0, none⟩) (n + m) cap) (n + m) (xs ++ news))) → w.heap.size ≤ w'.heap.size → wpList P ops Q rest (a.put o.dst (.slice (some ⟨g, 0, none⟩) (n + m) cap)) w') :
    wpList P ops Q (o :: rest) a w := by
  obtain ⟨ti, hti, hz, hsz, hby⟩ := info_parts hinfo
  refine wpList_append_lies w hgd s x t ho 0 e ti z size bytes ht hti hz hsz hby hzs.1 hzs.2.1 v n xs hs (H.row i hi) ad m c news hx hl hnews h1 hm
    (by have := Nat.le_mul_of_pos_right (n + m) hzs.2.2; unfold maxLen; omega) hbytes (Nat.zero_le _) _ rfl ?_
  intro g cap w' hown hgrow hat _
  exact h g cap w' (H.grown i hi hown hgrow hat) hgrow.size
/-- What a new block holds is what is appended. -/
theorem new_cells {w : World} (cs : Array Value) (t : TypeId) : ∀ j u, cs.toList[j]? = some u → (w.alloc (.cells cs t)).cell? ((⟨w.heap.size, 0, none⟩ : Addr).add j) = some u := World.news_of_block (heap_alloc_new _ _)
end

end Go.Proofs.YtiglgfonhdfpmaaGreat

/- A store as plain data: blocks that last, writes that wait, reads, calls; and its cells in memory. Plain laws, no program in sight. -/
set_option linter.unusedVariables false
set_option linter.unusedSimpArgs false
namespace Go.Proofs.YtiglgfonhdfpmaaGreat
open Go.RowKit

/-- A byte in its cell. -/
def bv (b : UInt8) : Value := .int .u8 (b.toNat : Int)
def bvs (l : List UInt8) : List Value := l.map bv
def intCells (l : List Int) : List Value := l.map (Value.int .i64)
theorem flat_len {α : Type} {k : Nat} : ∀ {l : List (List α)}, (∀ x ∈ l, x.length = k) → l.flatten.length = l.length * k
  | [], _ => by simp
  | x :: l, h => by
    have := flat_len (l := l) (fun y hy => h y (by simp [hy]))
    simp only [List.flatten_cons, List.length_append, this, h x (by simp), List.length_cons, Nat.add_mul]; omega
theorem flat_take {α : Type} {k : Nat} : ∀ {l : List (List α)} (_ : ∀ x ∈ l, x.length = k) (i : Nat), (l.take i).flatten = l.flatten.take (i * k)
  | [], _, i => by simp
  | x :: l, h, 0 => by simp
  | x :: l, h, i + 1 => by
    have hx := h x (by simp)
    rw [List.take_succ_cons, List.flatten_cons, List.flatten_cons, flat_take (fun y hy => h y (by simp [hy])) i, List.take_append, List.take_of_length_le (l := x) (by rw [hx, Nat.add_mul]; omega)]
    congr 2
    rw [hx, Nat.add_mul]; omega
theorem flat_drop {α : Type} {k : Nat} : ∀ {l : List (List α)} (_ : ∀ x ∈ l, x.length = k) (i : Nat), (l.drop i).flatten = l.flatten.drop (i * k)
  | [], _, i => by simp
  | x :: l, h, 0 => by simp
  | x :: l, h, i + 1 => by
    have hx := h x (by simp)
    rw [List.drop_succ_cons, List.flatten_cons, flat_drop (fun y hy => h y (by simp [hy])) i, List.drop_append, List.drop_of_length_le (l := x) (by rw [hx, Nat.add_mul]; omega), List.nil_append]
    congr 1
    rw [hx, Nat.add_mul]; omega
/-- The i-th of them. -/
theorem flat_at {α : Type} {k : Nat} {l : List (List α)} (h : ∀ x ∈ l, x.length = k) {i : Nat} {x : List α} (hi : l[i]? = some x) : (l.flatten.drop (i * k)).take k = x := by
  have hlt := (List.getElem?_eq_some_iff.1 hi).1
  have hx := h x (List.mem_of_getElem? hi)
  rw [← flat_drop h, List.drop_eq_getElem_cons hlt, List.flatten_cons]
  have : l[i] = x := (List.getElem?_eq_some_iff.1 hi).2
  rw [this, List.take_append_of_le_length (by omega), List.take_of_length_le (by omega)]
theorem flat_get {α : Type} {k : Nat} {l : List (List α)} (h : ∀ x ∈ l, x.length = k) {i j : Nat} {x : List α} (hi : l[i]? = some x) (hj : j < k) : l.flatten[i * k + j]? = x[j]? := by
  have := flat_at h hi
  rw [← this, List.getElem?_take, if_pos hj, List.getElem?_drop]
/-- The first cells of one of them are laid anew. -/
theorem flat_splice {α : Type} {k : Nat} {l : List (List α)} (h : ∀ x ∈ l, x.length = k) {i : Nat} {x : List α} (hi : l[i]? = some x) (y : List α) (hy : y.length ≤ k) :
    splice l.flatten (i * k) y = (l.set i (y ++ x.drop y.length)).flatten := by
  have hlt := (List.getElem?_eq_some_iff.1 hi).1
  have hx := h x (List.mem_of_getElem? hi)
  have e : l[i] = x := (List.getElem?_eq_some_iff.1 hi).2
  unfold splice
  rw [List.set_eq_take_append_cons_drop, if_pos hlt, List.flatten_append, List.flatten_cons, flat_take h, flat_drop h]
  congr 1
  rw [List.append_assoc]
  congr 1
  have e2 : l.flatten.drop (i * k) = x ++ l.flatten.drop ((i + 1) * k) := by
    rw [← flat_drop h, ← flat_drop h, List.drop_eq_getElem_cons hlt, List.flatten_cons, e]
  rw [← List.drop_drop, e2, List.drop_append_of_le_length (by omega)]

/-- A store as plain data. -/
structure StM where
  last : List (List UInt8)
  waits : List (Int × List UInt8)
  reads : List Int
  calls : Int

structure StM.Good (m : StM) : Prop where
  count : 1 ≤ m.last.length ∧ m.last.length ≤ 4096
  full : ∀ x ∈ m.last, x.length = 128
  reads : m.reads.length = m.last.length
  waits : ∀ x ∈ m.waits, 0 ≤ x.1 ∧ x.1 < m.last.length ∧ x.2.length = 128
  room : m.waits.length ≤ 1000000
  calls : m.calls ≤ 9223372036854775807

def spendC (c : Int) : Int := if 0 < c then c - 1 else c

def StM.inn (m : StM) (at' : Int) : Bool := decide (0 ≤ at') && decide (at' < m.last.length)
def StM.write (m : StM) (at' : Int) (b : List UInt8) : Int × StM :=
  if m.inn at' = false then (32, m) else if b.length ≠ 128 then (2, m) else if m.calls = 0 then (31, m) else (0, { m with calls := spendC m.calls, waits := m.waits ++ [(at', b)] })
/-- What a read tells: the block that lasts, and what was written last. -/
def over (at' : Int) (b : List UInt8) (l : List (Int × List UInt8)) : List UInt8 := l.foldl (fun b w => if w.1 = at' then w.2 else b) b
def StM.look (m : StM) (at' : Int) : List UInt8 := over at' (m.last.getD at'.toNat []) m.waits
def StM.read (m : StM) (at' : Int) : List UInt8 × Int × StM :=
  if m.inn at' = false then ([], 32, m) else if m.calls = 0 then ([], 31, m) else (m.look at', 0, { m with reads := m.reads.set at'.toNat (wrap64 (m.reads.getD at'.toNat 0 + 1)) })
end Go.Proofs.YtiglgfonhdfpmaaGreat

/- Items: which names are right, which items. Plain laws, no program in sight. -/
set_option linter.unusedVariables false
set_option linter.unusedSimpArgs false
namespace Go.Proofs.YtiglgfonhdfpmaaGreat

structure Itm where
  kind : Int
  key : List UInt8
  time : Int
  value : Int
def evSign (c : UInt8) : Bool := (decide (97 ≤ c.toNat) && decide (c.toNat ≤ 122)) || (decide (48 ≤ c.toNat) && decide (c.toNat ≤ 57)) || c.toNat == 45
def nameB (s : List UInt8) : Bool := !s.isEmpty && decide (s.length ≤ 16) && s.all evSign
def Itm.right (x : Itm) : Bool :=
  decide (0 ≤ x.time) && decide (x.time ≤ 1099511627776) &&
    (if x.kind = 1 then nameB x.key && decide (-1099511627776 ≤ x.value) && decide (x.value ≤ 1099511627776) else if x.kind = 2 then x.key.isEmpty && decide (x.value = 0) else false)
def Itm.fits (x : Itm) : Prop := (-9223372036854775808 ≤ x.kind ∧ x.kind ≤ 9223372036854775807) ∧ x.key.length ≤ 9223372036854775807 ∧ (-9223372036854775808 ≤ x.time ∧ x.time ≤ 9223372036854775807) ∧ (-9223372036854775808 ≤ x.value ∧ x.value ≤ 9223372036854775807)

end Go.Proofs.YtiglgfonhdfpmaaGreat

/- Queries, and what is known of a window's values, as plain data: which are right, one value, two joined, what comes out. Plain laws, no program in sight. -/
set_option linter.unusedVariables false
set_option linter.unusedSimpArgs false
namespace Go.Proofs.YtiglgfonhdfpmaaGreat

structure Qry where
  kind : Int
  size : Int
  slide : Int
  late : Int
  agg : Int
  k : Int
deriving DecidableEq
def Qry.slides (q : Qry) : Bool := if q.kind = 2 then decide (1 ≤ q.slide) && decide (q.slide ≤ q.size) && decide (q.size ≤ 16 * q.slide) else decide (q.slide = 0)
def Qry.kB (q : Qry) : Bool := if q.agg = 6 then decide (1 ≤ q.k) && decide (q.k ≤ 8) else decide (q.k = 0)
def Qry.right (q : Qry) : Bool :=
  decide (1 ≤ q.kind ∧ q.kind ≤ 3) && decide (1 ≤ q.size ∧ q.size ≤ 1073741824) && q.slides && decide (0 ≤ q.late ∧ q.late ≤ 1073741824) && decide (1 ≤ q.agg ∧ q.agg ≤ 7) && q.kB

/-- What is known of values: how many, one number, the top ones, two parts. -/
structure Ag where
  n : Int
  a : Int
  top : List Int
  x : Int
  y : Int
deriving DecidableEq
def Ag.zero : Ag := ⟨0, 0, [], 0, 0⟩
def valB (v : Int) : Bool := decide (-1099511627776 ≤ v) && decide (v ≤ 1099511627776)
def fallB : List Int → Bool
  | [] => true
  | [v] => valB v
  | v :: w :: r => valB v && decide (w ≤ v) && fallB (w :: r)
def numB (q : Qry) (a : Int) : Bool := if q.agg = 2 ∨ q.agg = 5 then decide (-4398046511104 ≤ a) && decide (a ≤ 4398046511104) else if q.agg = 3 ∨ q.agg = 4 then valB a else decide (a = 0)
def topB (q : Qry) (n : Int) (l : List Int) : Bool := if q.agg = 6 then decide ((l.length : Int) = min n q.k) && fallB l else decide (l = [])
def partB (x : Int) : Bool := decide (-1073741824 ≤ x) && decide (x ≤ 1073741824)
def Ag.right (q : Qry) (g : Ag) : Bool :=
  q.right && decide (0 ≤ g.n) && decide (g.n ≤ 1073741824) && numB q g.a && topB q g.n g.top && (decide (q.agg = 7) || decide (g.x = 0 ∧ g.y = 0)) && partB g.x && partB g.y && (decide (0 < g.n) || decide (g.a = 0 ∧ g.x = 0 ∧ g.y = 0))
/-- Turned by quarters. -/
def turnX (v : Int) : Int := if v % 4 = 0 then 1 else if v % 4 = 2 then -1 else 0
def turnY (v : Int) : Int := if v % 4 = 1 then 1 else if v % 4 = 3 then -1 else 0
def singleM (q : Qry) (v : Int) : Ag :=
  if 2 ≤ q.agg ∧ q.agg ≤ 5 then ⟨1, v, [], 0, 0⟩ else if q.agg = 6 then ⟨1, 0, [v], 0, 0⟩ else if q.agg = 7 then ⟨1, 0, [], turnX v, turnY v⟩ else ⟨1, 0, [], 0, 0⟩
def joinedM (q : Qry) (a b : Int) : Int := if q.agg = 3 then min a b else if q.agg = 4 then max a b else a + b
/-- A value laid into a falling list. -/
def insD (v : Int) : List Int → List Int
  | [] => [v]
  | x :: r => if x < v then v :: x :: r else x :: insD v r
def sortD : List Int → List Int
  | [] => []
  | v :: r => insD v (sortD r)
def topM (q : Qry) (a b : List Int) : List Int := if q.agg = 6 then (sortD (a ++ b)).take q.k.toNat else []
def sumM (q : Qry) (a b : Ag) : Ag := ⟨a.n + b.n, joinedM q a.a b.a, topM q a.top b.top, a.x + b.x, a.y + b.y⟩
/-- Two joined; none: a number runs over. -/
def mergeM (q : Qry) (a b : Ag) : Option Ag := if a.n = 0 then some b else if b.n = 0 then some a else if (sumM q a b).right q = true then some (sumM q a b) else none
def floorM (a n : Int) : Int := a / n
def valueM (q : Qry) (g : Ag) : List Int :=
  if g.n = 0 then [] else if q.agg = 1 then [g.n] else if q.agg = 5 then [floorM g.a g.n] else if q.agg = 6 then g.top else if q.agg = 7 then [g.x, g.y] else [g.a]

theorem insD_len (v : Int) : ∀ l, (insD v l).length = l.length + 1
  | [] => rfl
  | x :: r => by
    unfold insD
    split
    · simp
    · simp [insD_len v r]
theorem sortD_len : ∀ l, (sortD l).length = l.length
  | [] => rfl
  | v :: r => by simp [sortD, insD_len, sortD_len r]
theorem insD_mem (v : Int) : ∀ l (x : Int), x ∈ insD v l ↔ x = v ∨ x ∈ l
  | [], x => by simp [insD]
  | y :: r, x => by
    unfold insD
    split
    · simp
    · simp only [List.mem_cons, insD_mem v r x]
      constructor
      · rintro (h | h | h)
        · exact .inr (.inl h)
        · exact .inl h
        · exact .inr (.inr h)
      · rintro (h | h | h)
        · exact .inr (.inl h)
        · exact .inl h
        · exact .inr (.inr h)
theorem sortD_mem : ∀ l (x : Int), x ∈ sortD l ↔ x ∈ l
  | [], x => by simp [sortD]
  | v :: r, x => by simp [sortD, insD_mem, sortD_mem r]
/-- A falling list. -/
def Fall (l : List Int) : Prop := l.Pairwise fun a b => b ≤ a
theorem insD_fall (v : Int) : ∀ {l}, Fall l → Fall (insD v l)
  | [], _ => by unfold insD Fall; simp
  | x :: r, h => by
    unfold insD
    have h1 := List.pairwise_cons.1 h
    split
    · rename_i hx
      refine List.pairwise_cons.2 ⟨fun y hy => ?_, h⟩
      rcases List.mem_cons.1 hy with rfl | hy
      · omega
      · have := h1.1 y hy; omega
    · rename_i hx
      refine List.pairwise_cons.2 ⟨fun y hy => ?_, insD_fall v h1.2⟩
      rcases (insD_mem v r y).1 hy with rfl | hy
      · omega
      · exact h1.1 y hy
theorem sortD_fall : ∀ l, Fall (sortD l)
  | [] => List.Pairwise.nil
  | v :: r => insD_fall v (sortD_fall r)
theorem insD_perm (v : Int) : ∀ l, (insD v l).Perm (v :: l)
  | [] => List.Perm.refl _
  | x :: r => by
    unfold insD
    split
    · exact List.Perm.refl _
    · exact ((insD_perm v r).cons x).trans (List.Perm.swap v x r)
theorem sortD_perm : ∀ l, (sortD l).Perm l
  | [] => List.Perm.refl _
  | v :: r => (insD_perm v (sortD r)).trans ((sortD_perm r).cons v)
/-- Falling lists of the same numbers are one. -/
theorem fall_one : ∀ {l m : List Int}, Fall l → Fall m → l.Perm m → l = m
  | [], m, _, _, h => (List.nil_perm.1 h).symm
  | x :: l, [], _, _, h => absurd h.length_eq (by simp)
  | x :: l, y :: m, hl, hm, h => by
    have h1 := List.pairwise_cons.1 hl
    have h2 := List.pairwise_cons.1 hm
    have a : y ≤ x := by
      rcases List.mem_cons.1 (h.symm.subset (List.mem_cons_self (a := y) (l := m))) with h | h
      · omega
      · exact h1.1 y h
    have b : x ≤ y := by
      rcases List.mem_cons.1 (h.subset (List.mem_cons_self (a := x) (l := l))) with h | h
      · omega
      · exact h2.1 x h
    obtain rfl : x = y := by omega
    rw [fall_one h1.2 h2.2 (List.Perm.cons_inv h)]
theorem sortD_is {l m : List Int} (h : Fall m) (hp : m.Perm l) : sortD l = m := fall_one (sortD_fall l) h ((sortD_perm l).trans hp.symm)
theorem fallB_iff : ∀ {l : List Int}, fallB l = true ↔ Fall l ∧ ∀ v ∈ l, valB v = true
  | [] => by simp [fallB, Fall]
  | [v] => by simp [fallB, Fall]
  | v :: w :: r => by
    have ih := fallB_iff (l := w :: r)
    simp only [fallB, Bool.and_eq_true, decide_eq_true_eq, ih]
    constructor
    · rintro ⟨⟨h1, h2⟩, h3, h4⟩
      refine ⟨List.pairwise_cons.2 ⟨fun y hy => ?_, h3⟩, fun y hy => ?_⟩
      · rcases List.mem_cons.1 hy with rfl | hy
        · exact h2
        · have := (List.pairwise_cons.1 h3).1 y hy; omega
      · rcases List.mem_cons.1 hy with rfl | hy
        · exact h1
        · exact h4 y hy
    · rintro ⟨h1, h2⟩
      have h3 := List.pairwise_cons.1 h1
      exact ⟨⟨h2 v (by simp), h3.1 w (by simp)⟩, h3.2, fun y hy => h2 y (by simp [hy])⟩

end Go.Proofs.YtiglgfonhdfpmaaGreat

/- What is known of values: laws. The document's way to the top ones; what is right stays right; quotients. Plain laws, no program in sight. -/
set_option linter.unusedVariables false
set_option linter.unusedSimpArgs false
namespace Go.Proofs.YtiglgfonhdfpmaaGreat

theorem valB_iff {v : Int} : valB v = true ↔ -1099511627776 ≤ v ∧ v ≤ 1099511627776 := by simp [valB]
theorem partB_iff {v : Int} : partB v = true ↔ -1073741824 ≤ v ∧ v ≤ 1073741824 := by simp [partB]
/-- What right means. -/
theorem Ag.right_iff {q : Qry} {g : Ag} : g.right q = true ↔ q.right = true ∧ 0 ≤ g.n ∧ g.n ≤ 1073741824 ∧ numB q g.a = true ∧ topB q g.n g.top = true ∧ (q.agg = 7 ∨ g.x = 0 ∧ g.y = 0) ∧ partB g.x = true ∧ partB g.y = true ∧ (0 < g.n ∨ g.a = 0 ∧ g.x = 0 ∧ g.y = 0) := by
  simp only [Ag.right, Bool.and_eq_true, Bool.or_eq_true, decide_eq_true_eq]
  constructor
  · rintro ⟨⟨⟨⟨⟨⟨⟨⟨h1, h2⟩, h3⟩, h4⟩, h5⟩, h6⟩, h7⟩, h8⟩, h9⟩
    exact ⟨h1, h2, h3, h4, h5, h6, h7, h8, h9⟩
  · rintro ⟨h1, h2, h3, h4, h5, h6, h7, h8, h9⟩
    exact ⟨⟨⟨⟨⟨⟨⟨⟨h1, h2⟩, h3⟩, h4⟩, h5⟩, h6⟩, h7⟩, h8⟩, h9⟩
theorem topB_iff {q : Qry} {n : Int} {l : List Int} : topB q n l = true ↔ (q.agg = 6 ∧ (l.length : Int) = min n q.k ∧ Fall l ∧ ∀ v ∈ l, valB v = true) ∨ (q.agg ≠ 6 ∧ l = []) := by
  unfold topB
  by_cases h : q.agg = 6
  · rw [if_pos h, Bool.and_eq_true, decide_eq_true_eq, fallB_iff]
    simp [h]
  · rw [if_neg h, decide_eq_true_eq]
    simp [h]
theorem zero_right {q : Qry} (h : q.right = true) : Ag.zero.right q = true := by
  have hq : q.kB = true := by
    unfold Qry.right at h
    simp only [Bool.and_eq_true] at h
    exact h.2
  refine Ag.right_iff.2 ⟨h, by simp [Ag.zero], by simp [Ag.zero], ?_, ?_, .inr ⟨rfl, rfl⟩, by decide, by decide, .inr ⟨rfl, rfl, rfl⟩⟩
  · unfold numB Ag.zero
    simp [valB]
  · refine topB_iff.2 ?_
    by_cases h6 : q.agg = 6
    · refine .inl ⟨h6, ?_, by simp [Ag.zero, Fall], by simp [Ag.zero]⟩
      unfold Qry.kB at hq
      rw [if_pos h6] at hq
      simp only [Bool.and_eq_true, decide_eq_true_eq] at hq
      simp only [Ag.zero, List.length_nil]
      omega
    · exact .inr ⟨h6, rfl⟩
theorem single_right {q : Qry} {v : Int} (h : q.right = true) (hv : valB v = true) : (singleM q v).right q = true := by
  have hq : q.kB = true := by
    unfold Qry.right at h
    simp only [Bool.and_eq_true] at h
    exact h.2
  have hv' := valB_iff.1 hv
  have hx : -1 ≤ turnX v ∧ turnX v ≤ 1 := by unfold turnX; split <;> try split
                                             all_goals omega
  have hy : -1 ≤ turnY v ∧ turnY v ≤ 1 := by unfold turnY; split <;> try split
                                             all_goals omega
  unfold singleM
  split
  · rename_i h1
    refine Ag.right_iff.2 ⟨h, by simp, by simp, ?_, topB_iff.2 (.inr ⟨by omega, rfl⟩), .inr ⟨rfl, rfl⟩, (by decide : partB 0 = true), (by decide : partB 0 = true), .inl (by simp)⟩
    unfold numB
    split
    · simp; omega
    · rw [if_pos (by omega)]; exact hv
  · split
    · rename_i h1 h6
      have hk : 1 ≤ q.k ∧ q.k ≤ 8 := by
        unfold Qry.kB at hq
        rw [if_pos h6] at hq
        simpa using hq
      refine Ag.right_iff.2 ⟨h, by simp, by simp, ?_, topB_iff.2 (.inl ⟨h6, ?_, by simp [Fall], by simpa using hv⟩), .inr ⟨rfl, rfl⟩, (by decide : partB 0 = true), (by decide : partB 0 = true), .inl (by simp)⟩
      · unfold numB
        rw [if_neg (by omega), if_neg (by omega)]
        simp
      · simp only [List.length_cons, List.length_nil]
        omega
    · split
      · rename_i h1 h6 h7
        refine Ag.right_iff.2 ⟨h, by simp, by simp, ?_, topB_iff.2 (.inr ⟨h6, rfl⟩), .inl h7, partB_iff.2 (by simp only; omega), partB_iff.2 (by simp only; omega), .inl (by simp)⟩
        unfold numB
        rw [if_neg (by omega), if_neg (by omega)]
        simp
      · rename_i h1 h6 h7
        refine Ag.right_iff.2 ⟨h, by simp, by simp, ?_, topB_iff.2 (.inr ⟨h6, rfl⟩), .inr ⟨rfl, rfl⟩, (by decide : partB 0 = true), (by decide : partB 0 = true), .inl (by simp)⟩
        unfold numB
        rw [if_neg (by omega), if_neg (by omega)]
        simp
theorem merge_right {q : Qry} {a b g : Ag} (ha : a.right q = true) (hb : b.right q = true) (h : mergeM q a b = some g) : g.right q = true := by
  unfold mergeM at h
  split at h
  · obtain rfl := Option.some.inj h; exact hb
  · split at h
    · obtain rfl := Option.some.inj h; exact ha
    · split at h
      · obtain rfl := Option.some.inj h; assumption
      · cases h

end Go.Proofs.YtiglgfonhdfpmaaGreat

/- Windows: which are right, which join, their order. Plain laws. -/
set_option linter.unusedVariables false
set_option linter.unusedSimpArgs false
namespace Go.Proofs.YtiglgfonhdfpmaaGreat

structure Wd where
  key : List UInt8
  frm : Int
  «to» : Int
deriving DecidableEq
def Wd.fits (x : Wd) : Prop := x.key.length ≤ 9223372036854775807 ∧ (-9223372036854775808 ≤ x.frm ∧ x.frm ≤ 9223372036854775807) ∧ (-9223372036854775808 ≤ x.to ∧ x.to ≤ 9223372036854775807)
def Wd.right (x : Wd) : Bool := nameB x.key && decide (0 ≤ x.frm) && decide (x.frm ≤ 1099511627776) && decide (x.frm < x.to) && decide (x.to ≤ 4398046511104)
def Wd.joins (a b : Wd) : Bool := a.right && b.right && decide (a.key = b.key) && decide (a.frm ≤ b.to) && decide (b.frm ≤ a.to)
def Wd.place (a b : Wd) : Int := if Lib.compareBytes a.key b.key ≠ 0 then Lib.compareBytes a.key b.key else if Lib.compareInt a.frm b.frm ≠ 0 then Lib.compareInt a.frm b.frm else Lib.compareInt a.to b.to
end Go.Proofs.YtiglgfonhdfpmaaGreat

/- Arrays by value in a walk: built, loaded from the middle of a block, copied. Laws over any program. No condition of its own. -/
set_option linter.unusedVariables false
set_option linter.unusedSimpArgs false
namespace Go.Proofs.YtiglgfonhdfpmaaGreat
open Go.RowKit

section
variable {P : Program} {ops : Array Oper} {w : World}
/-! What an operation comes to, as an equation that the walk takes for a rule. -/
/-- Cells of a block from a place on, as a list; and whether they are there. -/
def cellsAt (w : World) (b o n : Nat) : List Value := (List.range n).map fun j => (w.cell? ⟨b, o + j, none⟩).getD undef
def hasCells (w : World) (b o n : Nat) : Bool := (List.range n).all fun j => (w.cell? ⟨b, o + j, none⟩).isSome
def blockOf : Value → Nat | .pointer (some a) => a.block | _ => 0
def placeOf : Value → Nat | .pointer (some a) => a.off | _ => 0
def plainPtr : Value → Bool | .pointer (some a) => a.spot.isNone | _ => false
@[go_sem] theorem cellsAt_drew (b o n : Nat) : cellsAt w.drew b o n = cellsAt w b o n := rfl
@[go_sem] theorem hasCells_drew (b o n : Nat) : hasCells w.drew b o n = hasCells w b o n := rfl
@[go_sem] theorem blockOf_lit (b o : Nat) : blockOf (.pointer (some ⟨b, o, none⟩)) = b := rfl
@[go_sem] theorem placeOf_lit (b o : Nat) : placeOf (.pointer (some ⟨b, o, none⟩)) = o := rfl
@[go_sem] theorem plainPtr_lit (b o : Nat) : plainPtr (.pointer (some ⟨b, o, none⟩)) = true := rfl
def aggOf : Value → Array Value | .agg cs => cs | v => #[v]
@[go_sem] theorem aggOf_lit (cs : Array Value) : aggOf (.agg cs) = cs := rfl
end

section
variable {P : Program} {S : Nat → Prop} {w0 w : World} {l : List SP}
/-- A row whose cells are laid anew. -/
theorem St.setRow (h : St S w0 w l) (i : Nat) {b : Nat} {cs : Array Value} {t : TypeId} (hi : l[i]? = some (Blk b cs t)) (cs' : Array Value) : St S w0 (w.setRow b cs') (l.set i (Blk b cs' t)) := by
  obtain ⟨S1, h1, h2⟩ := h.turn i hi
  refine h2 (S1' := S1) ⟨rfl, rfl, rfl, by simp, fun k _ hk => setRow_other w b k cs' (fun e => hk ((h1.2 k).2 e))⟩ ⟨setRow_heap w b _ cs' t _ h1.1, h1.2⟩ (fun _ a => .inl a)

end

/-- What a value that owns a row looks like. -/
theorem own_shape {w : World} {base : Nat} {e : TypeId} {size : Nat} {v : Value} {n : Nat} {xs : List Value} (h : w.ownsRow base e size v n xs) :
    (v = .slice none 0 0 ∧ n = 0) ∨ ∃ g cap, v = .slice (some ⟨g, 0, none⟩) n cap ∧ n ≤ cap ∧ g < w.heap.size := by
  rcases h.2 with a | ⟨g, cap, cur, hv, _, hg, hn, _⟩
  · exact .inl a
  · exact .inr ⟨g, cap, hv, hn, blk_lt hg⟩
theorem own_cell {w : World} {base : Nat} {e : TypeId} {size : Nat} {g n cap : Nat} {xs : List Value} (h : w.ownsRow base e size (.slice (some ⟨g, 0, none⟩) n cap) n xs) {j : Nat} {u : Value} (hj : xs[j]? = some u) :
    w.cell? ⟨g, j, none⟩ = some u := by
  have := h.cells (g := g) rfl j u hj
  rwa [Addr.add_mid, Nat.zero_add] at this
/-- How many cells a block has that may be written. -/
def rowSize (w : World) (b : Nat) : Nat := match w.heap[b]? with | some (.cells cs _ (0, 0)) => cs.size | _ => 0
theorem rowSize_of {w : World} {b : Nat} {cs : Array Value} {t : TypeId} (h : w.heap[b]? = some (.cells cs t (0, 0))) : rowSize w b = cs.size := by unfold rowSize; rw [h]; rfl
@[go_sem] theorem rowSize_drew (w : World) (b : Nat) : rowSize w.drew b = rowSize w b := rfl
@[go_sem] theorem rowSize_alloc_at (w : World) (c : Array Value) (t : TypeId) (b : Nat) (hb : b = w.heap.size) : rowSize (w.alloc (.cells c t)) b = c.size := by subst hb; exact rowSize_of (heap_alloc_new _ _)
@[go_sem] theorem rowSize_alloc_past (w : World) (o : Obj) (b : Nat) (hb : b < w.heap.size) : rowSize (w.alloc o) b = rowSize w b := by unfold rowSize; rw [heap_alloc_old _ _ hb]
@[go_sem] theorem setRow_alloc_at (w : World) (c c' : Array Value) (t : TypeId) (b : Nat) (hb : b = w.heap.size) : (w.alloc (.cells c t)).setRow b c' = w.alloc (.cells c' t) := by
  subst hb
  simp only [World.setRow, World.alloc]
  congr 1
  apply Array.ext_getElem?
  intro i
  rw [Array.getElem?_modify]
  by_cases h : w.heap.size = i
  · subst h
    simp
  · have h' : ¬ i = w.heap.size := fun e => h e.symm
    simp [h, h', Array.getElem?_push]
@[go_sem] theorem setRow_drew (w : World) (c' : Array Value) (b : Nat) : w.drew.setRow b c' = (w.setRow b c').drew := rfl
def allOne (cs : Array Value) : Bool := cs.all (·.oneCell')
def isAggV : Value → Bool | .agg _ => true | _ => false
@[go_sem] theorem isAggV_lit (cs : Array Value) : isAggV (.agg cs) = true := rfl
theorem run_store_at {P : Program} {w : World} {a : Act} {dst : Option Tmp} {ty' : TypeId} {pos : String} {after : Array Edge} {g : Option (Nat × Bool)} {t : TypeId} {x y : Operand} {n : Nat}
    (hi : (P.info? t).map (·.size) = some n) (hn : 0 < n) (hp : plainPtr (a.eval x) = true) (ho : placeOf (a.eval x) = 0) (hr : rowSize w (blockOf (a.eval x)) = n) (hv : isAggV (a.eval y) = true) (hs : (aggOf (a.eval y)).size = n) (h1 : allOne (aggOf (a.eval y)) = true) :
    (execOp a.eval ⟨dst, .store t x y, ty', pos, after, g⟩).run P w = .ok .skip (w.setRow (blockOf (a.eval x)) (aggOf (a.eval y))) := by
  cases hx : a.eval x with
  | pointer q =>
    cases q with
    | none => rw [hx] at hp; cases hp
    | some ad =>
      obtain ⟨b, o, sp⟩ := ad
      rw [hx] at hp hr ho
      obtain rfl : sp = none := by simpa [plainPtr] using hp
      obtain rfl : o = 0 := ho
      cases hy : a.eval y with
      | agg cs =>
        rw [hy] at hs h1
        change cs.size = n at hs
        change rowSize w b = n at hr
        unfold rowSize at hr
        split at hr
        · rename_i c2 t2 hb
          unfold execOp
          simp only [hx, hy, Instr.storeAt, Instr.sureAddr, Sem.run_bind, Sem.run_pure, Result.andThen_ok, run_storeVar_row w b t2 t c2 cs hb (by rw [hs]; exact hi) (by omega) h1]
          rfl
        · omega
      | _ => rw [hy] at hv; cases hv
  | _ => rw [hx] at hp; cases hp

section
variable {P : Program} {S : Nat → Prop} {w0 w : World} {l : List SP}
/-- A whole variable is stored into a block of its own, as an operation of a plain list. -/
theorem St.list_store (H : St S w0 w l) (i : Nat) {g : Nat} {old : Array Value} {t : TypeId} (hi' : l[i]? = some (Blk g old t))
    {ops : Array Oper} {rest : List Oper} {o : Oper} {a : Act} {Q : Exit → Act → World → Prop} (hgd : o.guard = none) (ty : TypeId) (x y : Operand) (ho : o.op = .store ty x y)
    (cells : Array Value) (hx : a.eval x = .pointer (some ⟨g, 0, none⟩)) (hy : a.eval y = .agg cells) (hi : (P.info? ty).map (·.size) = some cells.size) (hold : old.size = cells.size) (h1 : ∀ u ∈ cells.toList, u.oneCell' = true)
    (h : ∀ w', St S w0 w' (l.set i (Blk g cells t)) → w'.heap.size = w.heap.size → wpList P ops Q rest (a.put o.dst undef) w') : wpList P ops Q (o :: rest) a w :=
  wpList_store_row hgd ty x y ho g cells hx hy t old (H.blk i hi') hi hold (Array.all_eq_true_iff_forall_mem.2 (fun v hv => h1 v (by simpa using hv))) (h _ (H.setRow i hi' cells) (by simp))
end

end Go.Proofs.YtiglgfonhdfpmaaGreat

/- More laws of parts: an element of an owned row is laid anew; texts as cells. Plain laws, no program in sight. -/
set_option linter.unusedVariables false
set_option linter.unusedSimpArgs false
namespace Go.Proofs.YtiglgfonhdfpmaaGreat
open Go.RowKit

section
variable {S : Nat → Prop} {w0 w : World} {l : List SP}
end

def textV (l : List UInt8) : Value := .string ⟨l.toArray⟩
end Go.Proofs.YtiglgfonhdfpmaaGreat

/- Laws of reading, lending and calling that need no function of the program: bytes that can be read, texts of them, calls in the midst of a call. -/
set_option linter.unusedVariables false
set_option linter.unusedSimpArgs false
namespace Go.Proofs.YtiglgfonhdfpmaaGreat
open Go.RowKit

/-- A slice of bytes that can be read, and stays so while outside S nothing turns. -/
def BytesRO (S : Nat → Prop) (w : World) (v : Value) (l : List UInt8) : Prop :=
  ∃ ad cap, v = .slice ad l.length cap ∧ l.length ≤ cap ∧ (l ≠ [] → ∃ b o, ad = some ⟨b, o, none⟩ ∧ b < w.heap.size ∧ ¬ S b ∧ ∀ i (hi : i < l.length), w.cell? ⟨b, o + i, none⟩ = some (bv l[i]))
/-- A slice of bytes of the call's own. -/
def BytesAt (v : Value) (l : List UInt8) : SP where
  on w S := (l = [] ∧ v = .slice none 0 0 ∧ ∀ k, ¬ S k) ∨ ∃ g t, v = .slice (some ⟨g, 0, none⟩) l.length l.length ∧ w.heap[g]? = some (.cells (bvs l).toArray t (0, 0)) ∧ ∀ k, S k ↔ k = g
  loc w w' S h hs := by
    rcases h with h | ⟨g, t, h1, h2, h3⟩
    · exact .inl h
    · exact .inr ⟨g, t, h1, (hs g ((h3 g).2 rfl)).trans h2, h3⟩
  lt w S k h hk := by
    rcases h with ⟨_, _, h⟩ | ⟨g, t, h1, h2, h3⟩
    · exact absurd hk (h k)
    · obtain rfl := (h3 k).1 hk
      exact blk_lt h2
theorem BytesAt.nil {w0 w : World} {l : List SP} {S : Nat → Prop} (H : St S w0 w l) : St S w0 w (BytesAt (.slice none 0 0) [] :: l) :=
  ⟨H.kept, fun _ => False, .inl ⟨rfl, rfl, fun _ h => h⟩, fun _ h => h.elim, H.sep.mono (fun _ _ h => ⟨h, id⟩)⟩
theorem BytesAt.mk {w0 w : World} {l : List SP} {S : Nat → Prop} {g : Nat} {bs : List UInt8} {t : TypeId} (H : St S w0 w (Blk g (bvs bs).toArray t :: l)) : St S w0 w (BytesAt (.slice (some ⟨g, 0, none⟩) bs.length bs.length) bs :: l) := by
  obtain ⟨h, S1, h1, h2, h3⟩ := H
  exact ⟨h, S1, .inr ⟨g, t, rfl, h1.1, h1.2⟩, h2, h3⟩
theorem take_snoc' {α : Type} {l : List α} {k : Nat} {x : α} (h : l[k]? = some x) : l.take (k + 1) = l.take k ++ [x] := by
  obtain ⟨hlt, rfl⟩ := List.getElem?_eq_some_iff.1 h
  exact List.take_succ_eq_append_getElem hlt
theorem BytesAt.out {S : Nat → Prop} {w0 w : World} {rest : List SP} {v : Value} {bs : List UInt8} {n : Nat} (H : St S w0 w (BytesAt v bs :: rest)) (hn : bs.length = n) (h0 : 0 < n) :
    ∃ g t, v = .slice (some ⟨g, 0, none⟩) n n ∧ St S w0 w (Blk g (bvs bs).toArray t :: rest) := by
  obtain ⟨hk, S1, h1, h2, h3⟩ := H
  rcases h1 with ⟨rfl, _⟩ | ⟨g, t, e1, e2, e3⟩
  · simp at hn; omega
  · exact ⟨g, t, by rw [e1, hn], hk, S1, ⟨e2, e3⟩, h2, h3⟩
theorem row_form {w : World} {base : Nat} {e : TypeId} {size : Nat} {v : Value} {n N : Nat} {xs : List Value} (h : w.ownsRow base e size v n xs) (hn : n = N) (h0 : 0 < N) : ∃ g cap, v = .slice (some ⟨g, 0, none⟩) N cap := by
  subst hn
  rcases own_shape h with ⟨_, h⟩ | ⟨g, cap, h, _⟩
  · omega
  · exact ⟨g, cap, h⟩
/-- A call that leaves all that was there alone, in the midst of a call. -/
theorem St.callPast {S : Nat → Prop} {w w' : World} {L : List SP} {P : Program} {fid : Nat} {args : Array Value} {p : Ending → Prop} (hc : Calls P fid args w' fun e w2 => p e ∧ Below w'.heap.size w' w2) (H : St S w w' L) :
    Calls P fid args w' fun e w2 => p e ∧ St S w w2 L := hc.mono fun _ _ h => ⟨h.1, H.past h.2⟩
theorem St.callSame' {S : Nat → Prop} {w w' : World} {L : List SP} {P : Program} {fid : Nat} {args : Array Value} {p : Ending → Prop} (hc : Calls P fid args w' fun e w2 => p e ∧ w2 = w') (H : St S w w' L) :
    Calls P fid args w' fun e w2 => p e ∧ St S w w2 L := hc.mono fun _ _ h => ⟨h.1, h.2 ▸ H⟩
end Go.Proofs.YtiglgfonhdfpmaaGreat

/- append of any slice, empty or not, onto a row of the call's own. Laws over any program. -/
set_option linter.unusedVariables false
set_option linter.unusedSimpArgs false
namespace Go.Proofs.YtiglgfonhdfpmaaGreat
open Go.RowKit

theorem slice_form' {w : World} {base : Nat} {e : TypeId} {size : Nat} {v : Value} {n : Nat} {xs : List Value} (h : w.ownsRow base e size v n xs) : ∃ ao cap, v = .slice ao n cap ∧ n ≤ cap ∧ (n ≠ 0 → ∃ g, ao = some ⟨g, 0, none⟩) := by
  rcases own_shape h with ⟨h, h'⟩ | ⟨g, cap, h, h', _⟩
  · exact ⟨none, 0, by rw [h, h'], by omega, fun hn => absurd h' hn⟩
  · exact ⟨_, cap, h, h', fun _ => ⟨g, rfl⟩⟩

section
variable {P : Program} {S : Nat → Prop} {w0 w : World} {l : List SP}
theorem St.grown' (h : St S w0 w l) (i : Nat) {e : TypeId} {size : Nat} {v : Value} {n : Nat} {xs : List Value} (hi : l[i]? = some (Row e size v n xs)) {w' : World} {v' : Value} {n' : Nat} {xs' : List Value}
    (ho : w'.ownsRow 0 e size v' n' xs') (hg : w.grownBy w' v.ownBlock) (hat : v'.ownBlock = v.ownBlock ∨ v'.ownBlock = some w.heap.size) : St S w0 w' (l.set i (Row e size v' n' xs')) := by
  obtain ⟨S1, h1, h2⟩ := h.turn i hi
  refine h2 (S1' := fun k => v'.ownBlock = some k) ?_ ⟨ho, fun k => Iff.rfl⟩ ?_
  · exact (Kept.refl _ _).grown hg (fun k _ e => (h1.2 k).2 e)
  · intro k hk
    rcases hat with a | a
    · exact .inl ((h1.2 _).2 (a ▸ hk))
    · right; rw [a] at hk; have := Option.some.inj hk; omega
theorem src_none (w : World) {t e : TypeId} (ht : P.underlying t = some (.slice e)) (size c : Nat) : Src P size t (.slice none 0 c) 0 [] w :=
  ⟨.inl ⟨e, ht⟩, fun w' => by simp [Builtin.lenOf], by simp [Builtin.firstCells], by simp [Builtin.firstCells], by simp, by simp⟩
theorem St.run_append (H : St S w0 w l) (i : Nat) {e : TypeId} {size : Nat} {v : Value} {n : Nat} {xs : List Value} (hi : l[i]? = some (Row e size v n xs))
    {t ty : TypeId} {z : Value} {bytes : Nat} (ht : P.underlying t = some (.slice e))
    (hinfo : (P.info? e).map (fun i => (i.zero, i.size, i.bytes)) = some (some z, size, bytes)) (hzs : z.cells.size = size ∧ 0 < size ∧ 0 < bytes)
    {A : Option Addr} {c m : Nat} (news : List Value) (hl : news.length = m * size) (hA : A = none → m = 0) (hnews : ∀ ad, A = some ad → ∀ j u, news[j]? = some u → w.cell? (ad.add j) = some u) (h1 : ∀ u ∈ news, u.oneCell' = true)
    (hbytes : (n + m) * bytes ≤ 140737488355328) :
    ∃ v' w', (Builtin.append_ #[t, t] ty #[v, .slice A m c]).run P w = .ok v' w' ∧ St S w0 w' (l.set i (Row e size v' (n + m) (xs ++ news))) ∧ w.heap.size ≤ w'.heap.size := by
  obtain ⟨ti, hti, hz, hsz, hby⟩ := info_parts hinfo
  cases A with
  | none =>
    obtain rfl := hA rfl
    obtain rfl : news = [] := List.eq_nil_of_length_eq_zero (by simpa using hl)
    obtain ⟨ao, cap, rfl, hle⟩ : ∃ ao cap, v = .slice ao n cap ∧ n ≤ cap := by
      rcases own_shape (H.row i hi) with ⟨h, h'⟩ | ⟨g, cap, h, h', _⟩
      · exact ⟨none, 0, by rw [h, h'], by omega⟩
      · exact ⟨_, cap, h, h'⟩
    refine ⟨_, w, run_append_nothing w t t ty e ti ht hti ao n cap hle _ (src_none w ht _ c), ?_, Nat.le_refl _⟩
    rw [List.append_nil, Nat.add_zero]
    exact H.grown' i hi (H.row i hi) (World.grownBy.refl w _) (.inl rfl)
  | some ad =>
    obtain ⟨v', w', hr, h2, h3, _, h5⟩ := run_append_own_at (P := P) w 0 t ty e ti z size bytes ht hti hz hsz hby hzs.1 hzs.2.1 v n xs (H.row i hi) ad m c news hl (hnews ad rfl) h1
      (by have := Nat.le_mul_of_pos_right (n + m) hzs.2.2; unfold maxLen; omega) hbytes (Nat.zero_le _)
    exact ⟨v', w', hr, H.grown' i hi h2 h3 h5, h3.size⟩
/-- The same at a plain region's operation. -/
theorem St.list_add (H : St S w0 w l) (i : Nat) {e : TypeId} {size : Nat} {v : Value} {n : Nat} {xs : List Value} (hi : l[i]? = some (Row e size v n xs))
    {ops : Array Oper} {rest : List Oper} {o : Oper} {a : Act} {Q : Exit → Act → World → Prop} (hgd : o.guard = none) (s x : Operand) (t : TypeId)
    (ho : o.op = .call { callee := .builtin .append, args := #[s, x], argTypes := #[t, t] }) {z : Value} {bytes : Nat} (ht : P.underlying t = some (.slice e))
    (hinfo : (P.info? e).map (fun i => (i.zero, i.size, i.bytes)) = some (some z, size, bytes)) (hzs : z.cells.size = size ∧ 0 < size ∧ 0 < bytes)
    (hs : a.eval s = v) {A : Option Addr} {c m : Nat} (news : List Value) (hx : a.eval x = .slice A m c) (hl : news.length = m * size) (hA : A = none → m = 0) (hnews : ∀ ad, A = some ad → ∀ j u, news[j]? = some u → w.cell? (ad.add j) = some u) (h1 : ∀ u ∈ news, u.oneCell' = true)
    (hbytes : (n + m) * bytes ≤ 140737488355328)
    (h : ∀ v' w', St S w0 w' (l.set i (Row e size v' (n + m) (xs ++ news))) → w.heap.size ≤ w'.heap.size → wpList P ops Q rest (a.put o.dst v') w') :
    wpList P ops Q (o :: rest) a w := by
  obtain ⟨v', w', hr, h2, h3⟩ := H.run_append i hi (ty := o.type) (c := c) ht hinfo hzs news hl hA hnews h1 hbytes
  refine wpList_plain hgd fun _ hK => ?_
  unfold Oper.wp execOp
  simp only [ho, resolve, invoke, builtin, Sem.run_bind, Sem.run_pure, Result.andThen_ok, List.map_toArray, List.map_cons, List.map_nil, hs, hx, hr]
  exact hK _ _ (h v' w' h2 h3)
end

end Go.Proofs.YtiglgfonhdfpmaaGreat

/- A region that draws its order: where each operation yields one value in every world of which I holds, and leaves I be, the order of the text tells all: calls that make memory, loads of what I knows, guards that say no. Laws over any program. -/
set_option linter.unusedVariables false
set_option linter.unusedSimpArgs false
namespace Go.Proofs.YtiglgfonhdfpmaaGreat
open Go.RowKit

section
variable {P : Program} {ops : Array Oper} {md : Region.Mode} {I : World → Prop}

/-- The operation came to this value, and I holds. -/
def CameTo (P : Program) (I : World → Prop) (v : Value) : Result Next → Prop
  | .ok (.value u) w' => u = v ∧ I w'
  | .ok .skip w' => v = undef ∧ I w'
  | .ok (.enter f args) w' => Calls P f args w' fun e w'' => e = .returned v ∧ I w''
  | _ => False
theorem cameTo_value (u v : Value) (w' : World) : CameTo P I v (.ok (.value u) w') = (u = v ∧ I w') := rfl
theorem cameTo_skip (v : Value) (w' : World) : CameTo P I v (.ok .skip w') = (v = undef ∧ I w') := rfl
theorem cameTo_enter (v : Value) (f : Nat) (args : Array Value) (w' : World) : CameTo P I v (.ok (.enter f args) w') = Calls P f args w' (fun e w'' => e = .returned v ∧ I w'') := rfl

/-- In every world of I this operation comes to v. -/
def ComesTo (P : Program) (ops : Array Oper) (I : World → Prop) (o : Oper) (v : Value) (a : Act) : Prop :=
  (Region.wanted o (yielded ops a.tmps) = true ∧ ∀ w, I w → CameTo P I v ((execOp a.eval o).run P w)) ∨ (Region.wanted o (yielded ops a.tmps) = false ∧ v = undef)
theorem ComesTo.same {o : Oper} {v : Value} {a a' : Act} (h : ComesTo P ops I o v a) (he : execOp a'.eval o = execOp a.eval o) (hw : Region.wanted o (yielded ops a'.tmps) = Region.wanted o (yielded ops a.tmps)) : ComesTo P ops I o v a' := by
  unfold ComesTo at *
  rw [he, hw]
  exact h
theorem ComesTo.op {i : Nat} {o : Oper} {v : Value} {a : Act} {w : World} {K : Act → World → Prop} {Q : Exit → Act → World → Prop} (hi : ops[i]? = some o) (h : ComesTo P ops I o v a) (hw : I w) (hK : ∀ w, I w → K (a.put o.dst v) w) : wpOp P ops Q i K a w := by
  unfold wpOp
  simp only [hi]
  rcases h with ⟨h1, h2⟩ | ⟨h1, rfl⟩
  · rw [if_pos h1]
    left
    have h3 := h2 w hw
    unfold Oper.wp
    generalize (execOp a.eval o).run P w = r at h3 ⊢
    cases r with
    | ok n w' =>
      cases n <;> simp only [CameTo] at h3 <;> simp only [Oper.upon]
      case value u => obtain ⟨rfl, h4⟩ := h3; exact hK _ h4
      case skip => obtain ⟨rfl, h4⟩ := h3; exact hK _ h4
      case enter f args => exact h3.mono fun e w'' ⟨he, hi⟩ => by subst he; exact hK _ hi
    | halt x w' => simp only [CameTo] at h3
  · rw [if_neg (by simp [h1])]
    exact hK w hw

/-- Whatever order: the end. -/
def AnyTo (P : Program) (md : Region.Mode) (ops : Array Oper) (I : World → Prop) (Q : Act → Prop) : Nat → Array Bool → Act → Prop
  | 0, listed, a => Region.ready md ops listed = [] ∧ Q a
  | n + 1, listed, a => (Region.ready md ops listed = [] → Q a) ∧
    ∀ i ∈ Region.ready md ops listed, ∃ o v, ops[i]? = some o ∧ ComesTo P ops I o v a ∧ AnyTo P md ops I Q n (listed.setIfInBounds i true) (a.put o.dst v)
theorem AnyTo.any {Q : Act → Prop} {Q' : Exit → Act → World → Prop} (hQ : ∀ a w, Q a → I w → Q' .normal a w) : ∀ (n : Nat) (listed : Array Bool) (a : Act) (w : World), I w → AnyTo P md ops I Q n listed a → wpAny P md ops Q' n listed a w
  | 0, _, _, _, hw, h => ⟨h.1, hQ _ _ h.2 hw⟩
  | n + 1, _, _, _, hw, h => ⟨fun h0 => hQ _ _ (h.1 h0) hw, fun i hi => by
      obtain ⟨o, v, h1, h2, h3⟩ := h.2 i hi
      exact h2.op h1 hw (fun w' hw' => AnyTo.any hQ n _ _ w' hw' h3)⟩

/-- What may come first may be taken first. -/
theorem AnyTo.first {Q : Act → Prop} {i : Nat} {oi : Oper} {v : Value} (hi : ops[i]? = some oi) (hsel : ∀ (j : Nat) (o : Oper) cs b, ops[j]? = some o → o.op ≠ .select cs b) : ∀ (n : Nat) (listed : Array Bool) (a : Act),
    (∀ j oj, ops[j]? = some oj → j ≠ i → listed.getD j true = false → (∀ e ∈ oj.after, Region.binds md e = true → e.on ≠ i) → oi.apart ops oj = true) →
    i ∈ Region.ready md ops listed → ComesTo P ops I oi v a → AnyTo P md ops I Q n (listed.setIfInBounds i true) (a.put oi.dst v) → AnyTo P md ops I Q (n + 1) listed a := by
  intro n
  induction n with
  | zero =>
    intro listed a _ hr hy H
    refine ⟨fun h => (by rw [h] at hr; cases hr), fun j hj => ?_⟩
    by_cases hji : j = i
    · subst hji; exact ⟨oi, v, hi, hy, H⟩
    · have := ready_mono hj hji
      rw [H.1] at this
      cases this
  | succ n ih =>
    intro listed a hfree hr hy H
    refine ⟨fun h => (by rw [h] at hr; cases hr), fun j hj => ?_⟩
    by_cases hji : j = i
    · subst hji; exact ⟨oi, v, hi, hy, H⟩
    · obtain ⟨oj, u, hoj, hyj, Hj⟩ := H.2 j (ready_mono hj hji)
      obtain ⟨hjun, oj', hoj', hall⟩ := mem_ready.1 hj
      obtain rfl : oj' = oj := by rw [hoj] at hoj'; exact (Option.some.inj hoj').symm
      have hnot : ∀ e ∈ oj'.after, Region.binds md e = true → e.on ≠ i := fun e he hb heq => by
        have h1 := hall e he hb
        have h0 := (mem_ready.1 hr).1
        rw [heq] at h1
        rcases Nat.lt_or_ge i listed.size with h' | h'
        · simp [h'] at h0 h1; rw [h0] at h1; cases h1
        · simp [Array.getElem?_eq_none h'] at h1
      obtain ⟨h1, h2, h3⟩ := Oper.apart_spec (hfree j oj' hoj hji hjun hnot)
      have hyj' : ComesTo P ops I oj' u a := hyj.same (execOp_put oj' (fun cs b => hsel j oj' cs b hoj) a oi.dst v h1).symm (wanted_put oj' a oi.dst v h1).symm
      have hyi' : ComesTo P ops I oi v (a.put oj'.dst u) := hy.same (execOp_put oi (fun cs b => hsel i oi cs b hi) a oj'.dst u h3) (wanted_put oi a oj'.dst u h3)
      refine ⟨oj', u, hoj, hyj', ih _ _ (fun k ok hk hki hun hno => ?_) (ready_mono hr (Ne.symm hji)) hyi' ?_⟩
      · refine hfree k ok hk hki ?_ hno
        by_cases hjk : j = k
        · subst hjk; exact hjun
        · rw [getD_set_ne true hjk] at hun; exact hun
      · rw [Array.setIfInBounds_comm _ _ hji, ← Act.put_comm a v u h2]
        exact Hj

/-- The operations in the order of the text. -/
def Calm (P : Program) (ops : Array Oper) (I : World → Prop) (Q : Act → Prop) : List Oper → Act → Prop
  | [], a => Q a
  | o :: rest, a => ∃ v, ComesTo P ops I o v a ∧ Calm P ops I Q rest (a.put o.dst v)
theorem Calm.lex {Q : Act → Prop} (hs : Region.noSelect ops = true) : ∀ (l : List Oper) (k : Nat) (listed : Array Bool) (a : Act), (∀ j, l[j]? = ops[k + j]?) →
    Region.lexFrom md ops l.length k listed = true → Calm P ops I Q l a → AnyTo P md ops I Q l.length listed a
  | [], _, _, _, _, hB, h => ⟨by simpa [Region.lexFrom] using hB, h⟩
  | o :: l, k, listed, a, hl, hB, ⟨v, hy, h⟩ => by
    have h0 : ops[k]? = some o := by simpa using (hl 0).symm
    simp only [List.length_cons, Region.lexFrom, Bool.and_eq_true] at hB
    obtain ⟨⟨hr, hf⟩, hB'⟩ := hB
    exact AnyTo.first h0 (Region.noSelect_spec hs) l.length listed a (Region.free_spec h0 hf) (by simpa using hr) hy
      (Calm.lex hs l (k + 1) _ _ (fun j => by have := hl (j + 1); simpa [Nat.add_assoc, Nat.add_comm 1 j] using this) hB' h)

/-- A REGION THAT DRAWS, under I. -/
theorem wp_calm {id : Nat} {Q : Exit → Act → World → Prop} {a : Act} {w : World} {l : List Oper} (I : World → Prop) (hm : P.follows .mixedOrders = true) (hB : Region.lexB .any l.toArray = true) (h0 : I w.drew)
    (h : Calm P l.toArray I (fun a' => ∀ w', I w' → Q .normal a' w') l a) : (Code.region id l.toArray true).wp P Q a w := by
  simp only [Region.lexB, Bool.and_eq_true] at hB
  refine wp_region_any hm (AnyTo.any (I := I) (Q := fun a' => ∀ w', I w' → Q .normal a' w') (fun a w h hw => h w hw) _ _ _ _ h0 ?_)
  have := Calm.lex (P := P) (md := .any) hB.1 l 0 (Array.replicate l.toArray.size false) a (by simp) (by simpa using hB.2) h
  simpa using this

/-- Whatever order of the first ones: what stands at their end. -/
def HeadTo (P : Program) (md : Region.Mode) (ops : Array Oper) (I : World → Prop) (n : Nat) (L : Array Bool → Act → Prop) : Nat → Array Bool → Act → Prop
  | 0, listed, a => L listed a
  | f + 1, listed, a => Region.ready md ops listed ≠ [] ∧
    ∀ i ∈ Region.ready md ops listed, i < n ∧ ∃ o v, ops[i]? = some o ∧ ComesTo P ops I o v a ∧ HeadTo P md ops I n L f (listed.setIfInBounds i true) (a.put o.dst v)
theorem HeadTo.any {n g : Nat} {L : Array Bool → Act → Prop} {Q' : Exit → Act → World → Prop} (hL : ∀ listed a w, L listed a → I w → wpAny P md ops Q' g listed a w) :
    ∀ (f : Nat) (listed : Array Bool) (a : Act) (w : World), I w → HeadTo P md ops I n L f listed a → wpAny P md ops Q' (f + g) listed a w
  | 0, listed, a, w, hw, h => by rw [Nat.zero_add]; exact hL _ _ _ h hw
  | f + 1, listed, a, w, hw, h => by
    rw [show f + 1 + g = (f + g) + 1 by omega]
    refine ⟨fun h0 => absurd h0 h.1, fun i hi => ?_⟩
    obtain ⟨_, o, v, h1, h2, h3⟩ := h.2 i hi
    exact h2.op h1 hw (fun w' hw' => HeadTo.any hL f _ _ w' hw' h3)
theorem HeadTo.first {n i : Nat} {oi : Oper} {v : Value} {L : Array Bool → Act → Prop} (hi : ops[i]? = some oi) (hsel : ∀ (j : Nat) (o : Oper) cs b, ops[j]? = some o → o.op ≠ .select cs b)
    (hs : Region.sinkB md ops n = true) (hc : Region.chainB md ops n = true) (hn : n < ops.size) (hin : i < n) (hdone : ∀ listed a, L listed a → ∀ j ∈ Region.ready md ops listed, n ≤ j) :
    ∀ (f : Nat) (listed : Array Bool) (a : Act), HeadInv md ops n listed →
      (∀ j oj, ops[j]? = some oj → j ≠ i → listed.getD j true = false → (∀ e ∈ oj.after, Region.binds md e = true → e.on ≠ i) → oi.apart ops oj = true) →
      i ∈ Region.ready md ops listed → ComesTo P ops I oi v a → HeadTo P md ops I n L f (listed.setIfInBounds i true) (a.put oi.dst v) → HeadTo P md ops I n L (f + 1) listed a := by
  intro f
  induction f with
  | zero =>
    intro listed a inv _ hr hy H
    have hun := (mem_ready.1 hr).1
    refine ⟨fun h => (by rw [h] at hr; cases hr), fun j hj => ?_⟩
    have hjn : j < n := by
      rcases Nat.lt_or_ge j n with h | h
      · exact h
      · exact absurd hj (tail_waits hs hc hn inv _ i rfl hin hun j h)
    refine ⟨hjn, ?_⟩
    by_cases hji : j = i
    · subst hji; exact ⟨oi, v, hi, hy, H⟩
    · have := hdone _ _ H j (ready_mono hj hji)
      omega
  | succ f ih =>
    intro listed a inv hfree hr hy H
    have hun := (mem_ready.1 hr).1
    refine ⟨fun h => (by rw [h] at hr; cases hr), fun j hj => ?_⟩
    have hjn : j < n := by
      rcases Nat.lt_or_ge j n with h | h
      · exact h
      · exact absurd hj (tail_waits hs hc hn inv _ i rfl hin hun j h)
    refine ⟨hjn, ?_⟩
    by_cases hji : j = i
    · subst hji; exact ⟨oi, v, hi, hy, H⟩
    · obtain ⟨_, oj, u, hoj, hyj, Hj⟩ := H.2 j (ready_mono hj hji)
      obtain ⟨hjun, oj', hoj', hall⟩ := mem_ready.1 hj
      obtain rfl : oj' = oj := by rw [hoj] at hoj'; exact (Option.some.inj hoj').symm
      have hnot : ∀ e ∈ oj'.after, Region.binds md e = true → e.on ≠ i := fun e he hb heq => by
        have h1 := hall e he hb
        rw [heq, getD_both hun] at h1
        cases h1
      obtain ⟨h1, h2, h3⟩ := Oper.apart_spec (hfree j oj' hoj hji hjun hnot)
      have hyj' : ComesTo P ops I oj' u a := hyj.same (execOp_put oj' (fun cs b => hsel j oj' cs b hoj) a oi.dst v h1).symm (wanted_put oj' a oi.dst v h1).symm
      have hyi' : ComesTo P ops I oi v (a.put oj'.dst u) := hy.same (execOp_put oi (fun cs b => hsel i oi cs b hi) a oj'.dst u h3) (wanted_put oi a oj'.dst u h3)
      refine ⟨oj', u, hoj, hyj', ih _ _ (inv.set hj hjn) (fun k ok hk hki hun hno => ?_) (ready_mono hr (Ne.symm hji)) hyi' ?_⟩
      · refine hfree k ok hk hki ?_ hno
        by_cases hjk : j = k
        · subst hjk; exact hjun
        · rw [getD_set_ne true hjk] at hun; exact hun
      · rw [Array.setIfInBounds_comm _ _ hji, ← Act.put_comm a v u h2]
        exact Hj
theorem HeadTo.lex {n g : Nat} {Lq : Act → Prop} (hsel : Region.noSelect ops = true) (hs : Region.sinkB md ops n = true) (hc : Region.chainB md ops n = true) (hn : n < ops.size) :
    ∀ (l : List Oper) (k : Nat) (listed : Array Bool) (a : Act), (∀ j, j < l.length → l[j]? = ops[k + j]?) → k + l.length = n → HeadInv md ops n listed →
    Region.lexHead md ops g l.length k listed = true → Calm P ops I Lq l a →
    HeadTo P md ops I n (fun listed' a' => Region.seqB md ops g n listed' = true ∧ Lq a') l.length listed a
  | [], k, listed, a, _, hk, _, hB, h => by
    have : k = n := by simpa using hk
    subst this
    exact ⟨by simpa [Region.lexHead] using hB, h⟩
  | o :: l, k, listed, a, hl, hk, inv, hB, ⟨v, hy, h⟩ => by
    have h0 : ops[k]? = some o := by simpa using (hl 0 (by simp)).symm
    simp only [List.length_cons, Region.lexHead, Bool.and_eq_true] at hB
    obtain ⟨⟨hr, hf⟩, hB'⟩ := hB
    have hkn : k < n := by simp only [List.length_cons] at hk; omega
    have hr' : k ∈ Region.ready md ops listed := by simpa using hr
    exact HeadTo.first h0 (Region.noSelect_spec hsel) hs hc hn hkn (fun listed' a' hL => seqB_ready hL.1) l.length listed a inv (Region.free_spec h0 hf) hr' hy
      (HeadTo.lex hsel hs hc hn l (k + 1) _ _ (fun j hj => by have := hl (j + 1) (by simp; omega); simpa [Nat.add_assoc, Nat.add_comm 1 j] using this) (by simp only [List.length_cons] at hk; omega) (inv.set hr' hkn) hB' h)
/-- A REGION THAT DRAWS, under I: its first n operations are calm, the others stand in one order. -/
theorem wp_calm_tail {id : Nat} {Q : Exit → Act → World → Prop} {a : Act} {w : World} {l : List Oper} (n : Nat) (I : World → Prop) (hm : P.follows .mixedOrders = true) (hB : Region.lexTailB .any l.toArray n = true) (h0 : I w.drew)
    (h : Calm P l.toArray I (fun a' => ∀ w', I w' → wpList P l.toArray Q (l.drop n) a' w') (l.take n) a) : (Code.region id l.toArray true).wp P Q a w := by
  simp only [Region.lexTailB, Bool.and_eq_true, decide_eq_true_eq] at hB
  obtain ⟨⟨⟨⟨hsel, hn⟩, hs⟩, hc⟩, hlex⟩ := hB
  have hn' : n < l.length := by simpa using hn
  have htl : (l.take n).length = n := by simp; omega
  have hdl : (l.drop n).length = l.toArray.size - n := by simp
  have inv0 : HeadInv .any l.toArray n (Array.replicate l.toArray.size false) :=
    ⟨by simp, fun j oj _ hl => (by rw [getD_replicate_false] at hl; cases hl), fun t _ ht => getD_in (by simpa using ht) (getD_replicate_false _ _)⟩
  have H := HeadTo.lex (P := P) (md := .any) (g := l.toArray.size - n) hsel hs hc hn (l.take n) 0 _ a (fun j hj => by
    have hj' : j < n := by rw [htl] at hj; exact hj
    simp [hj']) (by simpa using htl) inv0 (by rw [htl]; exact hlex) h
  refine wp_region_any hm ?_
  have := HeadTo.any (Q' := Q) (g := l.toArray.size - n) (fun listed a' w' hL hw' => by
    have := wpAny_of_seq (P := P) (md := .any) (Q' := Q) (l.drop n) n listed a' w' (fun j => by simp [List.getElem?_drop]) (by rw [hdl]; exact hL.1) (hL.2 w' hw')
    rwa [hdl] at this) _ _ _ _ h0 H
  rw [htl, show n + (l.toArray.size - n) = l.toArray.size by omega] at this
  exact this

theorem calm_nil {Q : Act → Prop} {a : Act} (h : Q a) : Calm P ops I Q [] a := h
/-- An operation whose guard says yes, or that has none. -/
theorem calm_step {Q : Act → Prop} {a : Act} {o : Oper} {rest : List Oper} (hw : Region.wanted o (yielded ops a.tmps) = true) {v : Value} (h1 : ∀ w, I w → CameTo P I v ((execOp a.eval o).run P w))
    (h : ∀ K : Act → Prop, (∀ a, Calm P ops I Q rest a → K a) → K (a.put o.dst v)) : Calm P ops I Q (o :: rest) a := ⟨v, .inl ⟨hw, h1⟩, h _ (fun _ h => h)⟩
/-- An operation whose guard says no. -/
theorem calm_pass {Q : Act → Prop} {a : Act} {o : Oper} {rest : List Oper} (hw : Region.wanted o (yielded ops a.tmps) = false)
    (h : ∀ K : Act → Prop, (∀ a, Calm P ops I Q rest a → K a) → K (a.put o.dst undef)) : Calm P ops I Q (o :: rest) a := ⟨undef, .inr ⟨hw, rfl⟩, h _ (fun _ h => h)⟩
/-- The operations of a region that stands in the order of the text. -/
theorem Calm.list {Q : Exit → Act → World → Prop} {Q0 : Act → Prop} {rest : List Oper} (hQ : ∀ a w, Q0 a → I w → wpList P ops Q rest a w) : ∀ (l : List Oper) (a : Act) (w : World), I w → Calm P ops I Q0 l a → wpList P ops Q (l ++ rest) a w
  | [], a, w, hw, h => hQ a w h hw
  | o :: l, a, w, hw, ⟨v, hy, h⟩ => by
    show (if Region.wanted o (yielded ops a.tmps) = true then Oper.wp P o a w (wpList P ops Q (l ++ rest)) Q ∨ (o.asks P a w ∧ LetsOut Q) else wpList P ops Q (l ++ rest) (a.put o.dst undef) w)
    rcases hy with ⟨h1, h2⟩ | ⟨h1, rfl⟩
    · rw [if_pos h1]
      left
      have h3 := h2 w hw
      unfold Oper.wp
      generalize (execOp a.eval o).run P w = r at h3 ⊢
      cases r with
      | ok n w' =>
        cases n <;> simp only [CameTo] at h3 <;> simp only [Oper.upon]
        case value u => obtain ⟨rfl, h4⟩ := h3; exact Calm.list hQ l _ _ h4 h
        case skip => obtain ⟨rfl, h4⟩ := h3; exact Calm.list hQ l _ _ h4 h
        case enter f args => exact h3.mono fun e w'' ⟨he, hi⟩ => by subst he; exact Calm.list hQ l _ _ hi h
      | halt x w' => simp only [CameTo] at h3
    · rw [if_neg (by simp [h1])]
      exact Calm.list hQ l _ _ hw h
end

attribute [go_sem] cameTo_value cameTo_skip cameTo_enter
end Go.Proofs.YtiglgfonhdfpmaaGreat

/- strings.IndexByte as the library's shelf lays it at this program (its text was written by the kit's lay-shelf.mjs and lay-plain.mjs). -/
set_option linter.unusedVariables false
set_option linter.unusedSimpArgs false
namespace Go.Proofs.YtiglgfonhdfpmaaGreat
open Go.Shelf
def idxRen : Go.Shelf.Ren := ⟨fun | 137 => 161 | 217 => 214 | 266 => 262 | n => n, fun | 9 => 9 | 5 => 5 | 3 => 3 | n => n, fun | n => n⟩
theorem idxLays : Go.Proofs.Lays.n137 Tryz.prog idxRen := {
  mixed := by kernel_rfl
  f137 := Tryz.func161.trans (congrArg some (by kernel_rfl))
  f217 := Tryz.func214.trans (congrArg some (by kernel_rfl))
  f266 := Tryz.func262.trans (congrArg some (by kernel_rfl))
  t3 := Tryz.underlying3
  a3 := Tryz.isAgg3
  z3 := Tryz.sizeOf3
  v3 := Tryz.zeroValue3
  t5 := Tryz.underlying5
  a5 := Tryz.isAgg5
  z5 := Tryz.sizeOf5
  v5 := Tryz.zeroValue5
  t9 := Tryz.underlying9
  a9 := Tryz.isAgg9
  z9 := Tryz.sizeOf9
  v9 := Tryz.zeroValue9 }
open Go.RowKit in
theorem strings_IndexByte (s : ByteArray) (c : Int) (w : World) :
    Calls Tryz.prog 161 #[.string s, .int .u8 c] w fun e w' => e = .returned (.int .i64 (Lib.indexByte s.data.toList c.toNat.toUInt8)) ∧ w' = w := Any.strings_IndexByte idxLays s c w

end Go.Proofs.YtiglgfonhdfpmaaGreat

/- What a call returned, read as a number or a bool. Plain laws. -/
set_option linter.unusedVariables false
set_option linter.unusedSimpArgs false
namespace Go.Proofs.YtiglgfonhdfpmaaGreat
open Go.RowKit

theorem ret_bool {a b : Bool} (h : a = b) : Ending.returned (.bool a) = .returned (.bool b) := by rw [h]
end Go.Proofs.YtiglgfonhdfpmaaGreat
