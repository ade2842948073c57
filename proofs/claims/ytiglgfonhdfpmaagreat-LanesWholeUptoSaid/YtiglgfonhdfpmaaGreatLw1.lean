import Derived.Test.YtiglgfonhdfpmaaGreatRows
import Derived.WalkKit
import Derived.WalkSpells
import Derived.WalkLawsBesides
import Derived.Deep.AppendLies
import Derived.Deep.QuietTactic
import Derived.BigQuiet
import Derived.Lib.Hide
import Derived.Deep.RegionLaw
import Derived.Laws.CopyOwn
import Derived.Deep.MidRow
import Derived.Lib.Bytealg
import Derived.Lib.Small
/- Small laws on blocks and worlds: what a call has left alone ('Kept'), what a block holds behind a store. No condition. -/
set_option linter.unusedVariables false
set_option linter.unusedSimpArgs false
namespace Go.Proofs.YtiglgfonhdfpmaaGreat
open Go.RowKit

/-- Outside S nothing that was there has turned. -/
structure Kept (S : Nat → Prop) (w w' : World) : Prop where
  os : w'.os = w.os
  tape : w'.tape = w.tape
  output : w'.output = w.output
  size : w.heap.size ≤ w'.heap.size
  block : ∀ k, k < w.heap.size → ¬ S k → w'.heap[k]? = w.heap[k]?

theorem Kept.refl (S : Nat → Prop) (w : World) : Kept S w w := ⟨rfl, rfl, rfl, Nat.le_refl _, fun _ _ _ => rfl⟩
theorem Kept.trans {S : Nat → Prop} {a b c : World} (h : Kept S a b) (k : Kept S b c) : Kept S a c :=
  ⟨k.os.trans h.os, k.tape.trans h.tape, k.output.trans h.output, Nat.le_trans h.size k.size, fun i hi hs => (k.block i (Nat.lt_of_lt_of_le hi h.size) hs).trans (h.block i hi hs)⟩
/-- Of the second step only what it does to blocks that were there at first counts. -/
theorem Kept.trans' {S S' : Nat → Prop} {a b c : World} (h : Kept S a b) (k : Kept S' b c) (hS : ∀ i, i < a.heap.size → S' i → S i) : Kept S a c :=
  ⟨k.os.trans h.os, k.tape.trans h.tape, k.output.trans h.output, Nat.le_trans h.size k.size, fun i hi hs => (k.block i (Nat.lt_of_lt_of_le hi h.size) (fun h' => hs (hS i hi h'))).trans (h.block i hi hs)⟩
theorem Kept.mono {S S' : Nat → Prop} {a b : World} (h : Kept S a b) (hS : ∀ i, i < a.heap.size → S i → S' i) : Kept S' a b :=
  ⟨h.os, h.tape, h.output, h.size, fun i hi hs => h.block i hi (fun h' => hs (hS i hi h'))⟩
theorem Kept.drew {S : Nat → Prop} {a w : World} (h : Kept S a w) : Kept S a w.drew := ⟨h.os, h.tape, h.output, h.size, h.block⟩
theorem Kept.drewN {S : Nat → Prop} {a w : World} (h : Kept S a w) (n : Nat) : Kept S a (w.drewN n) := ⟨h.os, h.tape, h.output, h.size, h.block⟩
theorem Kept.alloc {S : Nat → Prop} {a w : World} (h : Kept S a w) (o : Obj) : Kept S a (w.alloc o) :=
  h.trans ⟨rfl, rfl, rfl, by simp, fun k hk _ => heap_alloc_old w o hk⟩
theorem Kept.setCell {S : Nat → Prop} {a w : World} (h : Kept S a w) {p : Addr} (hp : p.block < a.heap.size → S p.block) (u : Value) : Kept S a (w.setCell p u) :=
  h.trans' (S' := (· = p.block)) ⟨rfl, rfl, rfl, by simp, fun k _ hk => Below.heap_setCell _ _ _ _ hk⟩ (fun i hi e => by subst e; exact hp hi)
theorem Kept.grown {S : Nat → Prop} {a w w' : World} {row : Option Nat} (h : Kept S a w) (hg : w.grownBy w' row) (hr : ∀ k, k < a.heap.size → row = some k → S k) : Kept S a w' :=
  h.trans' (S' := fun k => some k = row) ⟨hg.os, hg.tape, hg.output, hg.size, fun k hk hn => hg.block k hk hn⟩ (fun i hi e => hr i hi e.symm)
theorem Kept.of_below {S : Nat → Prop} {a w w' : World} (h : Kept S a w) {B : Nat} (hb : Below B w w') (hB : ∀ k, k < a.heap.size → B ≤ k → S k) : Kept S a w' :=
  h.trans' (S' := fun k => B ≤ k) ⟨hb.os, hb.tape, hb.output, hb.size, fun k _ hn => hb.block k (by omega)⟩ (fun i hi e => hB i hi e)
theorem Kept.below {S : Nat → Prop} {B : Nat} {w w' : World} (h : Kept S w w') (hB : B ≤ w.heap.size) (hS : ∀ k, S k → B ≤ k) : Below B w w' :=
  ⟨h.os, h.tape, h.output, h.size, fun k hk => h.block k (by omega) (fun s => by have := hS k s; omega)⟩
theorem kept_set {w : World} {b i : Nat} {v : Value} : Kept (· = b) w (w.setCell ⟨b, i, none⟩ v) := Kept.setCell (S := (· = b)) (p := ⟨b, i, none⟩) (Kept.refl _ _) (fun _ => rfl) _
/-! Blocks. -/
section
variable {w : World} {b i : Nat} {cs : Array Value} {t : TypeId} {f : Nat × Nat}
theorem blk_lt {o : Obj} (h : w.heap[b]? = some o) : b < w.heap.size := (Array.getElem?_eq_some_iff.1 h).1
theorem cell_blk (h : w.heap[b]? = some (.cells cs t f)) (i : Nat) : w.cell? ⟨b, i, none⟩ = cs[i]? := by simp [World.cell?, h]
theorem cell_blk' (h : w.heap[b]? = some (.cells cs t f)) {i : Nat} {v : Value} (hv : cs[i]? = some v) : w.cell? ⟨b, i, none⟩ = some v := by rw [cell_blk h, hv]
theorem free_blk (h : w.heap[b]? = some (.cells cs t (0, 0))) (i : Nat) : w.frozen? ⟨b, i, none⟩ = false := by simp [World.frozen?, h]
theorem set_same (h : w.heap[b]? = some (.cells cs t f)) (i : Nat) (v : Value) : (w.setCell ⟨b, i, none⟩ v).heap[b]? = some (.cells (cs.setIfInBounds i v) t f) := by
  have hlt := blk_lt h
  show (w.heap.modify b _)[b]? = _
  have h' : w.heap[b] = .cells cs t f := by simpa [Array.getElem?_eq_getElem hlt] using h
  rw [Array.getElem?_eq_getElem (by simpa using hlt), Array.getElem_modify_self, h']
  rfl
end

section
variable {P : Program}
/-- The same at a plain region's operation. -/
theorem list_app {w : World} {ops : Array Oper} {rest : List Oper} {o : Oper} {a : Act} {Q : Exit → Act → World → Prop} (hgd : o.guard = none) (s x : Operand) (t : TypeId)
    (ho : o.op = .call { callee := .builtin .append, args := #[s, x], argTypes := #[t, t] }) {e : TypeId} {z : Value} {size bytes : Nat} (ht : P.underlying t = some (.slice e))
    (hinfo : (P.info? e).map (fun i => (i.zero, i.size, i.bytes)) = some (some z, size, bytes)) (hzs : z.cells.size = size ∧ 0 < size ∧ 0 < bytes)
    {base : Nat} {v : Value} {n : Nat} {xs : List Value} (hown : w.ownsRow base e size v n xs) (hs : a.eval s = v) {B c m : Nat} {cs : Array Value} {tt : TypeId} {fr : Nat × Nat}
    (hB : w.heap[B]? = some (.cells cs tt fr)) (hx : a.eval x = .slice (some ⟨B, 0, none⟩) m c) (hl : cs.size = m * size) (h1 : ∀ u ∈ cs.toList, u.oneCell' = true)
    (hm : 0 < m) (hbytes : (n + m) * bytes ≤ 140737488355328) (hbase : base ≤ w.heap.size) 
    (h : ∀ g cap w', w'.ownsRow base e size (.slice (some ⟨g, 0, none⟩) (n + m) cap) (n + m) (xs ++ cs.toList) → w.grownBy w' v.ownBlock → (v.ownBlock = some g ∨ g = w.heap.size) → g < w'.heap.size → wpList P ops Q rest (a.put o.dst (.slice (some ⟨g, 0, none⟩) (n + m) cap)) w') :
    wpList P ops Q (o :: rest) a w := by
  obtain ⟨i, hi, hz, hsz, hby⟩ := info_parts hinfo
  exact wpList_append_lies w hgd s x t ho base e i z size bytes ht hi hz hsz hby hzs.1 hzs.2.1 v n xs hs hown ⟨B, 0, none⟩ m c cs.toList hx (by simpa using hl) (World.news_of_block hB) h1 hm
    (by have := Nat.le_mul_of_pos_right (n + m) hzs.2.2; unfold maxLen; omega) hbytes hbase _ rfl h
end

end Go.Proofs.YtiglgfonhdfpmaaGreat

/- What the call owns, part by part: each part bears its own blocks, no two parts share one, and outside S nothing that was there has turned. Plain laws, no program in sight. -/
set_option linter.unusedVariables false
set_option linter.unusedSimpArgs false
namespace Go.Proofs.YtiglgfonhdfpmaaGreat
open Go.RowKit

/-- A part: what it says of the world, and of which blocks. -/
structure SP where
  on : World → (Nat → Prop) → Prop
  loc : ∀ w w' S, on w S → (∀ k, S k → w'.heap[k]? = w.heap[k]?) → on w' S
  lt : ∀ w S k, on w S → S k → k < w.heap.size

def Sep (w : World) : List SP → (Nat → Prop) → Prop
  | [], _ => True
  | A :: l, S => ∃ S1, A.on w S1 ∧ (∀ k, S1 k → S k) ∧ Sep w l (fun k => S k ∧ ¬ S1 k)

theorem Sep.mono {w : World} : ∀ {l : List SP} {S S' : Nat → Prop}, Sep w l S → (∀ k, k < w.heap.size → S k → S' k) → Sep w l S'
  | [], _, _, _, _ => trivial
  | A :: _, _, _, ⟨S1, h1, h2, h3⟩, hs => ⟨S1, h1, fun k hk => hs k (A.lt _ _ _ h1 hk) (h2 k hk), Sep.mono h3 (fun k hk h => ⟨hs k hk h.1, h.2⟩)⟩

/-- Parts are there in another world in which their blocks are as they were. -/
theorem Sep.move {w w' : World} : ∀ {l : List SP} {S : Nat → Prop}, Sep w l S → (∀ k, k < w.heap.size → S k → w'.heap[k]? = w.heap[k]?) → Sep w' l S
  | [], _, _, _ => trivial
  | A :: _, _, ⟨S1, h1, h2, h3⟩, hs => ⟨S1, A.loc _ _ _ h1 (fun k hk => hs k (A.lt _ _ _ h1 hk) (h2 k hk)), h2, Sep.move h3 (fun k hk h => hs k hk h.1)⟩

/-- All blocks of the parts are there. -/
theorem Sep.clip {w : World} : ∀ {l : List SP} {S : Nat → Prop}, Sep w l S → Sep w l (fun k => S k ∧ k < w.heap.size)
  | [], _, _ => trivial
  | A :: _, _, ⟨S1, h1, h2, h3⟩ => ⟨S1, h1, fun k hk => ⟨h2 k hk, A.lt _ _ _ h1 hk⟩, (Sep.clip h3).mono (fun _ _ h => ⟨⟨h.1.1, h.2⟩, h.1.2⟩)⟩

/-- The first parts apart from the rest. -/
theorem Sep.split {w : World} : ∀ {l1 l2 : List SP} {S : Nat → Prop}, Sep w (l1 ++ l2) S → ∃ S1, (∀ k, S1 k → S k ∧ k < w.heap.size) ∧ Sep w l1 S1 ∧ Sep w l2 (fun k => S k ∧ ¬ S1 k)
  | [], _, _, h => ⟨fun _ => False, fun _ h => h.elim, trivial, Sep.mono h (fun _ _ h => ⟨h, id⟩)⟩
  | A :: l1, l2, S, ⟨S0, h1, h2, h3⟩ => by
    obtain ⟨S1, g1, g2, g3⟩ := Sep.split h3
    refine ⟨fun k => S0 k ∨ S1 k, ?_, ⟨S0, h1, fun k hk => .inl hk, g2.mono (fun k _ hk => ⟨.inr hk, (g1 k hk).1.2⟩)⟩, g3.mono ?_⟩
    · rintro k (hk | hk)
      · exact ⟨h2 k hk, A.lt _ _ _ h1 hk⟩
      · exact ⟨(g1 k hk).1.1, (g1 k hk).2⟩
    · rintro k _ ⟨⟨a, b⟩, c⟩
      exact ⟨a, by rintro (h | h); exact b h; exact c h⟩

theorem Sep.join {w : World} : ∀ {l1 l2 : List SP} {S S1 : Nat → Prop}, Sep w l1 S1 → (∀ k, k < w.heap.size → S1 k → S k) → Sep w l2 (fun k => S k ∧ ¬ S1 k) → Sep w (l1 ++ l2) S
  | [], _, _, _, _, _, h => Sep.mono h (fun _ _ h => h.1)
  | A :: l1, l2, S, S1, ⟨S0, h1, h2, h3⟩, hs, h => by
    refine ⟨S0, h1, fun k hk => hs k (A.lt _ _ _ h1 hk) (h2 k hk), Sep.join (S1 := fun k => S1 k ∧ ¬ S0 k) h3 (fun k hk a => ⟨hs k hk a.1, a.2⟩) (h.mono ?_)⟩
    rintro k _ ⟨a, b⟩
    exact ⟨⟨a, fun h0 => b (h2 k h0)⟩, fun c => b c.1⟩

/-- The i-th part first. -/
theorem Sep.front {w : World} : ∀ (i : Nat) {l : List SP} {A : SP} {S : Nat → Prop}, l[i]? = some A → Sep w l S → Sep w (A :: l.eraseIdx i) S
  | 0, B :: l, A, S, h, hs => by
    obtain rfl : B = A := by simpa using h
    exact hs
  | i + 1, B :: l, A, S, h, ⟨S0, h1, h2, h3⟩ => by
    have h' : l[i]? = some A := by simpa using h
    obtain ⟨S1, g1, g2, g3⟩ := Sep.front i h' h3
    refine ⟨S1, g1, fun k hk => (g2 k hk).1, S0, h1, fun k hk => ⟨h2 k hk, fun c => (g2 k c).2 hk⟩, g3.mono ?_⟩
    rintro k _ ⟨⟨a, b⟩, c⟩
    exact ⟨⟨a, c⟩, b⟩
  | 0, [], _, _, h, _ => by simp at h
  | i + 1, [], _, _, h, _ => by simp at h

/-- WHAT HOLDS IN THE MIDST OF A CALL: outside S nothing that was there has turned; the parts lie in S or in what is new. -/
structure St (S : Nat → Prop) (w0 w : World) (l : List SP) : Prop where
  kept : Kept S w0 w
  sep : Sep w l (fun k => S k ∨ w0.heap.size ≤ k)

section
variable {S : Nat → Prop} {w0 w w' : World} {l l1 l2 : List SP}

theorem St.refl (h : Sep w l S) : St S w w l := ⟨Kept.refl _ _, h.mono (fun _ _ h => .inl h)⟩
theorem St.nil (S : Nat → Prop) (w : World) : St S w w [] := ⟨Kept.refl _ _, trivial⟩
theorem St.below (h : St S w0 w l) {B : Nat} (hB : B ≤ w0.heap.size) (hS : ∀ k, S k → B ≤ k) : Below B w0 w := h.kept.below hB hS
theorem St.size (h : St S w0 w l) : w0.heap.size ≤ w.heap.size := h.kept.size
theorem St.drew (h : St S w0 w l) : St S w0 w.drew l := ⟨h.kept.drew, h.sep.move (fun _ _ _ => rfl)⟩
theorem St.drewN (h : St S w0 w l) (n : Nat) : St S w0 (w.drewN n) l := ⟨h.kept.drewN n, h.sep.move (fun _ _ _ => rfl)⟩
/-- A new block that is nobody's. -/
theorem St.skip (h : St S w0 w l) (o : Obj) : St S w0 (w.alloc o) l := ⟨h.kept.alloc o, h.sep.move (fun _ hk _ => heap_alloc_old _ _ hk)⟩
/-- A call that leaves all that was there alone. -/
theorem St.past (h : St S w0 w l) (hb : Below w.heap.size w w') : St S w0 w' l :=
  ⟨h.kept.of_below hb (fun k hk hk' => by have := h.kept.size; omega), h.sep.move (fun k hk _ => hb.block k hk)⟩
theorem St.front (h : St S w0 w l) (i : Nat) {A : SP} (hi : l[i]? = some A) : St S w0 w (A :: l.eraseIdx i) := ⟨h.kept, h.sep.front i hi⟩
theorem St.drop (h : St S w0 w (l1 ++ l2)) : St S w0 w l2 := by
  obtain ⟨_, _, _, h3⟩ := h.sep.split
  exact ⟨h.kept, h3.mono (fun _ _ h => h.1)⟩
theorem St.take (h : St S w0 w (l1 ++ l2)) : St S w0 w l1 := by
  obtain ⟨_, h1, h2, _⟩ := h.sep.split
  exact ⟨h.kept, h2.mono (fun k _ h => (h1 k h).1)⟩
theorem St.tail {A : SP} (h : St S w0 w (A :: l)) : St S w0 w l := St.drop (l1 := [A]) h

/-- THE FIRST PARTS ARE HANDED TO A CALL: what it makes of them stands in their place. -/
theorem St.call (h : St S w0 w (l1 ++ l2)) : ∃ S1, Sep w l1 S1 ∧ ∀ w' l1', St S1 w w' l1' → St S w0 w' (l1' ++ l2) := by
  obtain ⟨S1, h1, h2, h3⟩ := h.sep.split
  refine ⟨S1, h2, fun w' l1' g => ⟨?_, ?_⟩⟩
  · refine h.kept.trans' g.kept (fun i hi hs => ?_)
    rcases (h1 i hs).1 with a | a
    · exact a
    · omega
  · have hsz := h.kept.size
    refine Sep.join g.sep ?_ (((h3.clip).move ?_).mono ?_)
    · rintro k _ (a | a)
      · exact (h1 k a).1
      · exact .inr (by omega)
    · rintro k hk ⟨⟨_, b⟩, _⟩
      exact g.kept.block k hk b
    · rintro k _ ⟨⟨a, b⟩, c⟩
      exact ⟨a, by rintro (d | d); exact b d; omega⟩
/-- The same where nothing of the caller's is handed over. -/
theorem St.call0 (h : St S w0 w l) {l1' : List SP} (g : St (fun _ => False) w w' l1') : St S w0 w' (l1' ++ l) := by
  obtain ⟨S1, _, h2⟩ := St.call (l1 := []) (l2 := l) h
  exact h2 w' l1' ⟨g.kept.mono (fun _ _ h => h.elim), g.sep.mono (fun k _ h => .inr (h.elim False.elim id))⟩
end

/-! The parts. -/
/-- A block of cells, known whole. -/
def Blk (b : Nat) (cs : Array Value) (t : TypeId) : SP where
  on w S := w.heap[b]? = some (.cells cs t (0, 0)) ∧ ∀ k, S k ↔ k = b
  loc w w' S h hs := ⟨(hs b ((h.2 b).2 rfl)).trans h.1, h.2⟩
  lt w S k h hk := by
    obtain rfl := (h.2 k).1 hk
    exact blk_lt h.1

/-- A slice that owns its row. -/
def Row (e : TypeId) (size : Nat) (v : Value) (n : Nat) (xs : List Value) : SP where
  on w S := w.ownsRow 0 e size v n xs ∧ ∀ k, S k ↔ v.ownBlock = some k
  loc w w' S h hs := by
    refine ⟨⟨h.1.1, ?_⟩, h.2⟩
    rcases h.1.2 with a | ⟨g, cap, cur, rfl, hb, hg, r⟩
    · exact .inl a
    · exact .inr ⟨g, cap, cur, rfl, hb, (hs g ((h.2 g).2 rfl)).trans hg, r⟩
  lt w S k h hk := (h.1.lt k ((h.2 k).1 hk)).2

/-- Several parts as one. -/
def SP.all (l : List SP) : SP where
  on w S := Sep w l S ∧ ∀ k, S k → k < w.heap.size
  loc w w' S h hs := ⟨h.1.move (fun k _ hk => hs k hk), fun k hk => by
    have := h.2 k hk
    have e := hs k hk
    rw [Array.getElem?_eq_getElem this] at e
    exact (Array.getElem?_eq_some_iff.1 e).1⟩
  lt w S k h hk := h.2 k hk

def SP.ex {α : Type} (f : α → SP) : SP where
  on w S := ∃ a, (f a).on w S
  loc w w' S h hs := by obtain ⟨a, h⟩ := h; exact ⟨a, (f a).loc w w' S h hs⟩
  lt w S k h hk := by obtain ⟨a, h⟩ := h; exact (f a).lt w S k h hk

def SP.pure (p : Prop) : SP where
  on _ S := p ∧ ∀ k, ¬ S k
  loc _ _ _ h _ := h
  lt _ _ k h hk := absurd hk (h.2 k)

section
variable {S : Nat → Prop} {w0 w w' : World} {l l1 l2 : List SP}

theorem Sep.all_iff : Sep w (SP.all l1 :: l2) S ↔ Sep w (l1 ++ l2) S := by
  constructor
  · rintro ⟨S1, ⟨h1, h1'⟩, h2, h3⟩
    exact Sep.join h1 (fun k _ h => h2 k h) h3
  · intro h
    obtain ⟨S1, h1, h2, h3⟩ := h.split
    exact ⟨S1, ⟨h2, fun k hk => (h1 k hk).2⟩, fun k hk => (h1 k hk).1, h3⟩
theorem Sep.ex_iff {α : Type} {f : α → SP} : Sep w (SP.ex f :: l) S ↔ ∃ a, Sep w (f a :: l) S := by
  constructor
  · rintro ⟨S1, ⟨a, h1⟩, h2⟩
    exact ⟨a, S1, h1, h2⟩
  · rintro ⟨a, S1, h1, h2⟩
    exact ⟨S1, ⟨a, h1⟩, h2⟩
theorem Sep.pure_iff {p : Prop} : Sep w (SP.pure p :: l) S ↔ p ∧ Sep w l S := by
  constructor
  · rintro ⟨S1, ⟨h1, h2⟩, _, h3⟩
    exact ⟨h1, h3.mono (fun _ _ h => h.1)⟩
  · rintro ⟨h1, h2⟩
    exact ⟨fun _ => False, ⟨h1, fun _ h => h⟩, fun _ h => h.elim, h2.mono (fun _ _ h => ⟨h, id⟩)⟩
theorem St.all_iff : St S w0 w (SP.all l1 :: l2) ↔ St S w0 w (l1 ++ l2) := ⟨fun h => ⟨h.kept, Sep.all_iff.1 h.sep⟩, fun h => ⟨h.kept, Sep.all_iff.2 h.sep⟩⟩
theorem St.ex_iff {α : Type} {f : α → SP} : St S w0 w (SP.ex f :: l) ↔ ∃ a, St S w0 w (f a :: l) :=
  ⟨fun h => by obtain ⟨a, g⟩ := Sep.ex_iff.1 h.sep; exact ⟨a, h.kept, g⟩, fun ⟨_, h⟩ => ⟨h.kept, Sep.ex_iff.2 ⟨_, h.sep⟩⟩⟩
theorem St.pure_iff {p : Prop} : St S w0 w (SP.pure p :: l) ↔ p ∧ St S w0 w l :=
  ⟨fun h => ⟨(Sep.pure_iff.1 h.sep).1, h.kept, (Sep.pure_iff.1 h.sep).2⟩, fun h => ⟨h.2.kept, Sep.pure_iff.2 ⟨h.1, h.2.sep⟩⟩⟩

/-- What a part says. -/
theorem Sep.get : ∀ (i : Nat) {l : List SP} {A : SP} {S : Nat → Prop}, l[i]? = some A → Sep w l S → ∃ S1, A.on w S1
  | 0, B :: l, A, S, h, hs => by
    obtain rfl : B = A := by simpa using h
    exact ⟨_, hs.choose_spec.1⟩
  | i + 1, B :: l, A, S, h, ⟨S0, _, _, h3⟩ => Sep.get i (by simpa using h) h3
  | 0, [], _, _, h, _ => by simp at h
  | i + 1, [], _, _, h, _ => by simp at h
theorem Sep.blk (h : Sep w l S) (i : Nat) {b : Nat} {cs : Array Value} {t : TypeId} (hi : l[i]? = some (Blk b cs t)) : w.heap[b]? = some (.cells cs t (0, 0)) := (Sep.get i hi h).choose_spec.1
theorem Sep.row (h : Sep w l S) (i : Nat) {e : TypeId} {size : Nat} {v : Value} {n : Nat} {xs : List Value} (hi : l[i]? = some (Row e size v n xs)) : w.ownsRow 0 e size v n xs := (Sep.get i hi h).choose_spec.1
theorem St.blk (h : St S w0 w l) (i : Nat) {b : Nat} {cs : Array Value} {t : TypeId} (hi : l[i]? = some (Blk b cs t)) : w.heap[b]? = some (.cells cs t (0, 0)) := h.sep.blk i hi
theorem St.row (h : St S w0 w l) (i : Nat) {e : TypeId} {size : Nat} {v : Value} {n : Nat} {xs : List Value} (hi : l[i]? = some (Row e size v n xs)) : w.ownsRow 0 e size v n xs := h.sep.row i hi
theorem St.cell (h : St S w0 w l) (i j : Nat) {b : Nat} {cs : Array Value} {t : TypeId} (hi : l[i]? = some (Blk b cs t)) {v : Value} (hv : cs[j]? = some v) : w.cell? ⟨b, j, none⟩ = some v := cell_blk' (h.blk i hi) hv
theorem St.free (h : St S w0 w l) (i j : Nat) {b : Nat} {cs : Array Value} {t : TypeId} (hi : l[i]? = some (Blk b cs t)) : w.frozen? ⟨b, j, none⟩ = false := free_blk (h.blk i hi) j
theorem St.blk_lt (h : St S w0 w l) (i : Nat) {b : Nat} {cs : Array Value} {t : TypeId} (hi : l[i]? = some (Blk b cs t)) : b < w.heap.size := Go.Proofs.YtiglgfonhdfpmaaGreat.blk_lt (h.blk i hi)

/-- ONE PART TURNS: what else is there stays. -/
theorem Sep.turn : ∀ (i : Nat) {l : List SP} {A : SP} {S : Nat → Prop}, l[i]? = some A → Sep w l S → ∃ S1, A.on w S1 ∧ (∀ k, S1 k → S k) ∧ ∀ {w' : World} {A' : SP} {S1' : Nat → Prop} {S' : Nat → Prop}, (∀ k, k < w.heap.size → ¬ S1 k → w'.heap[k]? = w.heap[k]?) → A'.on w' S1' →
      (∀ k, S1' k → S1 k ∨ (w.heap.size ≤ k ∧ S' k)) → (∀ k, S k → S' k) → Sep w' (l.set i A') S'
  | 0, B :: l, A, S, h, ⟨S1, h1, h2, h3⟩ => by
    obtain rfl : B = A := by simpa using h
    refine ⟨S1, h1, h2, fun {w' A' S1' S'} hw ha hs hS => ⟨S1', ha, fun k hk => (hs k hk).elim (fun a => hS k (h2 k a)) (fun a => a.2), (h3.clip.move (fun k hk a => hw k hk a.1.2)).mono ?_⟩⟩
    rintro k _ ⟨⟨a, b⟩, c⟩
    exact ⟨hS k a, fun d => (hs k d).elim b (fun e => by omega)⟩
  | i + 1, B :: l, A, S, h, ⟨S0, h1, h2, h3⟩ => by
    obtain ⟨S1, g1, g2, g3⟩ := Sep.turn i (by simpa using h) h3
    refine ⟨S1, g1, fun k hk => (g2 k hk).1, fun {w' A' S1' S'} hw ha hs hS => ⟨S0, B.loc _ _ _ h1 (fun k hk => hw k (B.lt _ _ _ h1 hk) (fun c => (g2 k c).2 hk)), fun k hk => hS k (h2 k hk), ?_⟩⟩
    refine g3 (S' := fun k => S' k ∧ ¬ S0 k) hw ha (fun k hk => (hs k hk).elim Or.inl (fun a => .inr ⟨a.1, a.2, fun b => ?_⟩)) (fun k a => ⟨hS k a.1, a.2⟩)
    have := B.lt _ _ _ h1 b
    omega
  | 0, [], _, _, h, _ => by simp at h
  | i + 1, [], _, _, h, _ => by simp at h

theorem St.turn (h : St S w0 w l) (i : Nat) {A : SP} (hi : l[i]? = some A) : ∃ S1, A.on w S1 ∧ ∀ {w' : World} {A' : SP} {S1' : Nat → Prop}, Kept S1 w w' → A'.on w' S1' → (∀ k, S1' k → S1 k ∨ w.heap.size ≤ k) → St S w0 w' (l.set i A') := by
  obtain ⟨S1, h1, h2, h3⟩ := h.sep.turn i hi
  refine ⟨S1, h1, fun {w' A' S1'} hk ha hs => ⟨h.kept.trans' hk (fun k hk' a => ?_), h3 hk.block ha (fun k a => (hs k a).elim Or.inl (fun b => .inr ⟨b, .inr (by have := h.size; omega)⟩)) (fun _ a => a)⟩⟩
  exact (h2 k a).elim id (fun b => by omega)

/-- A store into a block that is known whole. -/
theorem St.set (h : St S w0 w l) (i : Nat) {b : Nat} {cs : Array Value} {t : TypeId} (hi : l[i]? = some (Blk b cs t)) (j : Nat) (u : Value) : St S w0 (w.setCell ⟨b, j, none⟩ u) (l.set i (Blk b (cs.setIfInBounds j u) t)) := by
  obtain ⟨S1, h1, h2⟩ := h.turn i hi
  exact h2 (S1' := S1) (kept_set.mono (fun k _ e => by subst e; exact (h1.2 k).2 rfl)) ⟨set_same h1.1 j u, h1.2⟩ (fun _ a => .inl a)

/-- A new block. -/
theorem St.alloc (h : St S w0 w l) (cs : Array Value) (t : TypeId) : St S w0 (w.alloc (.cells cs t)) (Blk w.heap.size cs t :: l) := by
  refine ⟨h.kept.alloc _, fun k => k = w.heap.size, ⟨heap_alloc_new _ _, fun _ => Iff.rfl⟩, fun k e => .inr (by have := h.size; omega), ?_⟩
  refine (h.sep.clip.move (fun k hk _ => heap_alloc_old _ _ hk)).mono ?_
  rintro k _ ⟨a, b⟩
  exact ⟨a, by omega⟩

theorem St.allocAt (h : St S w0 w l) {B : Nat} (hB : w.heap.size = B) (cs : Array Value) (t : TypeId) : St S w0 (w.alloc (.cells cs t)) (Blk B cs t :: l) := by
  subst hB; exact h.alloc cs t

theorem Sep.fps : ∀ {l : List SP} {S : Nat → Prop}, Sep w l S → ∃ f : Nat → Nat → Prop, (∀ i A, l[i]? = some A → A.on w (f i) ∧ ∀ k, f i k → S k) ∧ ∀ i j, i ≠ j → ∀ k, f i k → ¬ f j k
  | [], _, _ => ⟨fun _ _ => False, fun i A h => by simp at h, fun _ _ _ _ h => h.elim⟩
  | B :: l, S, ⟨S1, h1, h2, h3⟩ => by
    obtain ⟨f, f1, f2⟩ := Sep.fps h3
    refine ⟨fun i k => match i with | 0 => S1 k | i + 1 => f i k ∧ i < l.length, ?_, ?_⟩
    · intro i A h
      cases i with
      | zero =>
        obtain rfl : B = A := by simpa using h
        exact ⟨h1, h2⟩
      | succ i =>
        have h' : l[i]? = some A := by simpa using h
        have hlt : i < l.length := (List.getElem?_eq_some_iff.1 h').1
        have e : (fun k => f i k ∧ i < l.length) = f i := by funext k; simp [hlt]
        exact ⟨by show A.on w (fun k => f i k ∧ i < l.length); rw [e]; exact (f1 i A h').1, fun k hk => ((f1 i A h').2 k hk.1).1⟩
    · intro i j hij k hi hj
      cases i with
      | zero =>
        cases j with
        | zero => exact hij rfl
        | succ j => exact ((f1 j _ (List.getElem?_eq_getElem hj.2)).2 k hj.1).2 hi
      | succ i =>
        cases j with
        | zero => exact ((f1 i _ (List.getElem?_eq_getElem hi.2)).2 k hi.1).2 hj
        | succ j => exact f2 i j (by omega) k hi.1 hj.1
theorem Sep.of_fps : ∀ {l : List SP} {S : Nat → Prop} (f : Nat → Nat → Prop), (∀ i A, l[i]? = some A → A.on w (f i) ∧ ∀ k, f i k → S k) → (∀ i j, i < l.length → j < l.length → i ≠ j → ∀ k, f i k → ¬ f j k) → Sep w l S
  | [], _, _, _, _ => trivial
  | B :: l, S, f, h1, h2 => by
    refine ⟨f 0, (h1 0 B rfl).1, (h1 0 B rfl).2, Sep.of_fps (fun i => f (i + 1)) (fun i A h => ⟨(h1 (i + 1) A (by simpa using h)).1, fun k hk => ⟨(h1 (i + 1) A (by simpa using h)).2 k hk, ?_⟩⟩) (fun i j hi hj hij => h2 (i + 1) (j + 1) (by simpa using hi) (by simpa using hj) (by omega))⟩
    have hlt : i < l.length := (List.getElem?_eq_some_iff.1 h).1
    exact h2 (i + 1) 0 (by simpa using hlt) (by simp) (by omega) k hk
/-- Some of the parts, in another order. -/
theorem Sep.pick (h : Sep w l S) (is : List Nat) (hn : is.Nodup) (hi : is.all (· < l.length) = true) : Sep w (is.filterMap (l[·]?)) S := by
  obtain ⟨f, f1, f2⟩ := h.fps
  have hall : ∀ i ∈ is, i < l.length := fun i h => by simpa using List.all_eq_true.1 hi i h
  have e : is.filterMap (l[·]?) = is.attach.map (fun i => l[i.1]'(hall i.1 i.2)) := by
    clear hn hi
    induction is with
    | nil => rfl
    | cons a r ih =>
      have ha := hall a (by simp)
      rw [List.filterMap_cons, List.getElem?_eq_getElem ha]
      simp only [List.attach_cons, List.map_cons, List.map_map]
      congr 1
      rw [ih (fun i h => hall i (by simp [h]))]
      rfl
  have hg : ∀ (n : Nat) (A : SP), (is.filterMap (l[·]?))[n]? = some A → ∃ i : Nat, is[n]? = some i ∧ l[i]? = some A := by
    intro n A h
    rw [e, List.getElem?_map] at h
    obtain ⟨x, hx, rfl⟩ := Option.map_eq_some_iff.1 h
    refine ⟨x.1, ?_, List.getElem?_eq_getElem _⟩
    have h2 := congrArg (Option.map Subtype.val) hx
    rw [← List.getElem?_map] at h2
    simpa using h2
  have hlen : (is.filterMap (l[·]?)).length = is.length := by rw [e]; simp
  refine Sep.of_fps (fun n => f (is.getD n 0)) (fun n A h => ?_) (fun n m hn' hm' hnm k => ?_)
  · obtain ⟨i, hi, hA⟩ := hg n A h
    have : is.getD n 0 = i := by simp [List.getD, hi]
    rw [this]
    exact f1 i A hA
  · rw [hlen] at hn' hm'
    refine f2 _ _ ?_ k
    simp only [List.getD, List.getElem?_eq_getElem hn', List.getElem?_eq_getElem hm', Option.getD_some]
    intro hc
    have hp := List.pairwise_iff_getElem.1 hn
    rcases Nat.lt_or_ge n m with a | a
    · exact hp n m hn' hm' a hc
    · exact hp m n hm' hn' (by omega) hc.symm
theorem St.pick (h : St S w0 w l) (is : List Nat) (hn : is.Nodup := by decide) (hi : is.all (· < l.length) = true := by rfl) : St S w0 w (is.filterMap (l[·]?)) := ⟨h.kept, h.sep.pick is hn hi⟩

/-- A nil slice owns nothing. -/
theorem St.row_nil (h : St S w0 w l) (e : TypeId) (size : Nat) : St S w0 w (Row e size (.slice none 0 0) 0 [] :: l) :=
  ⟨h.kept, fun _ => False, ⟨World.ownsRow_nil _ _ _ _, fun k => by simp [Value.ownBlock]⟩, fun _ h => h.elim, h.sep.mono (fun _ _ h => ⟨h, id⟩)⟩

/-- Behind an append. -/
theorem St.grown (h : St S w0 w l) (i : Nat) {e : TypeId} {size : Nat} {v : Value} {n : Nat} {xs : List Value} (hi : l[i]? = some (Row e size v n xs)) {g n' c : Nat} {xs' : List Value}
    (ho : w'.ownsRow 0 e size (.slice (some ⟨g, 0, none⟩) n' c) n' xs') (hg : w.grownBy w' v.ownBlock) (hat : v.ownBlock = some g ∨ g = w.heap.size) : St S w0 w' (l.set i (Row e size (.slice (some ⟨g, 0, none⟩) n' c) n' xs')) := by
  obtain ⟨S1, h1, h2⟩ := h.turn i hi
  refine h2 (S1' := fun k => k = g) ?_ ⟨ho, fun k => by simp [Value.ownBlock, eq_comm]⟩ ?_
  · exact (Kept.refl _ _).grown hg (fun k _ e => (h1.2 k).2 e)
  · rintro k rfl
    exact hat.elim (fun a => .inl ((h1.2 _).2 a)) (fun a => .inr (by omega))
end

section
variable {P : Program} {S : Nat → Prop} {w0 w : World} {l : List SP}
/-- The same at a plain region's operation. -/
theorem St.list_app (H : St S w0 w l) (i : Nat) {e : TypeId} {size : Nat} {v : Value} {n : Nat} {xs : List Value} (hi : l[i]? = some (Row e size v n xs))
    {ops : Array Oper} {rest : List Oper} {o : Oper} {a : Act} {Q : Exit → Act → World → Prop} (hgd : o.guard = none) (s x : Operand) (t : TypeId)
    (ho : o.op = .call { callee := .builtin .append, args := #[s, x], argTypes := #[t, t] }) {z : Value} {bytes : Nat} (ht : P.underlying t = some (.slice e))
    (hinfo : (P.info? e).map (fun i => (i.zero, i.size, i.bytes)) = some (some z, size, bytes)) (hzs : z.cells.size = size ∧ 0 < size ∧ 0 < bytes)
    (hs : a.eval s = v) {ad : Addr} {c m : Nat} (news : List Value) (hx : a.eval x = .slice (some ad) m c) (hl : news.length = m * size) (hnews : ∀ j u, news[j]? = some u → w.cell? (ad.add j) = some u) (h1 : ∀ u ∈ news, u.oneCell' = true)
    (hm : 0 < m) (hbytes : (n + m) * bytes ≤ 140737488355328)
    (h : ∀ g cap w', St S w0 w' (l.set i (Row e size (.slice (some ⟨g, 0, none⟩) (n + m) cap) (n + m) (xs ++ news))) → w.heap.size ≤ w'.heap.size → wpList P ops Q rest (a.put o.dst (.slice (some ⟨g, 0, none⟩) (n + m) cap)) w') :
    wpList P ops Q (o :: rest) a w := by
  obtain ⟨ti, hti, hz, hsz, hby⟩ := info_parts hinfo
  refine wpList_append_lies w hgd s x t ho 0 e ti z size bytes ht hti hz hsz hby hzs.1 hzs.2.1 v n xs hs (H.row i hi) ad m c news hx hl hnews h1 hm
    (by have := Nat.le_mul_of_pos_right (n + m) hzs.2.2; unfold maxLen; omega) hbytes (Nat.zero_le _) _ rfl ?_
  intro g cap w' hown hgrow hat _
  exact h g cap w' (H.grown i hi hown hgrow hat) hgrow.size
/-- What a new block holds is what is appended. -/
theorem new_cells {w : World} (cs : Array Value) (t : TypeId) : ∀ j u, cs.toList[j]? = some u → (w.alloc (.cells cs t)).cell? ((⟨w.heap.size, 0, none⟩ : Addr).add j) = some u := World.news_of_block (heap_alloc_new _ _)
end

end Go.Proofs.YtiglgfonhdfpmaaGreat

/- A store as plain data: blocks that last, writes that wait, reads, calls; and its cells in memory. Plain laws, no program in sight. -/
set_option linter.unusedVariables false
set_option linter.unusedSimpArgs false
namespace Go.Proofs.YtiglgfonhdfpmaaGreat
open Go.RowKit

/-- A byte in its cell. -/
def bv (b : UInt8) : Value := .int .u8 (b.toNat : Int)
def bvs (l : List UInt8) : List Value := l.map bv
def intCells (l : List Int) : List Value := l.map (Value.int .i64)
theorem flat_len {α : Type} {k : Nat} : ∀ {l : List (List α)}, (∀ x ∈ l, x.length = k) → l.flatten.length = l.length * k
  | [], _ => by simp
  | x :: l, h => by
    have := flat_len (l := l) (fun y hy => h y (by simp [hy]))
    simp only [List.flatten_cons, List.length_append, this, h x (by simp), List.length_cons, Nat.add_mul]; omega
theorem flat_take {α : Type} {k : Nat} : ∀ {l : List (List α)} (_ : ∀ x ∈ l, x.length = k) (i : Nat), (l.take i).flatten = l.flatten.take (i * k)
  | [], _, i => by simp
  | x :: l, h, 0 => by simp
  | x :: l, h, i + 1 => by
    have hx := h x (by simp)
    rw [List.take_succ_cons, List.flatten_cons, List.flatten_cons, flat_take (fun y hy => h y (by simp [hy])) i, List.take_append, List.take_of_length_le (l := x) (by rw [hx, Nat.add_mul]; omega)]
    congr 2
    rw [hx, Nat.add_mul]; omega
theorem flat_drop {α : Type} {k : Nat} : ∀ {l : List (List α)} (_ : ∀ x ∈ l, x.length = k) (i : Nat), (l.drop i).flatten = l.flatten.drop (i * k)
  | [], _, i => by simp
  | x :: l, h, 0 => by simp
  | x :: l, h, i + 1 => by
    have hx := h x (by simp)
    rw [List.drop_succ_cons, List.flatten_cons, flat_drop (fun y hy => h y (by simp [hy])) i, List.drop_append, List.drop_of_length_le (l := x) (by rw [hx, Nat.add_mul]; omega), List.nil_append]
    congr 1
    rw [hx, Nat.add_mul]; omega
/-- The i-th of them. -/
theorem flat_at {α : Type} {k : Nat} {l : List (List α)} (h : ∀ x ∈ l, x.length = k) {i : Nat} {x : List α} (hi : l[i]? = some x) : (l.flatten.drop (i * k)).take k = x := by
  have hlt := (List.getElem?_eq_some_iff.1 hi).1
  have hx := h x (List.mem_of_getElem? hi)
  rw [← flat_drop h, List.drop_eq_getElem_cons hlt, List.flatten_cons]
  have : l[i] = x := (List.getElem?_eq_some_iff.1 hi).2
  rw [this, List.take_append_of_le_length (by omega), List.take_of_length_le (by omega)]
theorem flat_get {α : Type} {k : Nat} {l : List (List α)} (h : ∀ x ∈ l, x.length = k) {i j : Nat} {x : List α} (hi : l[i]? = some x) (hj : j < k) : l.flatten[i * k + j]? = x[j]? := by
  have := flat_at h hi
  rw [← this, List.getElem?_take, if_pos hj, List.getElem?_drop]
/-- The first cells of one of them are laid anew. -/
theorem flat_splice {α : Type} {k : Nat} {l : List (List α)} (h : ∀ x ∈ l, x.length = k) {i : Nat} {x : List α} (hi : l[i]? = some x) (y : List α) (hy : y.length ≤ k) :
    splice l.flatten (i * k) y = (l.set i (y ++ x.drop y.length)).flatten := by
  have hlt := (List.getElem?_eq_some_iff.1 hi).1
  have hx := h x (List.mem_of_getElem? hi)
  have e : l[i] = x := (List.getElem?_eq_some_iff.1 hi).2
  unfold splice
  rw [List.set_eq_take_append_cons_drop, if_pos hlt, List.flatten_append, List.flatten_cons, flat_take h, flat_drop h]
  congr 1
  rw [List.append_assoc]
  congr 1
  have e2 : l.flatten.drop (i * k) = x ++ l.flatten.drop ((i + 1) * k) := by
    rw [← flat_drop h, ← flat_drop h, List.drop_eq_getElem_cons hlt, List.flatten_cons, e]
  rw [← List.drop_drop, e2, List.drop_append_of_le_length (by omega)]

/-- A store as plain data. -/
structure StM where
  last : List (List UInt8)
  waits : List (Int × List UInt8)
  reads : List Int
  calls : Int

structure StM.Good (m : StM) : Prop where
  count : 1 ≤ m.last.length ∧ m.last.length ≤ 4096
  full : ∀ x ∈ m.last, x.length = 128
  reads : m.reads.length = m.last.length
  waits : ∀ x ∈ m.waits, 0 ≤ x.1 ∧ x.1 < m.last.length ∧ x.2.length = 128
  room : m.waits.length ≤ 1000000
  calls : m.calls ≤ 9223372036854775807

def spendC (c : Int) : Int := if 0 < c then c - 1 else c

def StM.inn (m : StM) (at' : Int) : Bool := decide (0 ≤ at') && decide (at' < m.last.length)
def StM.write (m : StM) (at' : Int) (b : List UInt8) : Int × StM :=
  if m.inn at' = false then (32, m) else if b.length ≠ 128 then (2, m) else if m.calls = 0 then (31, m) else (0, { m with calls := spendC m.calls, waits := m.waits ++ [(at', b)] })
/-- What a read tells: the block that lasts, and what was written last. -/
def over (at' : Int) (b : List UInt8) (l : List (Int × List UInt8)) : List UInt8 := l.foldl (fun b w => if w.1 = at' then w.2 else b) b
def StM.look (m : StM) (at' : Int) : List UInt8 := over at' (m.last.getD at'.toNat []) m.waits
def StM.read (m : StM) (at' : Int) : List UInt8 × Int × StM :=
  if m.inn at' = false then ([], 32, m) else if m.calls = 0 then ([], 31, m) else (m.look at', 0, { m with reads := m.reads.set at'.toNat (wrap64 (m.reads.getD at'.toNat 0 + 1)) })
end Go.Proofs.YtiglgfonhdfpmaaGreat

/- Items: which names are right, which items. Plain laws, no program in sight. -/
set_option linter.unusedVariables false
set_option linter.unusedSimpArgs false
namespace Go.Proofs.YtiglgfonhdfpmaaGreat

structure Itm where
  kind : Int
  key : List UInt8
  time : Int
  value : Int
def evSign (c : UInt8) : Bool := (decide (97 ≤ c.toNat) && decide (c.toNat ≤ 122)) || (decide (48 ≤ c.toNat) && decide (c.toNat ≤ 57)) || c.toNat == 45
def nameB (s : List UInt8) : Bool := !s.isEmpty && decide (s.length ≤ 16) && s.all evSign
def Itm.right (x : Itm) : Bool :=
  decide (0 ≤ x.time) && decide (x.time ≤ 1099511627776) &&
    (if x.kind = 1 then nameB x.key && decide (-1099511627776 ≤ x.value) && decide (x.value ≤ 1099511627776) else if x.kind = 2 then x.key.isEmpty && decide (x.value = 0) else false)
def Itm.fits (x : Itm) : Prop := (-9223372036854775808 ≤ x.kind ∧ x.kind ≤ 9223372036854775807) ∧ x.key.length ≤ 9223372036854775807 ∧ (-9223372036854775808 ≤ x.time ∧ x.time ≤ 9223372036854775807) ∧ (-9223372036854775808 ≤ x.value ∧ x.value ≤ 9223372036854775807)

end Go.Proofs.YtiglgfonhdfpmaaGreat

/- Windows: which are right, which join, their order. Plain laws. -/
set_option linter.unusedVariables false
set_option linter.unusedSimpArgs false
namespace Go.Proofs.YtiglgfonhdfpmaaGreat

structure Wd where
  key : List UInt8
  frm : Int
  to : Int
deriving DecidableEq
def Wd.fits (x : Wd) : Prop := x.key.length ≤ 9223372036854775807 ∧ (-9223372036854775808 ≤ x.frm ∧ x.frm ≤ 9223372036854775807) ∧ (-9223372036854775808 ≤ x.to ∧ x.to ≤ 9223372036854775807)
def Wd.right (x : Wd) : Bool := nameB x.key && decide (0 ≤ x.frm) && decide (x.frm ≤ 1099511627776) && decide (x.frm < x.to) && decide (x.to ≤ 4398046511104)
def Wd.joins (a b : Wd) : Bool := a.right && b.right && decide (a.key = b.key) && decide (a.frm ≤ b.to) && decide (b.frm ≤ a.to)
def Wd.place (a b : Wd) : Int := if Lib.compareBytes a.key b.key ≠ 0 then Lib.compareBytes a.key b.key else if Lib.compareInt a.frm b.frm ≠ 0 then Lib.compareInt a.frm b.frm else Lib.compareInt a.to b.to
end Go.Proofs.YtiglgfonhdfpmaaGreat
