/- append of any slice, empty or not, onto a row of the call's own. Laws over any program. -/
import Derived.Test.YtoffcoegghigoaaSep
import Derived.Test.YtoffcoegghigoaaArr
import Derived.Deep.Upon
namespace Go.Proofs.Ytoffcoegghigoaa
open Go.RowKit

theorem slice_form' {w : World} {base : Nat} {e : TypeId} {size : Nat} {v : Value} {n : Nat} {xs : List Value} (h : w.ownsRow base e size v n xs) : ∃ ao cap, v = .slice ao n cap ∧ n ≤ cap ∧ (n ≠ 0 → ∃ g, ao = some ⟨g, 0, none⟩) := by
  rcases own_shape h with ⟨h, h'⟩ | ⟨g, cap, h, h', _⟩
  · exact ⟨none, 0, by rw [h, h'], by omega, fun hn => absurd h' hn⟩
  · exact ⟨_, cap, h, h', fun _ => ⟨g, rfl⟩⟩

section
variable {P : Program} {S : Nat → Prop} {w0 w : World} {l : List SP}
theorem St.grown' (h : St S w0 w l) (i : Nat) {e : TypeId} {size : Nat} {v : Value} {n : Nat} {xs : List Value} (hi : l[i]? = some (Row e size v n xs)) {w' : World} {v' : Value} {n' : Nat} {xs' : List Value}
    (ho : w'.ownsRow 0 e size v' n' xs') (hg : w.grownBy w' v.ownBlock) (hat : v'.ownBlock = v.ownBlock ∨ v'.ownBlock = some w.heap.size) : St S w0 w' (l.set i (Row e size v' n' xs')) := by
  obtain ⟨S1, h1, h2⟩ := h.turn i hi
  refine h2 (S1' := fun k => v'.ownBlock = some k) ?_ ⟨ho, fun k => Iff.rfl⟩ ?_
  · exact (Kept.refl _ _).grown hg (fun k _ e => (h1.2 k).2 e)
  · intro k hk
    rcases hat with a | a
    · exact .inl ((h1.2 _).2 (a ▸ hk))
    · right; rw [a] at hk; have := Option.some.inj hk; omega
theorem src_none (w : World) {t e : TypeId} (ht : P.underlying t = some (.slice e)) (size c : Nat) : Src P size t (.slice none 0 c) 0 [] w :=
  ⟨.inl ⟨e, ht⟩, fun w' => by simp [Builtin.lenOf], by simp [Builtin.firstCells], by simp [Builtin.firstCells], by simp, by simp⟩
theorem St.run_append (H : St S w0 w l) (i : Nat) {e : TypeId} {size : Nat} {v : Value} {n : Nat} {xs : List Value} (hi : l[i]? = some (Row e size v n xs))
    {t ty : TypeId} {z : Value} {bytes : Nat} (ht : P.underlying t = some (.slice e))
    (hinfo : (P.info? e).map (fun i => (i.zero, i.size, i.bytes)) = some (some z, size, bytes)) (hzs : z.cells.size = size ∧ 0 < size ∧ 0 < bytes)
    {A : Option Addr} {c m : Nat} (news : List Value) (hl : news.length = m * size) (hA : A = none → m = 0) (hnews : ∀ ad, A = some ad → ∀ j u, news[j]? = some u → w.cell? (ad.add j) = some u) (h1 : ∀ u ∈ news, u.oneCell' = true)
    (hbytes : (n + m) * bytes ≤ 140737488355328) :
    ∃ v' w', (Builtin.append_ #[t, t] ty #[v, .slice A m c]).run P w = .ok v' w' ∧ St S w0 w' (l.set i (Row e size v' (n + m) (xs ++ news))) ∧ w.heap.size ≤ w'.heap.size := by
  obtain ⟨ti, hti, hz, hsz, hby⟩ := info_parts hinfo
  cases A with
  | none =>
    obtain rfl := hA rfl
    obtain rfl : news = [] := List.eq_nil_of_length_eq_zero (by simpa using hl)
    obtain ⟨ao, cap, rfl, hle⟩ : ∃ ao cap, v = .slice ao n cap ∧ n ≤ cap := by
      rcases own_shape (H.row i hi) with ⟨h, h'⟩ | ⟨g, cap, h, h', _⟩
      · exact ⟨none, 0, by rw [h, h'], by omega⟩
      · exact ⟨_, cap, h, h'⟩
    refine ⟨_, w, run_append_nothing w t t ty e ti ht hti ao n cap hle _ (src_none w ht _ c), ?_, Nat.le_refl _⟩
    rw [List.append_nil, Nat.add_zero]
    exact H.grown' i hi (H.row i hi) (World.grownBy.refl w _) (.inl rfl)
  | some ad =>
    obtain ⟨v', w', hr, h2, h3, _, h5⟩ := run_append_own_at (P := P) w 0 t ty e ti z size bytes ht hti hz hsz hby hzs.1 hzs.2.1 v n xs (H.row i hi) ad m c news hl (hnews ad rfl) h1
      (by have := Nat.le_mul_of_pos_right (n + m) hzs.2.2; unfold maxLen; omega) hbytes (Nat.zero_le _)
    exact ⟨v', w', hr, H.grown' i hi h2 h3 h5, h3.size⟩
/-- The same at a plain region's operation. -/
theorem St.list_add (H : St S w0 w l) (i : Nat) {e : TypeId} {size : Nat} {v : Value} {n : Nat} {xs : List Value} (hi : l[i]? = some (Row e size v n xs))
    {ops : Array Oper} {rest : List Oper} {o : Oper} {a : Act} {Q : Exit → Act → World → Prop} (hgd : o.guard = none) (s x : Operand) (t : TypeId)
    (ho : o.op = .call { callee := .builtin .append, args := #[s, x], argTypes := #[t, t] }) {z : Value} {bytes : Nat} (ht : P.underlying t = some (.slice e))
    (hinfo : (P.info? e).map (fun i => (i.zero, i.size, i.bytes)) = some (some z, size, bytes)) (hzs : z.cells.size = size ∧ 0 < size ∧ 0 < bytes)
    (hs : a.eval s = v) {A : Option Addr} {c m : Nat} (news : List Value) (hx : a.eval x = .slice A m c) (hl : news.length = m * size) (hA : A = none → m = 0) (hnews : ∀ ad, A = some ad → ∀ j u, news[j]? = some u → w.cell? (ad.add j) = some u) (h1 : ∀ u ∈ news, u.oneCell' = true)
    (hbytes : (n + m) * bytes ≤ 140737488355328)
    (h : ∀ v' w', St S w0 w' (l.set i (Row e size v' (n + m) (xs ++ news))) → w.heap.size ≤ w'.heap.size → wpList P ops Q rest (a.put o.dst v') w') :
    wpList P ops Q (o :: rest) a w := by
  obtain ⟨v', w', hr, h2, h3⟩ := H.run_append i hi (ty := o.type) (c := c) ht hinfo hzs news hl hA hnews h1 hbytes
  refine wpList_plain hgd fun _ hK => ?_
  unfold Oper.wp execOp
  simp only [ho, resolve, invoke, builtin, Sem.run_bind, Sem.run_pure, Result.andThen_ok, List.map_toArray, List.map_cons, List.map_nil, hs, hx, hr]
  exact hK _ _ (h v' w' h2 h3)
end

/-- A call on one part whose result is some value, in the midst of a call. -/
theorem St.callEx {α : Type} {S : Nat → Prop} {w w' : World} {A : SP} {A' : α → List SP} {L : List SP} {P : Program} {fid : Nat} {args : Array Value} {p : α → Ending → Prop}
    (hc : ∀ S', Sep w' [A] S' → Calls P fid args w' fun e w2 => ∃ x, p x e ∧ St S' w' w2 (A' x)) (H : St S w w' (A :: L)) : Calls P fid args w' fun e w2 => ∃ x, p x e ∧ St S w w2 (A' x ++ L) := by
  obtain ⟨S1, K1, G1⟩ := St.call (l1 := [_]) H
  exact (hc S1 K1).mono fun _ _ ⟨x, h1, h2⟩ => ⟨x, h1, G1 _ _ h2⟩

/-- The first parts are handed to a call, the others may be read meanwhile. -/
theorem St.lendAll {S : Nat → Prop} {w0 w : World} {l1 rest : List SP} (H : St S w0 w (l1 ++ rest)) :
    ∃ S1, Sep w l1 S1 ∧ (∀ (i : Nat) (A : SP), rest[i]? = some A → ∃ S2 : Nat → Prop, A.on w S2 ∧ ∀ k, S2 k → ¬ S1 k) ∧ ∀ w' l1', St S1 w w' l1' → St S w0 w' (l1' ++ rest) := by
  obtain ⟨S1, h1, h2, h3⟩ := H.sep.split
  obtain ⟨f, f1, _⟩ := h3.fps
  refine ⟨S1, h2, fun i A hi => ⟨f i, (f1 i A hi).1, fun k hk => ((f1 i A hi).2 k hk).2⟩, fun w' l1' G => ⟨?_, ?_⟩⟩
  · refine H.kept.trans' G.kept (fun i hi hs => ?_)
    rcases (h1 i hs).1 with a | a
    · exact a
    · omega
  · have hsz := H.kept.size
    refine Sep.join G.sep ?_ (((h3.clip).move ?_).mono ?_)
    · rintro k _ (a | a)
      · exact (h1 k a).1
      · exact .inr (by omega)
    · rintro k hk ⟨⟨_, b⟩, _⟩
      exact G.kept.block k hk b
    · rintro k _ ⟨⟨a, b⟩, c⟩
      exact ⟨a, by rintro (d | d); exact b d; omega⟩

/-- A block of any kind. -/
def ObjAt (b : Nat) (o : Obj) : SP where
  on w S := w.heap[b]? = some o ∧ ∀ k, S k ↔ k = b
  loc w w' S h hs := ⟨(hs b ((h.2 b).2 rfl)).trans h.1, h.2⟩
  lt w S k h hk := by
    obtain rfl := (h.2 k).1 hk
    exact blk_lt h.1
theorem St.allocObj {S : Nat → Prop} {w0 w : World} {l : List SP} (h : St S w0 w l) {B : Nat} (hB : w.heap.size = B) (o : Obj) : St S w0 (w.alloc o) (ObjAt B o :: l) := by
  subst hB
  refine ⟨h.kept.alloc _, fun k => k = w.heap.size, ⟨heap_alloc_new _ _, fun _ => Iff.rfl⟩, fun k e => .inr (by have := h.size; omega), ?_⟩
  refine (h.sep.clip.move (fun k hk _ => heap_alloc_old _ _ hk)).mono ?_
  rintro k _ ⟨a, b⟩
  exact ⟨a, by omega⟩

end Go.Proofs.Ytoffcoegghigoaa
