/- The walks of the pen's reader: Fail, Err, off, Left, and what it reads from. Conditions: the reader's blocks lie as its maker lays them. -/
import Derived.Test.YtbikjhmdpgoofabPenA
namespace Go.Proofs.Ytbikjhmdpgoofab
open Go.RowKit

/-- A part of an owned block, as a slice of bytes. -/
def View (v : Value) (l : List UInt8) : SP where
  on w S := ∃ ao cap, v = .slice ao l.length cap ∧ l.length ≤ cap ∧ ((ao = none ∧ l = [] ∧ ∀ k, ¬ S k) ∨
    ∃ g o cs t, ao = some ⟨g, o, none⟩ ∧ w.heap[g]? = some (.cells cs t (0, 0)) ∧ (∀ i (h : i < l.length), cs[o + i]? = some (bv l[i])) ∧ ∀ k, S k ↔ k = g)
  loc w w' S h hs := by
    obtain ⟨ao, cap, h1, h2, h3⟩ := h
    refine ⟨ao, cap, h1, h2, h3.imp id ?_⟩
    rintro ⟨g, o, cs, t, e1, e2, e3, e4⟩
    exact ⟨g, o, cs, t, e1, (hs g ((e4 g).2 rfl)).trans e2, e3, e4⟩
  lt w S k h hk := by
    obtain ⟨ao, cap, h1, h2, h3⟩ := h
    rcases h3 with ⟨_, _, h3⟩ | ⟨g, o, cs, t, e1, e2, e3, e4⟩
    · exact absurd hk (h3 k)
    · obtain rfl := (e4 k).1 hk
      exact blk_lt e2

section
variable {S : Nat → Prop} {w0 w : World} {L : List SP}
theorem St.viewNil (h : St S w0 w L) (cap : Nat) : St S w0 w (View (.slice none 0 cap) [] :: L) :=
  ⟨h.kept, fun _ => False, ⟨none, cap, rfl, Nat.zero_le _, .inl ⟨rfl, rfl, fun _ h => h⟩⟩, fun _ h => h.elim, h.sep.mono (fun _ _ h => ⟨h, id⟩)⟩
theorem St.viewRow (h : St S w0 w L) (i : Nat) {v : Value} {n : Nat} {l : List UInt8} (hi : L[i]? = some (Row 5 1 v n (bvs l))) : St S w0 w (L.set i (View v l)) := by
  obtain ⟨S1, h1, h2⟩ := h.turn i hi
  refine h2 (S1' := S1) (Kept.refl _ _) ?_ (fun _ a => .inl a)
  have hn : n = l.length := by have := h1.1.1; rw [length_bvs] at this; omega
  subst hn
  rcases h1.1.2 with ⟨rfl, h0⟩ | ⟨g, cap, cur, rfl, _, hg, hc, _, hs, ht⟩
  · obtain rfl : l = [] := List.eq_nil_of_length_eq_zero h0
    exact ⟨none, 0, rfl, Nat.le_refl _, .inl ⟨rfl, rfl, fun k hk => by have := (h1.2 k).1 hk; simp [Value.ownBlock] at this⟩⟩
  · refine ⟨some ⟨g, 0, none⟩, cap, rfl, hc, .inr ⟨g, 0, cur, _, rfl, hg, fun i hi => ?_, fun k => by rw [h1.2 k]; simp [Value.ownBlock, eq_comm]⟩⟩
    have e := congrArg (fun x : List Value => x[i]?) ht
    simp only [List.getElem?_take, Nat.mul_one, hi, if_true, Array.getElem?_toList] at e
    rw [Nat.zero_add, e]
    simp [bvs, hi]
theorem St.viewForm (h : St S w0 w L) (i : Nat) {v : Value} {l : List UInt8} (hi : L[i]? = some (View v l)) : ∃ ao cap, v = .slice ao l.length cap ∧ l.length ≤ cap ∧ (l ≠ [] → ∃ g o, ao = some ⟨g, o, none⟩ ∧ g < w.heap.size ∧ ∀ j (h : j < l.length), w.cell? ⟨g, o + j, none⟩ = some (bv l[j])) := by
  obtain ⟨S1, ao, cap, h1, h2, h3⟩ := h.sep.get i hi
  refine ⟨ao, cap, h1, h2, fun hl => ?_⟩
  rcases h3 with ⟨_, h3, _⟩ | ⟨g, o, cs, t, e1, e2, e3, e4⟩
  · exact absurd h3 hl
  · exact ⟨g, o, e1, Go.Proofs.Ytbikjhmdpgoofab.blk_lt e2, fun j hj => (cell_blk e2 _).trans (e3 j hj)⟩
/-- What is left behind the first k. -/
theorem St.viewCut (h : St S w0 w L) (i : Nat) {ao : Option Addr} {n cap k : Nat} {l : List UInt8} (hi : L[i]? = some (View (.slice ao n cap) l)) (hk : k ≤ n) {ao' : Option Addr} {cap' : Nat} (hc : n - k ≤ cap')
    (hv : (ao = none ∧ ao' = none) ∨ ∃ g o o', ao = some ⟨g, o, none⟩ ∧ ao' = some ⟨g, o', none⟩ ∧ (k < n → o' = o + k)) : St S w0 w (L.set i (View (.slice ao' (n - k) cap') (l.drop k))) := by
  obtain ⟨S1, h1, h2⟩ := h.turn i hi
  refine h2 (S1' := S1) (Kept.refl _ _) ?_ (fun _ a => .inl a)
  obtain ⟨ao1, cap1, e1, e2, e3⟩ := h1
  simp only [Value.slice.injEq] at e1
  obtain ⟨rfl, rfl, rfl⟩ := e1
  refine ⟨ao', cap', by rw [List.length_drop], by rw [List.length_drop]; exact hc, ?_⟩
  rcases e3 with ⟨rfl, rfl, e3⟩ | ⟨g, o, cs, t, rfl, f2, f3, f4⟩
  · rcases hv with ⟨_, rfl⟩ | ⟨g, o, o', hh, _⟩
    · exact .inl ⟨rfl, by simp, e3⟩
    · cases hh
  · rcases hv with ⟨hh, _⟩ | ⟨g', o1, o', hh, rfl, ho⟩
    · cases hh
    · cases hh
      refine .inr ⟨g, o', cs, t, rfl, f2, fun j hj => ?_, f4⟩
      rw [List.length_drop] at hj
      rw [ho (by omega), Nat.add_assoc, f3 (k + j) (by omega)]
      simp
theorem St.viewRO (h : St S w0 w L) (i : Nat) {ao : Option Addr} {n cap : Nat} {l : List UInt8} (hi : L[i]? = some (View (.slice ao n cap) l)) {k cap' : Nat} (hk : k ≤ n) (hc : k ≤ cap') : BytesRO (fun _ => False) w (.slice ao k cap') (l.take k) := by
  obtain ⟨ao1, cap1, e1, e2, e3⟩ := h.viewForm i hi
  simp only [Value.slice.injEq] at e1
  obtain ⟨rfl, rfl, rfl⟩ := e1
  refine ⟨ao, cap', by rw [List.length_take, Nat.min_eq_left hk], by rw [List.length_take]; omega, fun hl => ?_⟩
  obtain ⟨g, o, rfl, h3, h4⟩ := e3 (by rintro rfl; simp at hl)
  exact ⟨g, o, rfl, h3, id, fun j hj => by rw [h4 j (by rw [List.length_take] at hj; omega)]; simp⟩
end

/-- A reader with these bytes left, and this error. -/
def ReaderAt (b : Nat) (l : List UInt8) (e : Int) : SP := SP.ex fun v : Value => SP.all [Blk b #[v, .int .i64 e] 107, View v l]
theorem ReaderAt.open {b : Nat} {l : List UInt8} {e : Int} {w0 w : World} {L : List SP} {S : Nat → Prop} (H : St S w0 w (ReaderAt b l e :: L)) : ∃ ao cap, l.length ≤ cap ∧ St S w0 w (Blk b #[.slice ao l.length cap, .int .i64 e] 107 :: View (.slice ao l.length cap) l :: L) := by
  obtain ⟨v, H⟩ := St.ex_iff.1 H
  have H := St.all_iff.1 H
  obtain ⟨ao, cap, rfl, h, _⟩ := H.viewForm 1 rfl
  exact ⟨ao, cap, h, H⟩
theorem ReaderAt.mk {b : Nat} {l : List UInt8} {e : Int} {w0 w : World} {L : List SP} {S : Nat → Prop} {v : Value} (H : St S w0 w (Blk b #[v, .int .i64 e] 107 :: View v l :: L)) : St S w0 w (ReaderAt b l e :: L) :=
  St.ex_iff.2 ⟨v, St.all_iff.2 H⟩

theorem read_new {v : Value} {bs : List UInt8} {w : World} (hv : BytesRO (fun _ => False) w v bs) (hl : bs.length ≤ 140000000000000) :
    Calls Try.prog 29 #[v] w fun e w' => ∃ b, e = .returned (.pointer (some ⟨b, 0, none⟩)) ∧ St (fun _ => False) w w' [ReaderAt b bs 0] := by
  go_enter Try.func29, Try.ntmps29
  go_wp2_with fail
  refine (bytes_clone hv hl).mono ?_
  rintro e w1 ⟨v', rfl, H1⟩
  obtain ⟨ao, cap, rfl, _, _⟩ := slice_form' (H1.row 0 rfl)
  have H2 : St (fun _ => False) w w1 [View (.slice ao bs.length cap) bs] := H1.viewRow 0 rfl
  have H3 : St _ w _ [_, _] := H2.allocAt rfl #[.slice ao bs.length cap, .int .i64 0] 107
  clear H1 H2
  go_wp2
  go_ret
  exact ⟨_, rfl, ReaderAt.mk (L := []) H3⟩

set_option maxHeartbeats 400000 in
theorem read_fail {b : Nat} {l : List UInt8} {e x : Int} {w : World} {S : Nat → Prop} (H : Sep w [ReaderAt b l e] S) :
    Calls Try.prog 38 #[.pointer (some ⟨b, 0, none⟩), .int .i64 x] w fun r w' => r = .returned (.tuple #[]) ∧ St S w w' [ReaderAt b (if e = 0 ∧ x ≠ 0 then [] else l) (if e = 0 ∧ x ≠ 0 then x else e)] := by
  have H00 := St.refl H
  obtain ⟨ao, cap, hc, H0⟩ := ReaderAt.open (St.refl H)
  have H0 : St S w w [_, _] := H0
  have c0 := H0.cell 0 0 rfl rfl
  have c1 := H0.cell 0 1 rfl rfl
  have f0 := H0.free 0 0 rfl
  have f1 := H0.free 0 1 rfl
  have hb := H0.blk_lt 0 rfl
  by_cases h0 : e = 0
  · by_cases h1 : x = 0
    · have e1 : (x == 0) = true := by simpa using h1
      have e2 : (x != 0) = false := by simpa using h1
      have e3 : (e == 0) = true := by simpa using h0
      rw [if_neg (by omega), if_neg (by omega)]
      clear h0 h1
      go_enter Try.func38, Try.ntmps38
      go_wp2
      go_end0
      exact ⟨rfl, H00⟩
    · have e1 : (x == 0) = false := by simpa using h1
      have e2 : (x != 0) = true := by simpa using h1
      have e3 : (e == 0) = true := by simpa using h0
      rw [if_pos ⟨h0, h1⟩, if_pos ⟨h0, h1⟩]
      clear h0 h1
      have H1 := ((H0.set 0 rfl 1 (.int .i64 x)).set 0 rfl 0 (.slice none 0 0))
      have H2 : St S w _ [_, _] := (H1.take (l1 := [_])).viewNil 0
      go_enter Try.func38, Try.ntmps38
      go_wp2
      go_end0
      exact ⟨rfl, ReaderAt.mk (L := []) (H2.pick [1, 0])⟩
  · have e3 : (e == 0) = false := by simpa using h0
    rw [if_neg (fun h => h0 h.1), if_neg (fun h => h0 h.1)]
    clear h0
    go_enter Try.func38, Try.ntmps38
    go_wp2
    go_end0
    exact ⟨rfl, H00⟩
theorem read_fail_nil (x : Int) (w : World) : Calls Try.prog 38 #[.pointer none, .int .i64 x] w fun r w' => r = .returned (.tuple #[]) ∧ w' = w := by
  go_enter Try.func38, Try.ntmps38
  go_wp2
  go_end0
  exact ⟨rfl, rfl⟩
theorem read_off {b : Nat} {l : List UInt8} {e : Int} {w : World} {L : List SP} {S : Nat → Prop} (H : Sep w (ReaderAt b l e :: L) S) :
    Calls Try.prog 72 #[.pointer (some ⟨b, 0, none⟩)] w fun r w' => r = .returned (.bool (e != 0)) ∧ w' = w := by
  obtain ⟨ao, cap, hc, H0⟩ := ReaderAt.open (St.refl H)
  have c1 := H0.cell 0 1 rfl rfl
  clear H
  go_enter Try.func72, Try.ntmps72
  go_wp2
  go_ret
  exact ⟨rfl, rfl⟩
theorem read_off_nil (w : World) : Calls Try.prog 72 #[.pointer none] w fun r w' => r = .returned (.bool true) ∧ w' = w := by
  go_enter Try.func72, Try.ntmps72
  go_wp2
  go_ret
  exact ⟨rfl, rfl⟩
theorem read_err {b : Nat} {l : List UInt8} {e : Int} {w : World} {L : List SP} {S : Nat → Prop} (H : Sep w (ReaderAt b l e :: L) S) :
    Calls Try.prog 40 #[.pointer (some ⟨b, 0, none⟩)] w fun r w' => r = .returned (.int .i64 e) ∧ w' = w := by
  obtain ⟨ao, cap, hc, H0⟩ := ReaderAt.open (St.refl H)
  have c1 := H0.cell 0 1 rfl rfl
  clear H
  go_enter Try.func40, Try.ntmps40
  go_wp2
  go_ret
  exact ⟨rfl, rfl⟩
theorem read_err_nil (w : World) : Calls Try.prog 40 #[.pointer none] w fun r w' => r = .returned (.int .i64 1) ∧ w' = w := by
  go_enter Try.func40, Try.ntmps40
  go_wp2
  go_ret
  exact ⟨rfl, rfl⟩

end Go.Proofs.Ytbikjhmdpgoofab
