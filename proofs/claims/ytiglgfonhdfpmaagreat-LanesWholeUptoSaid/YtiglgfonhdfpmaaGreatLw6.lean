import Derived.Test.YtiglgfonhdfpmaaGreatLw1
import Derived.Test.YtiglgfonhdfpmaaGreatLw2
import Derived.Test.YtiglgfonhdfpmaaGreatLw3
import Derived.Test.YtiglgfonhdfpmaaGreatLw4
import Derived.Test.YtiglgfonhdfpmaaGreatLw5
import Derived.Deep.CutBlock
import Derived.Lib.ItoaNum
import Derived.Lib.AtoiAll
import Derived.Lib.Split
import Derived.Lib.SplitLaws
import Derived.Lib.IndexLaws
import Derived.Lib.CountLaws
import Derived.Lib.AppendZeros
import Derived.Deep.DeepAppendWide
/- Panes and outs as cells; their lists of numbers, which are never written in place, in a pool. Laws. -/
set_option linter.unusedVariables false
set_option linter.unusedSimpArgs false
namespace Go.Proofs.YtiglgfonhdfpmaaGreat
open Go.RowKit

/-- A pane with where its top ones lie. -/
structure Pm where
  p : Pn
  ad : Option Addr
  cap : Nat
abbrev Pm.hd (m : Pm) : Value := .slice m.ad m.p.g.top.length m.cap
def Pm.own (m : Pm) : Value × List Int := (m.hd, m.p.g.top)
abbrev pnC (m : Pm) : Array Value := #[textV m.p.w.key, .int .i64 m.p.w.frm, .int .i64 m.p.w.to, .int .i64 m.p.g.n, .int .i64 m.p.g.a, m.hd, .complex .f64 (ib m.p.g.x) (ib m.p.g.y), .int .i64 m.p.round]
abbrev pnV (m : Pm) : Value := .agg (pnC m)
def encP : Enc Pm where
  cells m := (pnC m).toList
  k := 8
  len _ := rfl
  pos := by decide
  one m v hv := by
    simp only [pnC, textV, List.mem_cons, List.not_mem_nil, or_false] at hv
    rcases hv with rfl | rfl | rfl | rfl | rfl | rfl | rfl | rfl <;> rfl
structure Om where
  o : Ot
  ad : Option Addr
  cap : Nat
abbrev Om.hd (m : Om) : Value := .slice m.ad m.o.value.length m.cap
def Om.own (m : Om) : Value × List Int := (m.hd, m.o.value)
abbrev otC (m : Om) : Array Value := #[.bool m.o.late, .int .i64 m.o.item.kind, textV m.o.item.key, .int .i64 m.o.item.time, .int .i64 m.o.item.value, textV m.o.w.key, .int .i64 m.o.w.frm, .int .i64 m.o.w.to, .int .i64 m.o.round, m.hd]
abbrev otV (m : Om) : Value := .agg (otC m)
def encO : Enc Om where
  cells m := (otC m).toList
  k := 10
  len _ := rfl
  pos := by decide
  one m v hv := by
    simp only [otC, textV, List.mem_cons, List.not_mem_nil, or_false] at hv
    rcases hv with rfl | rfl | rfl | rfl | rfl | rfl | rfl | rfl | rfl | rfl <;> rfl

/-- Lists of numbers that lie somewhere, each in its slice. -/
def Pool (H : List (Value × List Int)) : SP where
  on w S := (∀ h ∈ H, IntsRO w h.1 h.2 ∧ (h.2 ≠ [] → ∃ b o n c, h.1 = .slice (some ⟨b, o, none⟩) n c ∧ S b)) ∧ ∀ k, S k → k < w.heap.size
  loc w w' S h hs := by
    have hlt : ∀ k, S k → k < w'.heap.size := fun k hk => by
      have h1 := h.2 k hk
      have e := hs k hk
      rw [Array.getElem?_eq_getElem h1] at e
      exact (Array.getElem?_eq_some_iff.1 e).1
    refine ⟨fun x hx => ⟨?_, (h.1 x hx).2⟩, hlt⟩
    obtain ⟨⟨ad, cap, e1, e2, e3, e4⟩, h2⟩ := h.1 x hx
    refine ⟨ad, cap, e1, e2, e3, fun hl => ?_⟩
    obtain ⟨b, o, g1, g2, g3⟩ := e4 hl
    obtain ⟨b', o', n, c, k1, k2⟩ := h2 hl
    rw [e1, g1] at k1
    have hb : b = b' := by injection k1 with k1 _ _; injection k1 with k1; injection k1
    subst hb
    exact ⟨b, o, g1, hlt b k2, fun i z hi => (World.cell?_of_block (w := w) (hs b k2)).trans (g3 i z hi)⟩
  lt w S k h hk := h.2 k hk

section
variable {S : Nat → Prop} {w0 w w' : World} {l : List SP}
theorem St.pool_nil (h : St S w0 w l) : St S w0 w (Pool [] :: l) :=
  ⟨h.kept, fun _ => False, ⟨fun _ h => by simp at h, fun _ h => h.elim⟩, fun _ h => h.elim, h.sep.mono (fun _ _ h => ⟨h, id⟩)⟩
theorem St.pool_get (h : St S w0 w l) (i : Nat) {H : List (Value × List Int)} (hi : l[i]? = some (Pool H)) {x : Value × List Int} (hx : x ∈ H) : IntsRO w x.1 x.2 := by
  obtain ⟨S1, h1⟩ := Sep.get i hi h.sep
  exact (h1.1 x hx).1
theorem St.pool_sub (h : St S w0 w l) (i : Nat) {H H' : List (Value × List Int)} (hi : l[i]? = some (Pool H)) (hs : ∀ x ∈ H', x ∈ H) : St S w0 w (l.set i (Pool H')) := by
  obtain ⟨S1, h1, h2⟩ := h.turn i hi
  exact h2 (S1' := S1) (Kept.refl _ _) ⟨fun x hx => h1.1 x (hs x hx), h1.2⟩ (fun _ a => .inl a)
/-- A new row of numbers goes into the pool. -/
theorem St.pool_add {t : TypeId} {v : Value} {n : Nat} {xs : List Int} {H : List (Value × List Int)} (h : St S w0 w (Row t 1 v n (intCells xs) :: Pool H :: l)) (hr : IntsRO w v xs) : St S w0 w (Pool ((v, xs) :: H) :: l) := by
  refine ⟨h.kept, ?_⟩
  obtain ⟨S1, h1, h2, S2, h3, h4, h5⟩ := h.sep
  refine ⟨fun k => S1 k ∨ S2 k, ⟨?_, ?_⟩, ?_, h5.mono ?_⟩
  · intro x hx
    rcases List.mem_cons.1 hx with rfl | hx
    · refine ⟨hr, fun hl => ?_⟩
      obtain ⟨ad, cap, e1, e2, e3, e4⟩ := hr
      obtain ⟨b, o, g1, g2, g3⟩ := e4 hl
      refine ⟨b, o, _, _, by rw [e1, g1], .inl ((h1.2 b).2 ?_)⟩
      rw [show v = _ from e1, g1]
      rfl
    · obtain ⟨k1, k2⟩ := h3.1 x hx
      exact ⟨k1, fun hl => by obtain ⟨b, o, n, c, k3, k4⟩ := k2 hl; exact ⟨b, o, n, c, k3, .inr k4⟩⟩
  · rintro k (hk | hk)
    · exact (h1.1.lt k ((h1.2 k).1 hk)).2
    · exact h3.2 k hk
  · rintro k (hk | hk)
    · exact h2 k hk
    · exact (h4 k hk).1
  · rintro k _ ⟨⟨a, b⟩, c⟩
    exact ⟨a, by rintro (d | d); exact b d; exact c d⟩
/-- Two pools are one. -/
theorem St.pool_join {H H' : List (Value × List Int)} (h : St S w0 w (Pool H :: Pool H' :: l)) : St S w0 w (Pool (H ++ H') :: l) := by
  refine ⟨h.kept, ?_⟩
  obtain ⟨S1, h1, h2, S2, h3, h4, h5⟩ := h.sep
  refine ⟨fun k => S1 k ∨ S2 k, ⟨?_, ?_⟩, ?_, h5.mono ?_⟩
  · intro x hx
    rcases List.mem_append.1 hx with hx | hx
    · obtain ⟨k1, k2⟩ := h1.1 x hx
      exact ⟨k1, fun hl => by obtain ⟨b, o, n, c, k3, k4⟩ := k2 hl; exact ⟨b, o, n, c, k3, .inl k4⟩⟩
    · obtain ⟨k1, k2⟩ := h3.1 x hx
      exact ⟨k1, fun hl => by obtain ⟨b, o, n, c, k3, k4⟩ := k2 hl; exact ⟨b, o, n, c, k3, .inr k4⟩⟩
  · rintro k (hk | hk)
    · exact h1.2 k hk
    · exact h3.2 k hk
  · rintro k (hk | hk)
    · exact h2 k hk
    · exact (h4 k hk).1
  · rintro k _ ⟨⟨a, b⟩, c⟩
    exact ⟨a, by rintro (d | d); exact b d; exact c d⟩
end

/-- Panes that can be read, with their top ones. -/
def PnsRO (w : World) (v : Value) (l : List Pn) : Prop := ∃ ms : List Pm, ms.map (·.p) = l ∧ encP.RO w v ms ∧ ∀ m ∈ ms, IntsRO w m.hd m.p.g.top
theorem PnsRO.later {w w' : World} {v : Value} {l : List Pn} (hv : PnsRO w v l) (hk : Kept (fun _ => False) w w') : PnsRO w' v l := by
  obtain ⟨ms, h1, h2, h3⟩ := hv
  exact ⟨ms, h1, h2.later hk, fun m hm => (h3 m hm).later hk⟩
def OtsRO (w : World) (v : Value) (l : List Ot) : Prop := ∃ ms : List Om, ms.map (·.o) = l ∧ encO.RO w v ms ∧ ∀ m ∈ ms, IntsRO w m.hd m.o.value
theorem OtsRO.later {w w' : World} {v : Value} {l : List Ot} (hv : OtsRO w v l) (hk : Kept (fun _ => False) w w') : OtsRO w' v l := by
  obtain ⟨ms, h1, h2, h3⟩ := hv
  exact ⟨ms, h1, h2.later hk, fun m hm => (h3 m hm).later hk⟩
theorem PnsRO.nil (w : World) : PnsRO w (.slice none 0 0) [] := ⟨[], rfl, Enc.RO.nil w, fun _ h => by simp at h⟩
theorem OtsRO.nil (w : World) : OtsRO w (.slice none 0 0) [] := ⟨[], rfl, Enc.RO.nil w, fun _ h => by simp at h⟩
/-- The panes of a call's own can be read. -/
theorem St.pnsRO {S : Nat → Prop} {w0 w : World} {L : List SP} (h : St S w0 w L) (i j : Nat) {t : TypeId} {v : Value} {ms : List Pm} {H : List (Value × List Int)} (hi : L[i]? = some (Row t 8 v ms.length (encP.all ms))) (hj : L[j]? = some (Pool H)) (hm : ∀ m ∈ ms, m.own ∈ H) : PnsRO w v (ms.map (·.p)) :=
  ⟨ms, rfl, Enc.own encP (h.row i hi) rfl, fun m hx => h.pool_get j hj (hm m hx)⟩
theorem St.otsRO {S : Nat → Prop} {w0 w : World} {L : List SP} (h : St S w0 w L) (i j : Nat) {t : TypeId} {v : Value} {ms : List Om} {H : List (Value × List Int)} (hi : L[i]? = some (Row t 10 v ms.length (encO.all ms))) (hj : L[j]? = some (Pool H)) (hm : ∀ m ∈ ms, m.own ∈ H) : OtsRO w v (ms.map (·.o)) :=
  ⟨ms, rfl, Enc.own encO (h.row i hi) rfl, fun m hx => h.pool_get j hj (hm m hx)⟩

end Go.Proofs.YtiglgfonhdfpmaaGreat

/- append of noughts (append(x, make(..)..)) onto a row of the call's own, of one cell an element. Laws over any program. -/
set_option linter.unusedVariables false
set_option linter.unusedSimpArgs false
namespace Go.Proofs.YtiglgfonhdfpmaaGreat
open Go.RowKit

theorem zeroCells_one (z : Value) (hz : z.cells = #[z]) (n : Nat) : (Builtin.zeroCells z.cells n).toList = List.replicate n z := by
  rw [hz]
  refine List.ext_getElem? fun i => ?_
  simp only [Builtin.zeroCells, List.size_toArray, List.length_singleton, Nat.mul_one, Array.toList_map, Array.toList_range, List.getElem?_map, Nat.mod_one]
  by_cases h : i < n
  · simp [h]
  · simp [h]
section
variable {P : Program} {S : Nat → Prop} {w0 w : World} {l L : List SP}
/-- append of noughts behind a row's beginning, more than its capacity: a new row. -/
theorem run_zeros_grow (w : World) (t tn ty e : TypeId) (i : TypeInfo) (z : Value) (kn : IntKind) (ht : P.underlying t = some (.slice e)) (htn : P.underlying tn = some (.int kn)) (hi : P.info? e = some i) (hz : i.zero = some z)
    (k m cap : Nat) (g : Nat) (vs : List Value) (hv : vs.length = k * i.size) (hsrc : ∀ j v, vs[j]? = some v → w.cell? ⟨g, j, none⟩ = some v) (h0 : 0 < m) (hs : 0 < i.size) (hcap : cap < k + m) (h63 : k + m ≤ 9223372036854775807) (h48 : ((k + m) + (k + m) / 4 + 192) * i.bytes ≤ 281474976710656) :
    (Builtin.append_ #[t, tn] ty #[.slice (some ⟨g, 0, none⟩) k cap, .int .i64 m]).run P w =
      .ok (.slice (some ⟨w.heap.size, 0, none⟩) (k + m) (grownCap w (k + m) cap e)) (w.drew.alloc (.cells (vs.toArray ++ Builtin.zeroCells z.cells m ++ Builtin.zeroCells z.cells (grownCap w (k + m) cap e - (k + m))) e)) := by
  have hw : IntKind.i64.wrap (m : Int) = m := by rw [IntKind.wrap_i64]; omega
  have h48' : ¬ (281474976710656 < Builtin.nextslicecap (k + m) cap * i.bytes) := by have := growslice_fits_wide (bytes := i.bytes) hcap h48; omega
  have hmb : m * i.bytes ≤ 281474976710656 := Nat.le_trans (Nat.mul_le_mul_right _ (by omega)) h48
  have h48i : ¬ (281474976710656 < (m : Int) * (i.bytes : Int)) := by
    rw [← Int.natCast_mul]
    omega
  have hneg : ¬ ((m : Int) < 0) := by omega
  have hns : ¬ (m * i.size = 0) := Nat.mul_ne_zero (by omega) (by omega)
  have hc2 : ¬ (k + m ≤ cap) := by omega
  have h63' : ¬ (9223372036854775807 < (k : Int) + (m : Int)) := by omega
  have hl := run_loadCells_list (P := P) w.drew ⟨g, 0, none⟩ vs (fun j v hj => by rw [Addr.add_lit, Nat.zero_add]; exact hsrc j v hj)
  rw [hv] at hl
  simp [Builtin.append_, run_underlying ht, run_underlying htn, sizeOf, typeInfo, zeroValue, hi, hz, asInt, asIntOf, hw, hneg, hns, h63', h48', h48i, hc2, Question.forced, Builtin.firstCells, hl, newRow, grownCap]
/-- A row in a block that holds more. -/
theorem St.blkRow' {g : Nat} {cs : Array Value} {e : TypeId} (H : St S w0 w (Blk g cs e :: L)) {n c size : Nat} (xs : List Value) (hn : xs.length = n * size) (hc : cs.size = c * size) (hnc : n ≤ c) (hm : c ≤ maxLen) (hx : cs.toList.take (n * size) = xs) :
    St S w0 w (Row e size (.slice (some ⟨g, 0, none⟩) n c) n xs :: L) := by
  obtain ⟨h, S1, h1, h2, h3⟩ := H
  refine ⟨h, S1, ⟨⟨hn, .inr ⟨g, c, cs, rfl, Nat.zero_le _, h1.1, hnc, hm, hc, hx⟩⟩, fun k => ?_⟩, h2, h3⟩
  rw [h1.2 k]
  simp [Value.ownBlock, eq_comm]
/-- append of m noughts. -/
theorem St.run_zeros {e : TypeId} {v : Value} {n m : Nat} {xs : List Value} (H : St S w0 w (Row e 1 v n xs :: L)) {t tn ty : TypeId} {kn : IntKind} {z : Value} {bytes : Nat} (ht : P.underlying t = some (.slice e)) (htn : P.underlying tn = some (.int kn))
    (hinfo : (P.info? e).map (fun i => (i.zero, i.size, i.bytes)) = some (some z, 1, bytes)) (hz1 : z.cells = #[z]) (ho : z.oneCell' = true) (h0 : 0 < m) (h48 : ((n + m) + (n + m) / 4 + 192) * bytes ≤ 281474976710656) (hb : 0 < bytes) :
    ∃ v' w', (Builtin.append_ #[t, tn] ty #[v, .int .i64 m]).run P w = .ok v' w' ∧ St S w0 w' (Row e 1 v' (n + m) (xs ++ List.replicate m z) :: L) ∧ w.heap.size ≤ w'.heap.size := by
  obtain ⟨ti, hti, hz, hsz, hby⟩ := info_parts hinfo
  subst hby
  have hle : n + m ≤ 281474976710656 := by have := Nat.le_mul_of_pos_right ((n + m) + (n + m) / 4 + 192) hb; omega
  have hro := H.row 0 rfl
  have hxl := hro.1
  have H0 : St S w0 w L := H.tail
  rcases hro.2 with ⟨rfl, rfl⟩ | ⟨g, cap, cur, rfl, _, hg, hnc, hcm, hcs, htake⟩
  · obtain rfl : xs = [] := List.eq_nil_of_length_eq_zero (by simpa using hxl)
    have h1 : m * ti.bytes ≤ 281474976710656 := Nat.le_trans (Nat.mul_le_mul_right _ (by omega)) h48
    have hr := Lib.run_append_nil_zeros (P := P) w t tn ty e ti z .i64 kn ht htn hti hz m h0 (by omega) (by omega) h1
    have hge := grownCap_ge w m 0 e
    have hcm : grownCap w m 0 e ≤ maxLen := grownCap_le_maxLen w m 0 e (by unfold maxLen; omega)
    rw [Nat.zero_add]
    refine ⟨_, _, hr, ?_, by simp⟩
    refine St.blkRow' (H0.drew.alloc _ e) _ (by simp) ?_ hge hcm ?_
    · simp only [Array.size_append, size_zeroCells, hz1, List.size_toArray, List.length_singleton]
      omega
    · rw [Array.toList_append, zeroCells_one z hz1, zeroCells_one z hz1]
      simp
  · have hrb : (Blk g cur e).on w (fun k => (Value.slice (some ⟨g, 0, none⟩) n cap).ownBlock = some k) := ⟨hg, fun k => by simp [Value.ownBlock, eq_comm]⟩
    have HB : St S w0 w (Blk g cur.toList.toArray e :: L) := by
      obtain ⟨hk, S1, h1, h2, h3⟩ := H
      exact ⟨hk, S1, ⟨by simpa using hg, fun k => (h1.2 k).trans (by simp [Value.ownBlock, eq_comm])⟩, h2, h3⟩
    have hcl : cur.toList.length = cap := by simpa using hcs
    by_cases hroom : n + m ≤ cap
    · have hfit : n + (List.replicate m z).length ≤ cur.toList.length := by simp; omega
      have hmay := mayCells_there (mayCells_blk hg (o := n) (n := m) (by omega))
      have hst := run_storeCells_cells (P := P) g n (List.replicate m z) 0 w (fun j hj => by simpa using (hmay j (by simpa using hj)).1) (fun j hj => by simpa using (hmay j (by simpa using hj)).2) (fun u hu => by rw [(List.mem_replicate.1 hu).2]; exact ho)
      simp only [Nat.add_zero] at hst
      have hw : IntKind.i64.wrap (m : Int) = m := by rw [IntKind.wrap_i64]; omega
      have hneg : ¬ ((m : Int) < 0) := by omega
      have hns : ¬ (m = 0) := by omega
      have h48i : ¬ (281474976710656 < (m : Int) * (ti.bytes : Int)) := by
        have := Nat.le_trans (Nat.mul_le_mul_right ti.bytes (show m ≤ (n + m) + (n + m) / 4 + 192 by omega)) h48
        rw [← Int.natCast_mul]
        omega
      have hzl := zeroCells_one z hz1 m
      have hr : (Builtin.append_ #[t, tn] ty #[.slice (some ⟨g, 0, none⟩) n cap, .int .i64 m]).run P w = .ok (.slice (some ⟨g, 0, none⟩) (n + m) cap) (w.setCells g n (List.replicate m z)) := by
        have hst2 : (storeCells ⟨g, n, none⟩ (List.replicate m z)).run P w = .ok () (w.setCells g n (List.replicate m z)) := hst
        simp [Builtin.append_, run_underlying ht, run_underlying htn, sizeOf, typeInfo, zeroValue, hti, hz, asInt, asIntOf, hw, hneg, hns, h48i, hroom, hsz, Addr.add_lit, hzl, hst2]
      have H2 := St.setCells 0 (List.replicate m z) n cur.toList w _ HB rfl hfit
      refine ⟨_, _, hr, ?_, by rw [setCells_size']; exact Nat.le_refl _⟩
      refine St.blkRow' H2 _ (by rw [List.length_append, hxl]; simp) (by simp [splice_len _ _ _ hfit, hcs]) hroom hcm ?_
      refine List.ext_getElem? fun j => ?_
      rw [Nat.mul_one, List.getElem?_take]
      simp only [List.getElem?_append]
      have hg2 := splice_get cur.toList n (List.replicate m z) hfit j
      rw [Nat.mul_one] at htake hxl
      rw [List.length_replicate] at hg2
      by_cases h1 : j < n
      · rw [if_pos (by omega), if_pos (by omega), hg2, if_pos h1, ← htake, List.getElem?_take_of_lt h1]
      · rw [if_neg (show ¬ j < xs.length by omega)]
        by_cases h2 : j < n + m
        · rw [if_pos h2, hg2, if_neg h1, if_pos h2, hxl]
        · rw [if_neg h2, List.getElem?_eq_none (by simp; omega)]
    · have hr := run_zeros_grow (P := P) w t tn ty e ti z kn ht htn hti hz n m cap g xs (by rw [hsz]; exact hxl) (fun j u hj => own_cell hro hj) h0 (by omega) (by omega) (by omega) h48
      have hge := grownCap_ge w (n + m) cap e
      have hcm : grownCap w (n + m) cap e ≤ maxLen := grownCap_le_maxLen w (n + m) cap e (by unfold maxLen; omega)
      refine ⟨_, _, hr, ?_, by simp⟩
      refine St.blkRow' (H0.drew.alloc _ e) _ (by rw [List.length_append, hxl]; simp) ?_ hge hcm ?_
      · simp only [Array.size_append, size_zeroCells, hz1, List.size_toArray, List.length_singleton]
        omega
      · rw [Array.toList_append, Array.toList_append, zeroCells_one z hz1, zeroCells_one z hz1]
        rw [List.take_append_of_le_length (by simp; omega), List.take_of_length_le (by simp; omega)]
/-- append of noughts at a plain region's operation. -/
theorem St.list_zeros1 {e : TypeId} {v : Value} {n m : Nat} {xs : List Value} (H : St S w0 w (Row e 1 v n xs :: L)) {ops : Array Oper} {rest : List Oper} {o : Oper} {a : Act} {Q : Exit → Act → World → Prop} (hgd : o.guard = none) (x y : Operand) (t tn : TypeId)
    (hop : o.op = .call { callee := .builtin .append, args := #[x, y], argTypes := #[t, tn] }) {kn : IntKind} {z : Value} {bytes : Nat} (ht : P.underlying t = some (.slice e)) (htn : P.underlying tn = some (.int kn))
    (hinfo : (P.info? e).map (fun i => (i.zero, i.size, i.bytes)) = some (some z, 1, bytes)) (hz1 : z.cells = #[z]) (ho : z.oneCell' = true) (h48 : ((n + m) + (n + m) / 4 + 192) * bytes ≤ 281474976710656) (hb : 0 < bytes)
    (hx : a.eval x = v) (hy : a.eval y = .int .i64 m)
    (h : ∀ v' w', St S w0 w' (Row e 1 v' (n + m) (xs ++ List.replicate m z) :: L) → w.heap.size ≤ w'.heap.size → wpList P ops Q rest (a.put o.dst v') w') :
    wpList P ops Q (o :: rest) a w := by
  have key : ∃ v' w', (Builtin.append_ #[t, tn] o.type #[v, .int .i64 m]).run P w = .ok v' w' ∧ St S w0 w' (Row e 1 v' (n + m) (xs ++ List.replicate m z) :: L) ∧ w.heap.size ≤ w'.heap.size := by
    by_cases h0 : 0 < m
    · exact H.run_zeros ht htn hinfo hz1 ho h0 h48 hb
    · obtain rfl : m = 0 := by omega
      obtain ⟨ti, hti, hz, hsz, hby⟩ := info_parts hinfo
      obtain ⟨ao, cap, rfl, hle, _⟩ := slice_form' (H.row 0 rfl)
      have hw : IntKind.i64.wrap 0 = 0 := by rw [IntKind.wrap_i64]; omega
      refine ⟨.slice ao n cap, w, ?_, by simpa using H, Nat.le_refl _⟩
      have hn : ¬ ((0 : Int) < 0) := by omega
      cases ao <;> simp [Builtin.append_, run_underlying ht, run_underlying htn, sizeOf, typeInfo, hti, asInt, asIntOf, hw, hle, storeCells]
  obtain ⟨v', w', hr, h2, h3⟩ := key
  refine wpList_plain hgd fun _ hK => ?_
  unfold Oper.wp execOp
  simp only [hop, resolve, invoke, builtin, Sem.run_bind, Sem.run_pure, Result.andThen_ok, List.map_toArray, List.map_cons, List.map_nil, hx, hy, hr]
  exact hK _ _ (h v' w' h2 h3)
end

end Go.Proofs.YtiglgfonhdfpmaaGreat

/- slices.Grow and slices.Concat at ints. -/
set_option linter.unusedVariables false
set_option linter.unusedSimpArgs false
namespace Go.Proofs.YtiglgfonhdfpmaaGreat
open Go.RowKit

theorem St.row_cut {S : Nat → Prop} {w0 w : World} {l : List SP} (h : St S w0 w l) (i : Nat) {e : TypeId} {size : Nat} {g n cap k : Nat} {xs : List Value} (hi : l[i]? = some (Row e size (.slice (some ⟨g, 0, none⟩) n cap) n xs)) (hn : n ≠ 0) (hk : k ≤ n) :
    St S w0 w (l.set i (Row e size (.slice (some ⟨g, 0, none⟩) k cap) k (xs.take (k * size)))) := by
  obtain ⟨g', cap', R, hv, hnc, hcm, hxl, hcs, HB⟩ := h.row_blk i hi hn
  simp only [Value.slice.injEq, Option.some.injEq, Addr.mk.injEq, and_true, true_and] at hv
  obtain ⟨rfl, rfl⟩ := hv
  have hl : i < l.length := by
    rcases Nat.lt_or_ge i l.length with h | h
    · exact h
    · rw [List.getElem?_eq_none h] at hi; cases hi
  have hm := Nat.mul_le_mul_right size hk
  have := HB.blk_row i (e := e) (size := size) (cap := cap) (n := k) (cs := xs ++ R) (xs := xs.take (k * size)) (by rw [List.getElem?_set_self hl]) (by omega) hcm hcs (by rw [List.take_append_of_le_length (by omega)])
  rwa [List.set_set] at this
set_option maxHeartbeats 1000000 in
set_option maxRecDepth 100000 in
theorem ints_grow {n : Nat} (hn : n ≤ 1073741824) (w : World) : Calls Tryz.prog 306 #[.slice none 0 0, .int .i64 n] w fun e w' => ∃ v', e = .returned v' ∧ St (fun _ => False) w w' [Row 3 1 v' 0 []] := by
  have H0 : St (fun _ => False) w w [Row 3 1 (.slice none 0 0) 0 []] := (St.nil (fun _ => False) w).row_nil 3 1
  have z1 : decide ((n : Int) < 0) = false := by simp
  by_cases h : 0 < n
  · have z2 : decide ((0 : Int) < n) = true := by simpa using h
    go_enter Tryz.func306, Tryz.ntmps306
    go_wp2_with (at_builtin; go_must (refine St.list_zeros1 (m := n) (z := .int .i64 0) H0 rfl (.tmp 20) (.tmp 21) 33 3 rfl Tryz.underlying33 Tryz.underlying3 Tryz.info3 rfl rfl (by omega) (by omega) rfl rfl ?_; intro v2 w2 H2 hz; obtain ⟨g2, c2, rfl⟩ : ∃ g c, v2 = .slice (some ⟨g, 0, none⟩) (0 + n) c := (by obtain ⟨g, cap, R, hv, _⟩ := H2.row_blk 0 rfl (by omega); exact ⟨g, cap, hv⟩)))
    go_ret
    exact ⟨_, rfl, by simpa using H2.row_cut 0 (k := 0) rfl (by omega) (by omega)⟩
  · obtain rfl : n = 0 := by omega
    go_enter Tryz.func306, Tryz.ntmps306
    go_wp2
    go_ret
    exact ⟨_, rfl, H0⟩

theorem IntsRO.news {w w1 : World} {ad : Option Addr} {n cap : Nat} {l : List Int} (h : IntsRO w (.slice ad n cap) l) (hk : Kept (fun _ => False) w w1) : n = l.length ∧ (ad = none → n = 0) ∧ ∀ p, ad = some p → ∀ j u, (intCells l)[j]? = some u → w1.cell? (p.add j) = some u := by
  have h := h.later hk
  obtain ⟨ad', cap', e, h1, h2, h3⟩ := h
  simp only [Value.slice.injEq] at e
  obtain ⟨rfl, rfl, rfl⟩ := e
  refine ⟨rfl, fun e => ?_, fun p hp j u hj => ?_⟩
  · by_cases h0 : l = []
    · rw [h0]; rfl
    · obtain ⟨b, o, e2, _⟩ := h3 h0
      rw [e] at e2
      cases e2
  · have hjl : j < l.length := by have := (List.getElem?_eq_some_iff.1 hj).1; simpa [intCells] using this
    obtain ⟨b, o, e2, hb, hc⟩ := h3 (by rintro rfl; simp at hjl)
    rw [hp] at e2
    cases e2
    have := hc j l[j] (List.getElem?_eq_getElem hjl)
    have e2 : u = .int .i64 l[j] := by
      have : (intCells l)[j]? = some (.int .i64 l[j]) := by simp [intCells, hjl]
      rw [hj] at this
      exact Option.some.inj this
    rw [e2, Addr.add_mid, this]
theorem intCells_append (a b : List Int) : intCells (a ++ b) = intCells a ++ intCells b := by simp [intCells]
set_option maxHeartbeats 4000000 in
set_option maxRecDepth 100000 in
theorem ints_concat {h1 h2 : Value} {a b : List Int} {g : Nat} (w : World) (hg : g < w.heap.size) (x0 : w.cell? ⟨g, 0, none⟩ = some h1) (x1 : w.cell? ⟨g, 1, none⟩ = some h2) (ha : IntsRO w h1 a) (hb : IntsRO w h2 b) (hl : a.length + b.length ≤ 1073741824) :
    Calls Tryz.prog 286 #[.slice (some ⟨g, 0, none⟩) 2 2] w fun e w' => ∃ v', e = .returned v' ∧ St (fun _ => False) w w' [Row 3 1 v' (a.length + b.length) (intCells (a ++ b))] := by
  have ha0 := ha
  have hb0 := hb
  obtain ⟨a1, c1, rfl, -⟩ := ha
  obtain ⟨a2, c2, rfl, -⟩ := hb
  obtain ⟨T, hT⟩ : ∃ T, a.length + b.length = T := ⟨_, rfl⟩
  have hTi : (a.length : Int) + (b.length : Int) = (T : Int) := by omega
  have kg := fun w' => ints_grow (n := T) (by omega) w'
  have n1 : IntKind.i64.wrap (a.length : Int) = a.length := by rw [IntKind.wrap_i64]; omega
  have n2 : IntKind.i64.wrap (T : Int) = T := by rw [IntKind.wrap_i64]; omega
  have n3 : decide ((a.length : Int) < 0) = false := by simp
  have n4 : decide ((T : Int) < 0) = false := by simp
  have hcat := intCells_append a b
  have o1 := one_ints a
  have o2 := one_ints b
  have l1 : (intCells a).length = a.length * 1 := by simp [intCells]
  have l2 : (intCells b).length = b.length * 1 := by simp [intCells]
  go_enter Tryz.func286, Tryz.ntmps286
  go_upto_block 1 with (fail)
  go_loopw [3, 11] (fun s j wr => ((j = .int .i64 0 ∧ s = .int .i64 0) ∨ (j = .int .i64 1 ∧ s = .int .i64 a.length) ∨ (j = .int .i64 2 ∧ s = .int .i64 T)) ∧ wr = w) (fun _ j _ => 2 - (intOf j).toNat)
  case atStart => exact ⟨.inl ⟨rfl, rfl⟩, rfl⟩
  case round =>
    obtain ⟨⟨rfl, rfl⟩ | ⟨rfl, rfl⟩ | ⟨rfl, rfl⟩, rfl⟩ := hrel
    · go_wp2
      go_roundw
      case rel => exact ⟨.inr (.inl ⟨by first | rfl | go_num, by first | rfl | go_num⟩), by first | rfl | trivial⟩
      case measure => simp [intOf]
    · go_wp2
      go_roundw
      case rel => exact ⟨.inr (.inr ⟨by first | rfl | go_num, by first | rfl | go_num⟩), by first | rfl | trivial⟩
      case measure => simp [intOf]
    · obtain ⟨wn, hwn⟩ : ∃ wn, wn = wr := ⟨_, rfl⟩
      subst hwn
      go_upto_block 3 with (go_at_call 306; go_must (refine (kg _).mono ?_; rintro e w2 ⟨v2, rfl, H2⟩))
      go_loopw [6, 27] (fun u j wz => ∃ (k : Nat) (xs : List Int), ((j = .int .i64 0 ∧ k = 0 ∧ xs = []) ∨ (j = .int .i64 1 ∧ k = a.length ∧ xs = a) ∨ (j = .int .i64 2 ∧ k = T ∧ xs = a ++ b)) ∧ St (fun _ => False) wn wz [Row 3 1 u k (intCells xs)]) (fun _ j _ => 2 - (intOf j).toNat)
      case atStart => exact ⟨0, [], .inl ⟨rfl, rfl, rfl⟩, H2⟩
      case round =>
        clear H2
        obtain ⟨k, xs, ⟨rfl, rfl, rfl⟩ | ⟨rfl, rfl, rfl⟩ | ⟨rfl, rfl, rfl⟩, HM⟩ := hrel
        · have y0 := (World.cell?_of_block (w := wn) (a := ⟨g, 0, none⟩) (HM.kept.block g hg id)).trans x0
          obtain ⟨-, hA, hnews⟩ := ha0.news HM.kept
          have hbb : (0 + a.length) * 8 ≤ 140737488355328 := by omega
          clear hcat
          go_wp2_with (at_builtin; go_must (refine St.list_add HM 0 rfl rfl (.tmp 31) (.tmp 32) 33 rfl Tryz.underlying33 Tryz.info3 (by decide) rfl (intCells a) rfl l1 hA hnews o1 hbb ?_; intro v' w1 H1 hz))
          go_roundw
          case rel => exact ⟨a.length, a, .inr (.inl ⟨by first | rfl | go_num, rfl, rfl⟩), by simpa [intCells] using H1⟩
          case measure => simp [intOf]
        · have y0 := (World.cell?_of_block (w := wn) (a := ⟨g, 1, none⟩) (HM.kept.block g hg id)).trans x1
          obtain ⟨-, hA, hnews⟩ := hb0.news HM.kept
          have hbb : (xs.length + b.length) * 8 ≤ 140737488355328 := by omega
          have hch := Lib.hid hcat
          have hTh := Lib.hid hT
          clear hcat hT
          go_wp2_with (at_builtin; go_must (refine St.list_add HM 0 rfl rfl (.tmp 31) (.tmp 32) 33 rfl Tryz.underlying33 Tryz.info3 (by decide) rfl (intCells b) rfl l2 hA hnews o2 hbb ?_; intro v' w1 H1 hz))
          go_roundw
          case rel =>
            refine ⟨T, xs ++ b, .inr (.inr ⟨by first | rfl | go_num, rfl, rfl⟩), ?_⟩
            rw [hch.out, ← hTh.out]
            exact H1
          case measure => simp [intOf]
        · go_wp2
          go_ret
          refine ⟨_, rfl, ?_⟩
          rw [hT]
          exact HM
end Go.Proofs.YtiglgfonhdfpmaaGreat

/- slices.Clone at panes, the operator's copied and windows. Condition: so many. -/
set_option linter.unusedVariables false
set_option linter.unusedSimpArgs false
namespace Go.Proofs.YtiglgfonhdfpmaaGreat
open Go.RowKit

abbrev pnZ : Value := .agg #[.string ⟨#[]⟩, .int .i64 0, .int .i64 0, .int .i64 0, .int .i64 0, .slice none 0 0, .complex .f64 0 0, .int .i64 0]
theorem Tryz.info68 : (Tryz.prog.info? 68).map (fun i => (i.zero, i.size, i.bytes)) = some (some pnZ, 8, 96) := by kernel_rfl
set_option maxHeartbeats 1000000 in
set_option maxRecDepth 100000 in
theorem pns_clone {v : Value} {l : List Pm} {w : World} (hv : encP.RO w v l) (hl : l.length ≤ 1073741824) :
    Calls Tryz.prog 125 #[v] w fun e w' => ∃ v', e = .returned v' ∧ St (fun _ => False) w w' [Row 68 8 v' l.length (encP.all l)] := by
  obtain ⟨ad, cap, rfl, h0, hcell⟩ := hv.cells
  cases ad with
  | none =>
    obtain rfl := h0 rfl
    have hq := fun w => Lib.run_eql_slice_nil (P := Tryz.prog) w 43 68 none 0 cap 0 0 Tryz.underlying43
    go_enter Tryz.func125, Tryz.ntmps125
    go_wp2
    go_ret
    exact ⟨_, rfl, (St.nil _ w).row_nil 68 8⟩
  | some a =>
    have hnew : St (fun _ => False) w (w.alloc (.cells #[] 68)) [Row 68 8 (.slice (some ⟨w.heap.size, 0, none⟩) 0 0) 0 []] := by
      refine ⟨(Kept.refl _ _).alloc _, fun k => k = w.heap.size, ⟨?_, fun k => by simp [Value.ownBlock, eq_comm]⟩, fun k h => .inr (by omega), trivial⟩
      exact World.ownsRow_lit w #[] 0 (Nat.zero_le _) (by simp [maxLen]) rfl
    have hnews : ∀ p, some a = some p → ∀ j u, (encP.all l)[j]? = some u → (w.alloc (.cells #[] 68)).cell? (p.add j) = some u := fun p hp j u hj => Lib.cell?_alloc_some _ (hcell p hp j u hj)
    have hlen := encP.all_len l
    have hb : (0 + l.length) * 96 ≤ 140737488355328 := by omega
    have h1 := encP.all_one1 l
    clear hcell h0
    have hq := fun w => Lib.run_eql_slice_nil (P := Tryz.prog) w 43 68 (some a) l.length cap 0 0 Tryz.underlying43
    go_enter Tryz.func125, Tryz.ntmps125
    go_wp2_with (at_builtin; go_must (refine St.list_add hnew 0 rfl rfl (.tmp 5) (.tmp 6) 43 rfl Tryz.underlying43 Tryz.info68 (by decide) rfl (encP.all l) rfl hlen (by intro h; cases h) hnews h1 hb ?_; intro v' w1 H1 hz))
    go_ret
    exact ⟨v', rfl, by simpa using H1⟩

theorem ints_lim {w : World} {v : Value} {l : List Int} (h : IntsRO w v l) : ∀ x ∈ l, -9223372036854775808 ≤ x ∧ x ≤ 9223372036854775807 := by
  obtain ⟨_, _, _, _, h, _⟩ := h
  exact h
theorem set_app3 {α : Type} (A B C : List α) (j : Nat) (v : α) (hj : j < B.length) : (A ++ (B ++ C)).set (A.length + j) v = A ++ (B.set j v ++ C) := by
  rw [List.set_append_right _ _ (by omega), Nat.add_sub_cancel_left, List.set_append_left _ _ hj]
theorem Enc.set1 {α : Type} (E : Enc α) {l : List α} {R : List Value} {i j : Nat} {x x' : α} {v : Value} (hi : l[i]? = some x) (hj : j < E.k) (hx : E.cells x' = (E.cells x).set j v) : (E.all l ++ R).toArray.setIfInBounds (i * E.k + j) v = (E.all (l.set i x') ++ R).toArray := by
  have hlt := (List.getElem?_eq_some_iff.1 hi).1
  have e0 : l = l.take i ++ x :: l.drop (i + 1) := by
    have := (List.getElem?_eq_some_iff.1 hi).2
    rw [← this, List.getElem_cons_drop, List.take_append_drop]
  have e1 : E.all l = E.all (l.take i) ++ (E.cells x ++ E.all (l.drop (i + 1))) := by
    rw [← E.all_cons, ← E.all_app, ← e0]
  have e2 : E.all (l.set i x') = E.all (l.take i) ++ (E.cells x' ++ E.all (l.drop (i + 1))) := by
    rw [← E.all_cons, ← E.all_app, List.set_eq_take_append_cons_drop, if_pos hlt]
  have e3 : (E.all (l.take i)).length = i * E.k := by rw [E.all_len, List.length_take, Nat.min_eq_left (by omega)]
  rw [List.setIfInBounds_toArray, e1, e2, hx, List.append_assoc, List.append_assoc, ← e3, set_app3 _ _ _ _ _ (by rw [E.len]; exact hj)]
  simp [List.append_assoc]
theorem drop_cons_of {α : Type} {l : List α} {i : Nat} {x : α} (h : l[i]? = some x) : l.drop i = x :: l.drop (i + 1) := by
  have := (List.getElem?_eq_some_iff.1 h)
  rw [← this.2, List.getElem_cons_drop]
/-- The cells of a pane that can be read. -/
theorem pn_cells {w w' : World} {b o i : Nat} {x : Pm} (h : w.rangeAt b (o + i * 8) (pnC x).toList) (hb : w'.heap[b]? = w.heap[b]?) :
    w'.cell? ⟨b, o + i * 8, none⟩ = some (textV x.p.w.key) ∧ w'.cell? ⟨b, o + i * 8 + 1, none⟩ = some (.int .i64 x.p.w.frm) ∧ w'.cell? ⟨b, o + i * 8 + 2, none⟩ = some (.int .i64 x.p.w.to) ∧ w'.cell? ⟨b, o + i * 8 + 3, none⟩ = some (.int .i64 x.p.g.n) ∧
    w'.cell? ⟨b, o + i * 8 + 4, none⟩ = some (.int .i64 x.p.g.a) ∧ w'.cell? ⟨b, o + i * 8 + 5, none⟩ = some x.hd ∧ w'.cell? ⟨b, o + i * 8 + 6, none⟩ = some (.complex .f64 (ib x.p.g.x) (ib x.p.g.y)) ∧ w'.cell? ⟨b, o + i * 8 + 7, none⟩ = some (.int .i64 x.p.round) :=
  ⟨Enc.at (E := encP) h hb (j := 0) rfl, Enc.at (E := encP) h hb (j := 1) rfl, Enc.at (E := encP) h hb (j := 2) rfl, Enc.at (E := encP) h hb (j := 3) rfl, Enc.at (E := encP) h hb (j := 4) rfl, Enc.at (E := encP) h hb (j := 5) rfl, Enc.at (E := encP) h hb (j := 6) rfl, Enc.at (E := encP) h hb (j := 7) rfl⟩
/-- The cells of a pane of a block. -/
theorem pn_blk {w : World} {g : Nat} {L : List Pm} {R : List Value} {t : TypeId} (h : w.heap[g]? = some (.cells (encP.all L ++ R).toArray t (0, 0))) {i : Nat} {x : Pm} (hx : L[i]? = some x) :
    w.cell? ⟨g, i * 8, none⟩ = some (textV x.p.w.key) ∧ w.cell? ⟨g, i * 8 + 1, none⟩ = some (.int .i64 x.p.w.frm) ∧ w.cell? ⟨g, i * 8 + 2, none⟩ = some (.int .i64 x.p.w.to) ∧ w.cell? ⟨g, i * 8 + 3, none⟩ = some (.int .i64 x.p.g.n) ∧
    w.cell? ⟨g, i * 8 + 4, none⟩ = some (.int .i64 x.p.g.a) ∧ w.cell? ⟨g, i * 8 + 5, none⟩ = some x.hd ∧ w.cell? ⟨g, i * 8 + 6, none⟩ = some (.complex .f64 (ib x.p.g.x) (ib x.p.g.y)) ∧ w.cell? ⟨g, i * 8 + 7, none⟩ = some (.int .i64 x.p.round) := by
  have key : ∀ c v, (pnC x).toList[c]? = some v → w.cell? ⟨g, i * 8 + c, none⟩ = some v := fun c v hv => by
    have h2 := encP.get hx (show (encP.cells x)[c]? = some v from hv)
    have hlt := (List.getElem?_eq_some_iff.1 h2).1
    refine cell_blk' h ?_
    rw [List.getElem?_toArray, List.getElem?_append_left (show i * 8 + c < _ from hlt)]
    exact h2
  exact ⟨key 0 _ rfl, key 1 _ rfl, key 2 _ rfl, key 3 _ rfl, key 4 _ rfl, key 5 _ rfl, key 6 _ rfl, key 7 _ rfl⟩

set_option maxHeartbeats 4000000 in
set_option maxRecDepth 100000 in
theorem oper_copied {v : Value} {l : List Pn} {w : World} (hv : PnsRO w v l) (hl : l.length ≤ 1073741824) (ht : ∀ p ∈ l, p.g.top.length ≤ 1073741824) :
    Calls Tryz.prog 65 #[v] w fun e w' => ∃ v' ms, e = .returned v' ∧ ms.map (·.p) = l ∧ St (fun _ => False) w w' [Row 68 8 v' ms.length (encP.all ms), Pool (ms.map Pm.own)] := by
  obtain ⟨ms, rfl, hv, hro⟩ := hv
  rw [List.length_map] at hl
  have kcl := pns_clone hv hl
  have hroh := Lib.hid hro
  have hth := Lib.hid (fun m (hm : m ∈ ms) => ht m.p (List.mem_map.2 ⟨m, hm, rfl⟩))
  obtain ⟨ad0, cap0, rfl, -, -⟩ := hv
  clear ht hro
  go_enter Tryz.func65, Tryz.ntmps65
  go_upto_block 1 with (go_at_call 125; go_must (refine kcl.mono ?_; rintro e w2 ⟨v2, rfl, H2⟩; obtain ⟨ad, cap, rfl, hcp, hown⟩ := slice_form' (H2.row 0 rfl)))
  clear kcl
  by_cases hn : ms = []
  · subst hn
    have H3 : St (fun _ => False) w w2 [Pool [], Row 68 8 (.slice ad 0 cap) 0 []] := H2.pool_nil
    go_loopw [4, 9] (fun _ j wr => j = .int .i64 0 ∧ St (fun _ => False) w wr [Pool [], Row 68 8 (.slice ad 0 cap) 0 []]) (fun _ _ _ => 0)
    case atStart => exact ⟨rfl, H3⟩
    case round =>
      clear H2 H3
      obtain ⟨rfl, HM⟩ := hrel
      go_wp2
      go_ret
      exact ⟨_, [], rfl, rfl, HM.pick [1, 0]⟩
  · have hne : ms.length ≠ 0 := fun h => hn (List.eq_nil_of_length_eq_zero h)
    obtain ⟨g, cap', R, hv', hnc, hcm, hxl, hcs, HB⟩ := H2.row_blk 0 rfl hne
    obtain ⟨rfl, rfl⟩ : ad = some ⟨g, 0, none⟩ ∧ cap = cap' := by injection hv' with h1 _ h2; exact ⟨h1, h2⟩
    have HB : St (fun _ => False) w w2 [Blk g (encP.all ms ++ R).toArray 68] := HB
    have HB2 : St (fun _ => False) w w2 [Pool [], Blk g (encP.all ms ++ R).toArray 68] := HB.pool_nil
    clear H2 HB hv' hown hn
    go_loopw [4, 9] (fun _ j wr => ∃ (i : Nat) (L : List Pm), i ≤ ms.length ∧ j = .int .i64 i ∧ Hid (L.map (·.p) = ms.map (·.p)) ∧ Hid (L.drop i = ms.drop i) ∧ St (fun _ => False) w wr [Pool ((L.take i).map Pm.own), Blk g (encP.all L ++ R).toArray 68]) (fun _ j _ => ms.length - (intOf j).toNat)
    case atStart => exact ⟨0, ms, by omega, rfl, Lib.hid rfl, Lib.hid rfl, HB2⟩
    case round =>
      clear HB2
      obtain ⟨i, L, hi, rfl, hM, hD, HM⟩ := hrel
      have hLl : L.length = ms.length := by have := congrArg List.length hM.out; simpa using this
      by_cases hlt : i < ms.length
      · obtain ⟨x, hx⟩ : ∃ x, ms[i]? = some x := ⟨_, List.getElem?_eq_getElem hlt⟩
        have hxL : L[i]? = some x := by
          have e1 : (L.drop i)[0]? = L[i]? := by simp
          have e2 : (ms.drop i)[0]? = ms[i]? := by simp
          rw [← e1, hD.out, e2, hx]
        have hxm := List.mem_of_getElem? hx
        have kc := ints_clone ((hroh.out x hxm).later HM.kept) (hth.out x hxm)
        obtain ⟨-, -, -, -, -, q5, -, -⟩ := pn_blk (HM.blk 1 rfl) hxL
        have f5 := HM.free 1 (i * 8 + 5) rfl
        have hlt2 : (i : Int) < (ms.length : Int) := by omega
        have hro5 := hroh.out x hxm
        have hxLh := Lib.hid hxL
        clear hx hxL hLl
        obtain ⟨⟨⟨xk, xf, xt⟩, ⟨gn, ga, gt, gx, gy⟩, xr⟩, xa, xc⟩ := x
        unfold Pm.hd at q5 kc hro5
        simp only at q5 kc hro5
        go_wp2_with (go_at_call 82; go_must (refine kc.mono ?_; rintro e w5 ⟨v5, rfl, H5⟩; obtain ⟨ax, cx, rfl, -, -⟩ := slice_form' (H5.row 0 rfl); have H6 := HM.call0 H5; have f5 := H6.free 2 (i * 8 + 3 + 2) rfl; have q5 : w5.cell? ⟨g, i * 8 + 3 + 2, none⟩ = some (.slice xa gt.length xc) := (pn_blk (H6.blk 2 rfl) hxLh.out).2.2.2.2.2.1))
        have H7 := H6.set 2 rfl (i * 8 + 3 + 2) (.slice ax gt.length cx)
        rw [show (encP.all L ++ R).toArray.setIfInBounds (i * 8 + 3 + 2) (.slice ax gt.length cx) = (encP.all (L.set i ⟨⟨⟨xk, xf, xt⟩, ⟨gn, ga, gt, gx, gy⟩, xr⟩, ax, cx⟩) ++ R).toArray from encP.set1 (j := 5) hxLh.out (by decide) rfl] at H7
        have H8 := St.pool_add (l := [_]) H7 (ints_own (H7.row 0 rfl) (ints_lim hro5))
        go_roundw
        case rel =>
          have hiL : i < L.length := (List.getElem?_eq_some_iff.1 hxLh.out).1
          refine ⟨i + 1, L.set i ⟨⟨⟨xk, xf, xt⟩, ⟨gn, ga, gt, gx, gy⟩, xr⟩, ax, cx⟩, by omega, by go_num, Lib.hid ?_, Lib.hid ?_, ?_⟩
          · rw [List.map_set, ← hM.out]
            refine List.ext_getElem? fun j => ?_
            rw [List.getElem?_set]
            split
            · rename_i h
              subst h
              rw [if_pos (by simpa using hiL), List.getElem?_map, hxLh.out]
              rfl
            · rfl
          · rw [List.drop_set_of_lt (by omega), ← List.drop_drop, hD.out, List.drop_drop]
          · have e : (L.set i ⟨⟨⟨xk, xf, xt⟩, ⟨gn, ga, gt, gx, gy⟩, xr⟩, ax, cx⟩).take (i + 1) = L.take i ++ [⟨⟨⟨xk, xf, xt⟩, ⟨gn, ga, gt, gx, gy⟩, xr⟩, ax, cx⟩] := take_set1 _ hiL
            rw [e]
            refine H8.pool_sub 0 rfl ?_
            intro y hy
            rw [List.map_append] at hy
            rcases List.mem_append.1 hy with hy | hy
            · exact List.mem_cons_of_mem _ hy
            · simp only [List.map_cons, List.map_nil, List.mem_singleton] at hy
              rw [hy]
              exact List.mem_cons_self
        case measure => simp [intOf]; omega
      · obtain rfl : i = ms.length := by omega
        have hLl2 : L.length = ms.length := by have := congrArg List.length hM.out; simpa using this
        rw [← hLl2, List.take_length] at HM
        go_wp2
        go_ret
        have H9 := HM.blk_row 1 (e := 68) (size := 8) (cap := cap) (n := ms.length) (xs := encP.all L) rfl hnc hcm (by
          rw [List.length_append, encP.all_len, hLl2]
          rw [List.length_append, encP.all_len] at hcs
          exact hcs) (by rw [List.take_append_of_le_length (by rw [encP.all_len, hLl2]; exact Nat.le_refl _), List.take_of_length_le (by rw [encP.all_len, hLl2]; exact Nat.le_refl _)])
        refine ⟨_, rfl, L, hM.out, ?_⟩
        rw [hLl2]
        exact H9.pick [1, 0]

set_option maxHeartbeats 4000000 in
set_option maxRecDepth 100000 in
theorem oper_windows {v : Value} {ms : List Pm} {w : World} (hv : encP.RO w v ms) (hl : ms.length ≤ 1073741824) :
    Calls Tryz.prog 79 #[v] w fun e w' => ∃ v', e = .returned v' ∧ St (fun _ => False) w w' [Row 61 3 v' ms.length (wds (ms.map (·.p.w)))] := by
  obtain ⟨ao, cap, rfl, hcap, hic⟩ := hv
  have H0 : St (fun _ => False) w w [Row 61 3 (.slice none 0 0) 0 (wds (([] : List Pm).map (·.p.w)))] := (St.nil _ w).row_nil 61 3
  have hich := Lib.hid hic
  clear hic
  go_enter Tryz.func79, Tryz.ntmps79
  go_upto_block 1 with (fail)
  go_loopw [3, 5, 8] (fun u _ j wr => ∃ (i : Nat), i ≤ ms.length ∧ j = .int .i64 i ∧ St (fun _ => False) w wr [Row 61 3 u i (wds ((ms.take i).map (·.p.w)))]) (fun _ _ j _ => ms.length - (intOf j).toNat)
  case atStart => exact ⟨0, by omega, rfl, H0⟩
  case round =>
    clear H0
    obtain ⟨i, hi, rfl, HM⟩ := hrel
    by_cases hlt : i < ms.length
    · obtain ⟨b, o, rfl, hb, hc⟩ := hich.out (by intro e; rw [e] at hlt; simp at hlt)
      obtain ⟨x, hx⟩ : ∃ x, ms[i]? = some x := ⟨_, List.getElem?_eq_getElem hlt⟩
      have hc := hc i x hx
      obtain ⟨q0, q1, q2, q3, q4, q5, q6, q7⟩ := pn_cells hc (HM.kept.block b hb id)
      have hsn : (ms.take (i + 1)).map (·.p.w) = (ms.take i).map (·.p.w) ++ [x.p.w] := by rw [take_snoc' hx]; simp
      have hsnh := Lib.hid hsn
      clear hx hc hsn
      obtain ⟨⟨⟨xk, xf, xt⟩, ⟨gn, ga, gt, gx, gy⟩, xr⟩, xa, xc⟩ := x
      unfold textV at q0
      unfold Pm.hd at q5
      simp only at q0 q1 q2 q3 q4 q5 q6 q7 hsnh
      have HA : St (fun _ => False) w _ [_, _] := HM.allocAt rfl #[.string ⟨xk.toArray⟩, .int .i64 xf, .int .i64 xt, .int .i64 gn, .int .i64 ga, .slice xa gt.length xc, .complex .f64 (ib gx) (ib gy), .int .i64 xr] 68
      go_upto_region 5 with (fail)
      obtain ⟨wb, hwb⟩ : ∃ wb, wr.alloc (.cells #[.string ⟨xk.toArray⟩, .int .i64 xf, .int .i64 xt, .int .i64 gn, .int .i64 ga, .slice xa gt.length xc, .complex .f64 (ib gx) (ib gy), .int .i64 xr] 68) = wb := ⟨_, rfl⟩
      obtain ⟨yb, hyb⟩ : ∃ yb, wr.heap.size = yb := ⟨_, rfl⟩
      rw [hwb, hyb] at HA
      try rw [hwb]
      try simp only [hyb]
      have HA2 : St (fun _ => False) w wb [Blk yb #[.string ⟨xk.toArray⟩, .int .i64 xf, .int .i64 xt, .int .i64 gn, .int .i64 ga, .slice xa gt.length xc, .complex .f64 (ib gx) (ib gy), .int .i64 xr] 68, Row 61 3 u3 i (wds ((ms.take i).map (·.p.w)))] := HA
      clear hwb hyb q0 q1 q2 q3 q4 q5 q6 q7 HM HA
      have d0 := HA2.cell 0 0 rfl rfl
      have d1 := HA2.cell 0 1 rfl rfl
      have d2 := HA2.cell 0 2 rfl rfl
      go_wp2_with (at_builtin; go_must (refine St.list_app (HA2.skip _) 1 rfl rfl (.tmp 12) (.tmp 15) 145 rfl Tryz.underlying145 Tryz.info61 (by decide) rfl [.string ⟨xk.toArray⟩, .int .i64 xf, .int .i64 xt] rfl rfl (new_cells #[.string ⟨xk.toArray⟩, .int .i64 xf, .int .i64 xt] _) (by simp [Value.oneCell']) (by omega) (by omega) ?_; intro g5 cap5 w6 H6 hz6))
      go_roundw
      case rel =>
        refine ⟨i + 1, by omega, by go_num, ?_⟩
        have H7 : St (fun _ => False) w w6 [_, _] := H6
        rw [hsnh.out, wds_app, wds_one]
        exact H7.pick [1]
      case measure => simp [intOf]; omega
    · obtain rfl : i = ms.length := by omega
      rw [List.take_length] at HM
      go_wp2
      go_ret
      exact ⟨_, rfl, HM⟩

end Go.Proofs.YtiglgfonhdfpmaaGreat

/- The walks of wins.Compare, Ripe, Gone; ref08.Gone. Conditions: that windows fit. -/
set_option linter.unusedVariables false
set_option linter.unusedSimpArgs false
namespace Go.Proofs.YtiglgfonhdfpmaaGreat
open Go.RowKit

theorem order_or (a b : Wd) : orI [Lib.compareInt a.to b.to, Lib.compareInt a.frm b.frm, Lib.compareBytes a.key b.key] = a.cmp b := by
  unfold Wd.cmp orI
  by_cases h1 : Lib.compareInt a.to b.to = 0
  · by_cases h2 : Lib.compareInt a.frm b.frm = 0
    · by_cases h3 : Lib.compareBytes a.key b.key = 0 <;> simp [h1, h2, h3]
    · simp [h1, h2]
  · simp [h1]
set_option maxHeartbeats 2000000 in
set_option maxRecDepth 100000 in
theorem wd_ripe (x : Wd) (hx : x.fits) (mark : Int) (w : World) : Calls Tryz.prog 129 #[wdV x, .int .i64 mark] w fun e w' => e = .returned (.bool (x.ripe mark)) ∧ Below w.heap.size w w' := by
  have kr := fun w' => wd_right x hx w'
  have hr0 : x.ripe mark = (x.right && decide (x.to ≤ mark)) := rfl
  obtain ⟨nm, hnm⟩ : ∃ nm, x.right = nm := ⟨_, rfl⟩
  rw [hnm] at kr hr0
  clear hnm
  obtain ⟨key, f, u⟩ := x
  have H : St (fun _ => False) w _ [_] := (St.nil (fun _ => False) w).allocAt rfl #[.string ⟨key.toArray⟩, .int .i64 f, .int .i64 u] 61
  simp only at hr0
  have hr := Lib.hid hr0
  unfold wdV wdC textV at kr
  simp only at kr
  unfold wdV wdC textV
  simp only
  have c0 := H.cell 0 0 rfl rfl
  have c1 := H.cell 0 1 rfl rfl
  have c2 := H.cell 0 2 rfl rfl
  go_enter Tryz.func129, Tryz.ntmps129
  cases nm <;> (
    go_wp2_with (go_at_call 146; go_must (refine (St.callPast (kr _) H).mono ?_; rintro e w2 ⟨rfl, H2⟩; clear c0 c1 c2; have c2 := H2.cell 0 2 rfl rfl))
    go_ret
    rw [hr.out]
    exact ⟨ret_bool (by simp), H2.below (Nat.le_refl _) (fun _ h => h.elim)⟩)
set_option maxHeartbeats 2000000 in
set_option maxRecDepth 100000 in
theorem wd_gone (q : Qry) (x : Wd) (hx : x.fits) (mark : Int) (w : World) : Calls Tryz.prog 136 #[qyV q, wdV x, .int .i64 mark] w fun e w' => e = .returned (.bool (x.gone q mark)) ∧ Below w.heap.size w w' := by
  have kr := fun w' => wd_right x hx w'
  have kq := fun w' => query_right q w'
  have hr0 : x.gone q mark = (x.right && q.right && decide (x.to + q.late ≤ mark)) := rfl
  have hn : x.right = true → q.right = true → IntKind.i64.wrap (x.to + q.late) = x.to + q.late := fun h1 h2 => by
    unfold Wd.right at h1
    unfold Qry.right at h2
    simp only [Bool.and_eq_true, decide_eq_true_eq] at h1 h2
    rw [IntKind.wrap_i64]
    omega
  obtain ⟨nm, hnm⟩ : ∃ nm, x.right = nm := ⟨_, rfl⟩
  obtain ⟨nq, hnq⟩ : ∃ nq, q.right = nq := ⟨_, rfl⟩
  rw [hnm] at kr hr0 hn
  rw [hnq] at kq hr0 hn
  clear hnm hnq
  obtain ⟨kd, sz, sl, lt, ag, kk⟩ := q
  obtain ⟨key, f, u⟩ := x
  simp only at hr0 hn
  have hr := Lib.hid hr0
  clear hr0
  unfold wdV wdC textV at kr
  unfold qyV qyC at kq
  simp only at kr kq
  unfold qyV qyC wdV wdC textV
  simp only
  obtain ⟨b, hb⟩ : ∃ g, w.heap.size = g := ⟨_, rfl⟩
  obtain ⟨b2, hb2⟩ : ∃ b2, b + 1 = b2 := ⟨_, rfl⟩
  have H0 : St (fun _ => False) w _ [_] := (St.nil _ w).allocAt hb #[.int .i64 kd, .int .i64 sz, .int .i64 sl, .int .i64 lt, .int .i64 ag, .int .i64 kk] 23
  have H := H0.allocAt (B := b2) (by rw [← hb2, ← hb]; exact Array.size_push _) #[.string ⟨key.toArray⟩, .int .i64 f, .int .i64 u] 61
  obtain ⟨w1, hw1⟩ : ∃ w1, (w.alloc (.cells #[.int .i64 kd, .int .i64 sz, .int .i64 sl, .int .i64 lt, .int .i64 ag, .int .i64 kk] 23)).alloc (.cells #[.string ⟨key.toArray⟩, .int .i64 f, .int .i64 u] 61) = w1 := ⟨_, rfl⟩
  rw [hw1] at H
  go_enter Tryz.func136, Tryz.ntmps136
  go_upto_region 1 with (fail)
  try simp only [hb, hb2]
  try rw [hw1]
  clear hw1 hb hb2 H0
  have c0 := H.cell 0 0 rfl rfl
  have c1 := H.cell 0 1 rfl rfl
  have c2 := H.cell 0 2 rfl rfl
  have d0 := H.cell 1 0 rfl rfl
  cases nm with
  | false =>
    clear hn
    go_wp2_with (go_at_call 146; go_must (refine (St.callPast (kr _) H).mono ?_; clear c0 c1 c2 d0 H; rintro e w2 ⟨rfl, H⟩))
    go_ret
    rw [hr.out]
    exact ⟨ret_bool (by simp), H.below (Nat.le_refl _) (fun _ h => h.elim)⟩
  | true =>
    cases nq with
    | false =>
      clear hn
      go_wp2_with (first
        | (go_at_call 146; go_must (refine (St.callPast (kr _) H).mono ?_; clear c0 c1 c2 d0 H; rintro e w2 ⟨rfl, H⟩; have d0 := H.cell 1 0 rfl rfl; have d1 := H.cell 1 1 rfl rfl; have d2 := H.cell 1 2 rfl rfl; have d3 := H.cell 1 3 rfl rfl; have d4 := H.cell 1 4 rfl rfl; have d5 := H.cell 1 5 rfl rfl))
        | (go_at_call 60; go_must (refine (St.callPast (kq _) H).mono ?_; clear d0 d1 d2 d3 d4 d5 H; rintro e w3 ⟨rfl, H⟩)))
      go_ret
      rw [hr.out]
      exact ⟨ret_bool (by simp), H.below (Nat.le_refl _) (fun _ h => h.elim)⟩
    | true =>
      have hn := hn rfl rfl
      go_wp2_with (first
        | (go_at_call 146; go_must (refine (St.callPast (kr _) H).mono ?_; clear c0 c1 c2 d0 H; rintro e w2 ⟨rfl, H⟩; have d0 := H.cell 1 0 rfl rfl; have d1 := H.cell 1 1 rfl rfl; have d2 := H.cell 1 2 rfl rfl; have d3 := H.cell 1 3 rfl rfl; have d4 := H.cell 1 4 rfl rfl; have d5 := H.cell 1 5 rfl rfl))
        | (go_at_call 60; go_must (refine (St.callPast (kq _) H).mono ?_; clear d0 d1 d2 d3 d4 d5 H; rintro e w3 ⟨rfl, H⟩; have c2 := H.cell 0 2 rfl rfl; have d3 := H.cell 1 3 rfl rfl)))
      go_ret
      rw [hr.out]
      exact ⟨ret_bool (by simp), H.below (Nat.le_refl _) (fun _ h => h.elim)⟩

end Go.Proofs.YtiglgfonhdfpmaaGreat

/- slices.Index and Contains at windows; wins.Has. Condition: so many. -/
set_option linter.unusedVariables false
set_option linter.unusedSimpArgs false
namespace Go.Proofs.YtiglgfonhdfpmaaGreat
open Go.RowKit

set_option maxHeartbeats 2000000 in
set_option maxRecDepth 100000 in
theorem wds_index {v : Value} {l : List Wd} (x : Wd) {w : World} (hv : WdsRO w v l) (hl : l.length ≤ 1073741824) :
    Calls Tryz.prog 256 #[v, wdV x] w fun e w' => ∃ r : Int, e = .returned (.int .i64 r) ∧ ((r = -1 ∧ ∀ y ∈ l, y ≠ x) ∨ (0 ≤ r ∧ x ∈ l)) ∧ Below w.heap.size w w' := by
  obtain ⟨ao, cap, rfl, hcap, hfit, hic⟩ := hv
  have hich := Lib.hid hic
  clear hic hfit
  obtain ⟨xk, xf, xt⟩ := x
  have H0 : St (fun _ => False) w _ [_] := (St.nil (fun _ => False) w).allocAt rfl #[.string ⟨xk.toArray⟩, .int .i64 xf, .int .i64 xt] 61
  unfold wdV wdC textV
  simp only
  go_enter Tryz.func256, Tryz.ntmps256
  go_upto_block 1 with (fail)
  obtain ⟨wb, hwb⟩ : ∃ wb, w.alloc (.cells #[.string ⟨xk.toArray⟩, .int .i64 xf, .int .i64 xt] 61) = wb := ⟨_, rfl⟩
  obtain ⟨xb, hxb⟩ : ∃ xb, w.heap.size = xb := ⟨_, rfl⟩
  rw [hwb, hxb] at H0
  try rw [hwb]
  try simp only [hxb]
  have H1 : St (fun _ => False) w wb [Blk xb #[.string ⟨xk.toArray⟩, .int .i64 xf, .int .i64 xt] 61] := H0
  have hxbh := Lib.hid hxb
  clear hwb hxb H0
  go_loopw [5, 8] (fun _ j wr => ∃ (i : Nat), i ≤ l.length ∧ j = .int .i64 i ∧ Hid (∀ y ∈ l.take i, y ≠ ⟨xk, xf, xt⟩) ∧ St (fun _ => False) w wr [Blk xb #[.string ⟨xk.toArray⟩, .int .i64 xf, .int .i64 xt] 61]) (fun _ j _ => l.length - (intOf j).toNat)
  case atStart => exact ⟨0, by omega, rfl, Lib.hid (by simp), H1⟩
  case round =>
    clear H1
    obtain ⟨i, hi, rfl, hno, HM⟩ := hrel
    by_cases hlt : i < l.length
    · obtain ⟨b, o, rfl, hb, hc⟩ := hich.out (by intro e; rw [e] at hlt; simp at hlt)
      obtain ⟨y, hy⟩ : ∃ y, l[i]? = some y := ⟨_, List.getElem?_eq_getElem hlt⟩
      have hc := hc i y hy
      have hyh := Lib.hid hy
      have hlt2 : (i : Int) < (l.length : Int) := by omega
      have hsn := Lib.hid (take_snoc' hy)
      clear hy
      obtain ⟨yk, yf, yt⟩ := y
      by_cases hall : xk = yk ∧ xf = yf ∧ xt = yt
      · obtain ⟨rfl, rfl, rfl⟩ := hall
        go_upto_region 4 with (fail)
        refine wp_calm (fun w' => St (fun _ => False) w w' [Blk xb #[.string ⟨xk.toArray⟩, .int .i64 xf, .int .i64 xt] 61]) (by kernel_rfl) (by kernel_rfl) (HM.drew) ?_
        iterate 6 first
          | (apply calm_pass
             · rfl
             intro K hK
             go_simp
             refine hK _ ?_
             clear hK K)
          | (apply calm_step
             · rfl
             · intro w1 h1
               have d0 := h1.cell 0 0 rfl rfl
               have d1 := h1.cell 0 1 rfl rfl
               have d2 := h1.cell 0 2 rfl rfl
               obtain ⟨p0, p1, p2⟩ := wd_cells hc (h1.kept.block b hb id)
               unfold textV at p0
               simp only at p0 p1 p2
               first
                 | (go_simp
                    first
                      | rfl
                      | exact ⟨rfl, h1⟩
                   )
             intro K hK
             go_simp
             refine hK _ ?_
             clear hK K)
        refine calm_nil ?_
        intro w2 H2
        go_wp2
        go_ret
        exact ⟨i, rfl, .inr ⟨by omega, List.mem_of_getElem? hyh.out⟩, H2.below (Nat.le_refl _) (fun _ h => h.elim)⟩
      · have hne := Lib.hid (show (⟨yk, yf, yt⟩ : Wd) ≠ ⟨xk, xf, xt⟩ from fun e => hall (by cases e; exact ⟨rfl, rfl, rfl⟩))
        have h3 : (¬ xk = yk) ∨ (xk = yk ∧ ¬ xf = yf) ∨ (xk = yk ∧ xf = yf ∧ ¬ xt = yt) := by
          by_cases h1 : xk = yk
          · by_cases h2 : xf = yf
            · exact .inr (.inr ⟨h1, h2, fun h3 => hall ⟨h1, h2, h3⟩⟩)
            · exact .inr (.inl ⟨h1, h2⟩)
          · exact .inl h1
        clear hall
        rcases h3 with h3 | ⟨rfl, h3⟩ | ⟨rfl, rfl, h3⟩
        all_goals
          go_upto_region 4 with (fail)
          refine wp_calm (fun w' => St (fun _ => False) w w' [Blk xb #[.string ⟨xk.toArray⟩, .int .i64 xf, .int .i64 xt] 61]) (by kernel_rfl) (by kernel_rfl) (HM.drew) ?_
          iterate 6 first
            | (apply calm_pass
               · rfl
               intro K hK
               go_simp
               refine hK _ ?_
               clear hK K)
            | (apply calm_step
               · rfl
               · intro w1 h1
                 have d0 := h1.cell 0 0 rfl rfl
                 have d1 := h1.cell 0 1 rfl rfl
                 have d2 := h1.cell 0 2 rfl rfl
                 obtain ⟨p0, p1, p2⟩ := wd_cells hc (h1.kept.block b hb id)
                 unfold textV at p0
                 simp only at p0 p1 p2
                 first
                   | (go_simp
                      first
                        | rfl
                        | exact ⟨rfl, h1⟩
                     )
               intro K hK
               go_simp
               refine hK _ ?_
               clear hK K)
          refine calm_nil ?_
          intro w2 H2
          go_wp2
          go_roundw
          case rel =>
            refine ⟨i + 1, by omega, by go_num, Lib.hid ?_, H2⟩
            rw [hsn.out]
            intro y hy
            rcases List.mem_append.1 hy with hy | hy
            · exact hno.out y hy
            · rw [List.mem_singleton.1 hy]; exact hne.out
          case measure => simp [intOf]; omega
    · obtain rfl : i = l.length := by omega
      have hnoh := hno.out
      rw [List.take_length] at hnoh
      go_wp2
      go_ret
      exact ⟨-1, rfl, .inl ⟨rfl, hnoh⟩, HM.below (Nat.le_refl _) (fun _ h => h.elim)⟩
set_option maxHeartbeats 2000000 in
set_option maxRecDepth 100000 in
theorem wds_contains {v : Value} {l : List Wd} (x : Wd) {w : World} (hv : WdsRO w v l) (hl : l.length ≤ 1073741824) :
    Calls Tryz.prog 199 #[v, wdV x] w fun e w' => e = .returned (.bool (l.contains x)) ∧ Below w.heap.size w w' := by
  obtain ⟨c, hc⟩ : ∃ c, l.contains x = c := ⟨_, rfl⟩
  have ki := fun w' (hk : Kept (fun _ => False) w w') => (wds_index x (hv.later hk) hl).mono (fun e w2 (h : ∃ r : Int, e = .returned (.int .i64 r) ∧ ((r = -1 ∧ ∀ y ∈ l, y ≠ x) ∨ (0 ≤ r ∧ x ∈ l)) ∧ Below w'.heap.size w' w2) => show ∃ r : Int, e = .returned (.int .i64 r) ∧ decide (0 ≤ r) = c ∧ Below w'.heap.size w' w2 by
    obtain ⟨r, rfl, h | h, hb⟩ := h
    · refine ⟨r, rfl, ?_, hb⟩
      rw [← hc, h.1, Bool.eq_iff_iff]
      simp only [decide_eq_true_eq, List.contains_iff_mem]
      exact ⟨fun h => by omega, fun hm => absurd rfl (h.2 x hm)⟩
    · refine ⟨r, rfl, ?_, hb⟩
      rw [← hc, Bool.eq_iff_iff]
      simp only [decide_eq_true_eq, List.contains_iff_mem]
      exact ⟨fun _ => h.2, fun _ => h.1⟩)
  rw [hc]
  obtain ⟨ao, cap, rfl, -, -, -⟩ := hv
  clear hc
  obtain ⟨xk, xf, xt⟩ := x
  have H0 : St (fun _ => False) w _ [_] := (St.nil (fun _ => False) w).allocAt rfl #[.string ⟨xk.toArray⟩, .int .i64 xf, .int .i64 xt] 61
  have d0 := H0.cell 0 0 rfl rfl
  have d1 := H0.cell 0 1 rfl rfl
  have d2 := H0.cell 0 2 rfl rfl
  unfold wdV wdC textV at ki
  unfold wdV wdC textV
  simp only at ki ⊢
  have kk := ki _ H0.kept
  go_enter Tryz.func199, Tryz.ntmps199
  go_wp2_with (go_at_call 256; go_must (refine kk.mono ?_; rintro e w2 ⟨r, rfl, hr, hb2⟩))
  go_ret
  exact ⟨ret_bool (by simp), (H0.past hb2).below (Nat.le_refl _) (fun _ h => h.elim)⟩

theorem has_eq (x : Wd) (t : Int) : x.has t = (x.right && decide (x.frm ≤ t) && decide (t < x.to)) := rfl
set_option maxHeartbeats 2000000 in
set_option maxRecDepth 100000 in
theorem wd_has (x : Wd) (hx : x.fits) (t : Int) (w : World) : Calls Tryz.prog 195 #[wdV x, .int .i64 t] w fun e w' => e = .returned (.bool (x.has t)) ∧ Below w.heap.size w w' := by
  have kr := fun w' => wd_right x hx w'
  have hr0 := has_eq x t
  obtain ⟨nm, hnm⟩ : ∃ nm, x.right = nm := ⟨_, rfl⟩
  rw [hnm] at kr hr0
  clear hnm
  obtain ⟨key, f, u⟩ := x
  have H : St (fun _ => False) w _ [_] := (St.nil (fun _ => False) w).allocAt rfl #[.string ⟨key.toArray⟩, .int .i64 f, .int .i64 u] 61
  simp only at hr0
  obtain ⟨b1, e1⟩ : ∃ b1, decide (f ≤ t) = b1 := ⟨_, rfl⟩
  obtain ⟨b2, e2⟩ : ∃ b2, decide (t < u) = b2 := ⟨_, rfl⟩
  rw [e1, e2] at hr0
  have hr := Lib.hid hr0
  clear hr0
  unfold wdV wdC textV at kr
  simp only at kr
  unfold wdV wdC textV
  simp only
  have c0 := H.cell 0 0 rfl rfl
  have c1 := H.cell 0 1 rfl rfl
  have c2 := H.cell 0 2 rfl rfl
  go_enter Tryz.func195, Tryz.ntmps195
  cases nm <;> cases b1 <;> cases b2 <;> simp only [decide_eq_true_eq, decide_eq_false_iff_not] at e1 e2 <;> (
    go_wp2_with (go_at_call 146; go_must (refine (St.callPast (kr _) H).mono ?_; rintro e w2 ⟨rfl, H2⟩; clear c0 c1 c2; have c1 := H2.cell 0 1 rfl rfl; have c2 := H2.cell 0 2 rfl rfl))
    go_ret
    rw [hr.out]
    exact ⟨ret_bool (by first | (simp; done) | (simp; omega)), H2.below (Nat.le_refl _) (fun _ h => h.elim)⟩)

end Go.Proofs.YtiglgfonhdfpmaaGreat

/- wins.Of: the windows of a time. Condition: the text and the time fit the machine. -/
set_option linter.unusedVariables false
set_option linter.unusedSimpArgs false
namespace Go.Proofs.YtiglgfonhdfpmaaGreat
open Go.RowKit

/-- The windows from one on, step by step, that have a time. -/
def ofsM (q : Qry) (key : List UInt8) (t F st : Int) : Nat → List Wd
  | 0 => []
  | j + 1 => ofsM q key t F st j ++ (if (⟨key, F + j * st, F + j * st + q.size⟩ : Wd).has t = true then [⟨key, F + j * st, F + j * st + q.size⟩] else [])
theorem ofsM_len (q : Qry) (key : List UInt8) (t F st : Int) : ∀ n, (ofsM q key t F st n).length ≤ n
  | 0 => by simp [ofsM]
  | n + 1 => by
    have := ofsM_len q key t F st n
    rw [ofsM, List.length_append]
    split <;> simp <;> omega
theorem q_size {q : Qry} (h : q.right = true) : (1 ≤ q.kind ∧ q.kind ≤ 3) ∧ (1 ≤ q.size ∧ q.size ≤ 1073741824) ∧ (q.kind = 2 → 1 ≤ q.slide ∧ q.slide ≤ q.size ∧ q.size ≤ 16 * q.slide) ∧ (0 ≤ q.late ∧ q.late ≤ 1073741824) ∧ (1 ≤ q.agg ∧ q.agg ≤ 7) := by
  unfold Qry.right at h
  simp only [Bool.and_eq_true, decide_eq_true_eq] at h
  obtain ⟨⟨⟨⟨⟨h1, h2⟩, h3⟩, h4⟩, h5⟩, h6⟩ := h
  refine ⟨h1, h2, fun hk => ?_, h4, h5⟩
  unfold Qry.slides at h3
  rw [if_pos hk] at h3
  simp only [Bool.and_eq_true, decide_eq_true_eq] at h3
  exact ⟨h3.1.1, h3.1.2, h3.2⟩
theorem wd_made {q : Qry} {key : List UInt8} {t u : Int} (hq : q.right = true) (hk : nameB key = true) (ht : t ≤ 1099511627776) (hu : 0 ≤ u ∧ u ≤ t) : (⟨key, u, u + q.size⟩ : Wd).right = true ∧ (⟨key, u, u + q.size⟩ : Wd).has t = decide (t < u + q.size) := by
  have h1 : (⟨key, u, u + q.size⟩ : Wd).right = true := by
    have := (q_size hq).2.1
    rw [right_iff]
    exact ⟨hk, hu.1, by simp only; omega, by simp only; omega, by simp only; omega⟩
  refine ⟨h1, ?_⟩
  rw [has_eq, h1]
  simp only [Bool.true_and]
  rw [decide_eq_true (by exact hu.2), Bool.true_and]
theorem ofs_slide {q : Qry} {key : List UInt8} {t : Int} (hq : q.right = true) (hk : nameB key = true) (ht : 0 ≤ t ∧ t ≤ 1099511627776) (hs : 1 ≤ q.slide) {f : Nat} (hf : ∀ k : Nat, k < f → ¬ t < (k : Int) * q.slide + q.size) :
    ∀ n : Nat, (∀ i : Nat, i < n → (f : Int) * q.slide + i * q.slide ≤ t) → ofsM q key t ((f : Int) * q.slide) q.slide n = ((List.range (f + n)).filter fun (k : Nat) => decide (t < (k : Int) * q.slide + q.size)).map fun (k : Nat) => (⟨key, (k : Int) * q.slide, (k : Int) * q.slide + q.size⟩ : Wd)
  | 0, _ => by
    rw [ofsM, Nat.add_zero]
    symm
    rw [List.map_eq_nil_iff, List.filter_eq_nil_iff]
    intro k hk2
    simpa using hf k (by simpa using hk2)
  | n + 1, hn => by
    have ih := ofs_slide hq hk ht hs hf n (fun i hi => hn i (by omega))
    have hu := hn n (by omega)
    have e : (f : Int) * q.slide + (n : Int) * q.slide = ((f + n : Nat) : Int) * q.slide := by rw [Int.natCast_add, Int.add_mul]
    have h0 : 0 ≤ ((f + n : Nat) : Int) * q.slide := Int.mul_nonneg (by omega) (by omega)
    rw [e] at hu
    have hm := wd_made hq hk ht.2 (u := ((f + n : Nat) : Int) * q.slide) ⟨h0, hu⟩
    rw [ofsM, ih, e, hm.2, ← Nat.add_assoc, List.range_succ, List.filter_append, List.map_append]
    congr 1
    by_cases hp : t < ((f + n : Nat) : Int) * q.slide + q.size
    · rw [List.filter_cons, decide_eq_true hp]
      simp
    · rw [List.filter_cons, decide_eq_false hp]
      simp
theorem ofs_two {q : Qry} {key : List UInt8} {t : Int} (hq : q.right = true) (hk : nameB key = true) (ht : 0 ≤ t ∧ t ≤ 1099511627776) (h2 : q.kind = 2) {F : Int} (hF : F = max 0 ((t - q.size).tdiv q.slide * q.slide)) {n : Nat} (hn : ∀ i : Nat, i < n → F + i * q.slide ≤ t) (hx : ¬ F + n * q.slide ≤ t) : ofsM q key t F q.slide n = winsOf q key t := by
  obtain ⟨-, hsz, hsl, -, -⟩ := q_size hq
  obtain ⟨hs, hs2, -⟩ := hsl h2
  obtain ⟨f, hf, hf2, hf3⟩ : ∃ f : Nat, F = (f : Int) * q.slide ∧ (∀ k : Nat, k < f → ¬ t < (k : Int) * q.slide + q.size) ∧ F ≤ t := by
    by_cases hlt : t < q.size
    · refine ⟨0, ?_, fun k hk => absurd hk (by omega), ?_⟩
      · have : (t - q.size).tdiv q.slide ≤ 0 := by
          have h1 : (t - q.size).tdiv q.slide = -((q.size - t).tdiv q.slide) := by rw [← Int.neg_tdiv, Int.neg_sub]
          have h2 : 0 ≤ (q.size - t).tdiv q.slide := Int.tdiv_nonneg (by omega) (by omega)
          omega
        have h3 : (t - q.size).tdiv q.slide * q.slide ≤ 0 := Int.mul_nonpos_of_nonpos_of_nonneg this (by omega)
        rw [hF]
        simp only [Int.natCast_zero, Int.zero_mul]
        omega
      · have : (t - q.size).tdiv q.slide ≤ 0 := by
          have h1 : (t - q.size).tdiv q.slide = -((q.size - t).tdiv q.slide) := by rw [← Int.neg_tdiv, Int.neg_sub]
          have h2 : 0 ≤ (q.size - t).tdiv q.slide := Int.tdiv_nonneg (by omega) (by omega)
          omega
        have h3 : (t - q.size).tdiv q.slide * q.slide ≤ 0 := Int.mul_nonpos_of_nonpos_of_nonneg this (by omega)
        rw [hF]
        omega
    · have e1 : (t - q.size).tdiv q.slide = (t - q.size) / q.slide := Int.tdiv_eq_ediv_of_nonneg (by omega)
      have h0 : 0 ≤ (t - q.size) / q.slide := Int.ediv_nonneg (by omega) (by omega)
      have hle : (t - q.size) / q.slide * q.slide ≤ t - q.size := Int.ediv_mul_le _ (by omega)
      have hm0 : 0 ≤ (t - q.size) / q.slide * q.slide := Int.mul_nonneg h0 (by omega)
      refine ⟨((t - q.size) / q.slide).toNat, ?_, fun k hk => ?_, ?_⟩
      · rw [hF, e1, Int.toNat_of_nonneg h0]
        omega
      · have hk2 : (k : Int) + 1 ≤ (t - q.size) / q.slide := by omega
        have := Int.mul_le_mul_of_nonneg_right hk2 (show 0 ≤ q.slide by omega)
        rw [Int.add_mul, Int.one_mul] at this
        omega
      · rw [hF, e1]
        omega
  subst hf
  rw [ofs_slide hq hk ht hs hf2 n hn]
  unfold winsOf slideWs
  rw [if_pos ⟨hq, hk, ht⟩, if_neg (by omega), if_pos h2]
  congr 2
  congr 1
  have hd0 : 0 ≤ t / q.slide := Int.ediv_nonneg ht.1 (by omega)
  have a1 : t / q.slide < (f : Int) + n := by
    rw [Int.ediv_lt_iff_lt_mul (by omega), Int.add_mul]
    omega
  have a2 : (f : Int) + n ≤ t / q.slide + 1 := by
    have h : ((f : Int) + n - 1) ≤ t / q.slide := by
      rw [Int.le_ediv_iff_mul_le (by omega)]
      rcases Nat.eq_zero_or_pos n with rfl | hp
      · rw [Int.sub_mul, Int.add_mul]
        simp only [Int.natCast_zero, Int.zero_mul, Int.one_mul]
        omega
      · have h := hn (n - 1) (by omega)
        rw [← Int.add_mul] at h
        have e : (f : Int) + ((n - 1 : Nat) : Int) = (f : Int) + n - 1 := by omega
        rw [e] at h
        exact h
    omega
  omega
theorem ofs_one {q : Qry} {key : List UInt8} {t : Int} (hq : q.right = true) (hk : nameB key = true) (ht : 0 ≤ t ∧ t ≤ 1099511627776) (h1 : q.kind = 1) {F : Int} (hF : F = t - t.tmod q.size) {n : Nat} (hn : ∀ i : Nat, i < n → F + i * q.size ≤ t) (hx : ¬ F + n * q.size ≤ t) : ofsM q key t F q.size n = winsOf q key t := by
  obtain ⟨-, hsz, -⟩ := q_size hq
  rw [Int.tmod_eq_emod_of_nonneg ht.1] at hF
  have m0 := Int.emod_nonneg t (show q.size ≠ 0 by omega)
  have m1 := Int.emod_lt_of_pos t (show 0 < q.size by omega)
  have hn1 : n = 1 := by
    rcases Nat.lt_trichotomy n 1 with h | h | h
    · obtain rfl : n = 0 := by omega
      simp only [Int.natCast_zero, Int.zero_mul] at hx
      omega
    · exact h
    · have := hn 1 h
      simp only [Int.natCast_one, Int.one_mul] at this
      omega
  subst hn1
  have hle : t % q.size ≤ t := by
    have := Int.mul_ediv_add_emod t q.size
    have := Int.mul_nonneg (show 0 ≤ q.size by omega) (Int.ediv_nonneg ht.1 (show 0 ≤ q.size by omega))
    omega
  have hw := wd_made hq hk ht.2 (u := F) (by omega)
  unfold winsOf
  rw [if_pos ⟨hq, hk, ht⟩, if_neg (by omega), if_neg (by omega)]
  simp only [ofsM, Int.natCast_zero, Int.zero_mul, Int.add_zero, List.nil_append]
  rw [hw.2, decide_eq_true (by omega), if_pos rfl, hF]
end Go.Proofs.YtiglgfonhdfpmaaGreat

/- The walk of wins.Of. Condition: the text and the time fit the machine. -/
set_option linter.unusedVariables false
set_option linter.unusedSimpArgs false
namespace Go.Proofs.YtiglgfonhdfpmaaGreat
open Go.RowKit

set_option maxHeartbeats 2000000 in
set_option maxRecDepth 100000 in
theorem wins_of_bad (q : Qry) (key : List UInt8) (t : Int) (w : World) (hl : key.length ≤ 9223372036854775807) (hb : ¬ (q.right = true ∧ nameB key = true ∧ 0 ≤ t ∧ t ≤ 1099511627776)) :
    Calls Tryz.prog 138 #[qyV q, textV key, .int .i64 t] w fun e w' => e = .returned (.slice none 0 0) ∧ Below w.heap.size w w' := by
  have kq := fun w' => query_right q w'
  have kn := fun w' => ev_name key hl w'
  obtain ⟨nq, hnq⟩ : ∃ nq, q.right = nq := ⟨_, rfl⟩
  obtain ⟨nk, hnk⟩ : ∃ nq, nameB key = nq := ⟨_, rfl⟩
  rw [hnq, hnk] at hb
  rw [hnq] at kq
  rw [hnk] at kn
  clear hnq hnk
  have hc : nq = false ∨ (nq = true ∧ nk = false) ∨ (nq = true ∧ nk = true ∧ t < 0) ∨ (nq = true ∧ nk = true ∧ ¬ t < 0 ∧ 1099511627776 < t) := by
    cases nq
    · exact .inl rfl
    · cases nk
      · exact .inr (.inl ⟨rfl, rfl⟩)
      · by_cases h1 : t < 0
        · exact .inr (.inr (.inl ⟨rfl, rfl, h1⟩))
        · by_cases h2 : 1099511627776 < t
          · exact .inr (.inr (.inr ⟨rfl, rfl, h1, h2⟩))
          · exact absurd ⟨rfl, rfl, by omega, by omega⟩ hb
  clear hb
  obtain ⟨kd, sz, sl, lt, ag, kk⟩ := q
  have H : St (fun _ => False) w _ [_] := (St.nil _ w).allocAt rfl #[.int .i64 kd, .int .i64 sz, .int .i64 sl, .int .i64 lt, .int .i64 ag, .int .i64 kk] 23
  unfold qyV qyC at kq
  unfold textV at kn
  simp only at kq
  unfold qyV qyC textV
  simp only
  have c0 := H.cell 0 0 rfl rfl
  have c1 := H.cell 0 1 rfl rfl
  have c2 := H.cell 0 2 rfl rfl
  have c3 := H.cell 0 3 rfl rfl
  have c4 := H.cell 0 4 rfl rfl
  have c5 := H.cell 0 5 rfl rfl
  go_enter Tryz.func138, Tryz.ntmps138
  rcases hc with rfl | ⟨rfl, rfl⟩ | ⟨rfl, rfl, h1⟩ | ⟨rfl, rfl, h1, h2⟩
  all_goals
    go_wp2_with (first
      | (go_at_call 60; go_must (refine (St.callPast (kq _) H).mono ?_; rintro e w2 ⟨rfl, H2⟩; clear c0 c1 c2 c3 c4 c5))
      | (go_at_call 104; go_must (refine (kn _).mono ?_; rintro e w7 ⟨rfl, rfl⟩)))
    go_ret
    exact ⟨rfl, H2.below (Nat.le_refl _) (fun _ h => h.elim)⟩

set_option maxHeartbeats 4000000 in
set_option maxRecDepth 100000 in
theorem wins_of_good (q : Qry) (key : List UInt8) (t : Int) (w : World) (hl : key.length ≤ 9223372036854775807) (hq : q.right = true) (hk : nameB key = true) (ht : 0 ≤ t ∧ t ≤ 1099511627776) (h3 : ¬ q.kind = 3) :
    Calls Tryz.prog 138 #[qyV q, textV key, .int .i64 t] w fun e w' => ∃ v', e = .returned v' ∧ St (fun _ => False) w w' [Row 61 3 v' (winsOf q key t).length (wds (winsOf q key t))] := by
  obtain ⟨hkd, hsz, hsl, -, -⟩ := q_size hq
  obtain ⟨F, hF⟩ : ∃ F, (if q.kind = 1 then t - t.tmod q.size else max 0 ((t - q.size).tdiv q.slide * q.slide)) = F := ⟨_, rfl⟩
  obtain ⟨step, hst⟩ : ∃ s, (if q.kind = 1 then q.size else q.slide) = s := ⟨_, rfl⟩
  have hst1 : 1 ≤ step ∧ step ≤ 1073741824 := by
    rw [← hst]
    split
    · omega
    · have := hsl (by omega); omega
  have hlaw : ∀ n : Nat, (∀ i : Nat, i < n → F + i * step ≤ t) → ¬ F + n * step ≤ t → ofsM q key t F step n = winsOf q key t := by
    intro n hn hx
    by_cases h1 : q.kind = 1
    · rw [if_pos h1] at hst hF
      subst hst
      exact ofs_one hq hk ht h1 hF.symm hn hx
    · rw [if_neg h1] at hst hF
      subst hst
      exact ofs_two hq hk ht (by omega) hF.symm hn hx
  have hF0 : 0 ≤ F ∧ F ≤ 1099511627776 := by
    rw [← hF]
    split
    · rw [Int.tmod_eq_emod_of_nonneg ht.1]
      have m0 := Int.emod_nonneg t (show q.size ≠ 0 by omega)
      have := Int.mul_ediv_add_emod t q.size
      have := Int.mul_nonneg (show 0 ≤ q.size by omega) (Int.ediv_nonneg ht.1 (show 0 ≤ q.size by omega))
      omega
    · have hs2 := hsl (by omega)
      have : (t - q.size).tdiv q.slide * q.slide ≤ 1099511627776 := by
        by_cases hlt : t < q.size
        · have h1 : (t - q.size).tdiv q.slide = -((q.size - t).tdiv q.slide) := by rw [← Int.neg_tdiv, Int.neg_sub]
          have h2 : 0 ≤ (q.size - t).tdiv q.slide := Int.tdiv_nonneg (by omega) (by omega)
          have h3 : (t - q.size).tdiv q.slide * q.slide ≤ 0 := Int.mul_nonpos_of_nonpos_of_nonneg (by omega) (by omega)
          omega
        · rw [Int.tdiv_eq_ediv_of_nonneg (by omega)]
          have := Int.ediv_mul_le (t - q.size) (show q.slide ≠ 0 by omega)
          omega
      omega
  have hmade : ∀ u : Int, 0 ≤ u ∧ u ≤ t → (⟨key, u, u + q.size⟩ : Wd).has t = decide (t < u + q.size) := fun u hu => (wd_made hq hk ht.2 hu).2
  have hlawh := Lib.hid hlaw
  have hmadeh := Lib.hid hmade
  clear hlaw hmade
  have kq := fun w' => query_right q w'
  have kn := fun w' => ev_name key hl w'
  rw [hq] at kq
  rw [hk] at kn
  obtain ⟨ws, hws⟩ : ∃ ws, winsOf q key t = ws := ⟨_, rfl⟩
  rw [hws] at hlawh ⊢
  obtain ⟨of, hof⟩ : ∃ f : Nat → List Wd, ofsM q key t F step = f := ⟨_, rfl⟩
  have hofn : ∀ j : Nat, of (j + 1) = of j ++ (if (⟨key, F + j * step, F + j * step + q.size⟩ : Wd).has t = true then [⟨key, F + j * step, F + j * step + q.size⟩] else []) := fun j => by rw [← hof]; rfl
  have hof0 : of 0 = [] := by rw [← hof]; rfl
  have hoflen : ∀ j, (of j).length ≤ j := fun j => by rw [← hof]; exact ofsM_len _ _ _ _ _ j
  rw [hof] at hlawh
  have hofnh := Lib.hid hofn
  have hoflenh := Lib.hid hoflen
  clear hofn hof hws hq hk hoflen
  obtain ⟨kd, sz, sl, lt, ag, kk⟩ := q
  simp only at hkd hsz hsl h3 hF hst hmadeh hofnh
  obtain ⟨b, hb⟩ : ∃ b, w.heap.size = b := ⟨_, rfl⟩
  have H0 : St (fun _ => False) w _ [_] := (St.nil _ w).allocAt hb #[.int .i64 kd, .int .i64 sz, .int .i64 sl, .int .i64 lt, .int .i64 ag, .int .i64 kk] 23
  obtain ⟨w1, hw1⟩ : ∃ w1, w.alloc (.cells #[.int .i64 kd, .int .i64 sz, .int .i64 sl, .int .i64 lt, .int .i64 ag, .int .i64 kk] 23) = w1 := ⟨_, rfl⟩
  unfold qyV qyC at kq
  unfold textV at kn
  simp only at kq
  unfold qyV qyC textV
  simp only
  have t0 : ¬ t < 0 := by omega
  have t1 : ¬ 1099511627776 < t := by omega
  go_enter Tryz.func138, Tryz.ntmps138
  go_upto_region 1 with (fail)
  rw [hw1] at H0
  try rw [hw1]
  try simp only [hb]
  have c0 := H0.cell 0 0 rfl rfl
  have c1 := H0.cell 0 1 rfl rfl
  have c2 := H0.cell 0 2 rfl rfl
  have c3 := H0.cell 0 3 rfl rfl
  have c4 := H0.cell 0 4 rfl rfl
  have c5 := H0.cell 0 5 rfl rfl
  have hbh := Lib.hid hb
  clear hw1 hb
  go_upto_region 5 with (first
    | (go_at_call 60; go_must (refine (St.callPast (kq _) H0).mono ?_; rintro e w2 ⟨rfl, H2⟩; clear c0 c1 c2 c3 c4 c5; have c0 := H2.cell 0 0 rfl rfl))
    | (go_at_call 104; go_must (refine (kn _).mono ?_; rintro e w7 ⟨rfl, rfl⟩)))
  clear H0 kq kn
  have c0 := H2.cell 0 0 rfl rfl
  have c1 := H2.cell 0 1 rfl rfl
  have c2 := H2.cell 0 2 rfl rfl
  by_cases h1 : kd = 1
  · subst h1
    rw [if_pos rfl] at hF hst
    subst hst
    have m3 := Int.tmod_eq_emod_of_nonneg ht.1 (b := sz)
    have m4 := Int.emod_nonneg t (show sz ≠ 0 by omega)
    have m5 := Int.emod_lt_of_pos t (show 0 < sz by omega)
    obtain ⟨M, hM⟩ : ∃ M, t.tmod sz = M := ⟨_, rfl⟩
    rw [hM] at m3 hF
    have hM2 : t % sz = M := m3.symm
    rw [hM2] at m4 m5
    have n0 : IntKind.i64.wrap M = M := by rw [IntKind.wrap_i64]; omega
    have n1 : IntKind.i64.wrap (t - M) = F := by rw [IntKind.wrap_i64]; omega
    clear m3 m4 m5
    have nF : IntKind.i64.wrap F = F := by rw [IntKind.wrap_i64]; omega
    have nz : ¬ sz = 0 := by omega
    have nz2 : (sz == 0) = false := by simp; omega
    go_upto_region 6 with (fail)
    refine wp_calm (fun w' => St (fun _ => False) w w' [Blk b #[.int .i64 1, .int .i64 sz, .int .i64 sl, .int .i64 lt, .int .i64 ag, .int .i64 kk] 23]) (by kernel_rfl) (by kernel_rfl) (H2.drew) ?_
    iterate 10 first
      | (apply calm_pass
         · rfl
         intro K hK
         go_simp
         refine hK _ ?_
         clear hK K)
      | (apply calm_step
         · rfl
         · intro w1 h1
           have c1 := h1.cell 0 1 rfl rfl
           first
             | (go_simp
                first
                  | rfl
                  | exact ⟨rfl, h1⟩
               )
         intro K hK
         go_simp
         refine hK _ ?_
         clear hK K)
    refine calm_nil ?_
    intro w9 H9
    clear c0 c1 c2 H2
    have hk3 : ((1 : Int) == 3) = false := by decide
    have H10 : St (fun _ => False) w w9 [Row 61 3 (.slice none 0 0) (of 0).length (wds (of 0)), Blk b #[.int .i64 1, .int .i64 sz, .int .i64 sl, .int .i64 lt, .int .i64 ag, .int .i64 kk] 23] := by
      rw [hof0]
      exact H9.row_nil 61 3
    clear H9 hof0
    go_upto_block 3 with (fail)
    go_loopw [9, 10, 11] (fun u fr _ wr => ∃ (j : Nat) (U : Int), fr = .int .i64 U ∧ Hid (U = F + j * sz) ∧ (j : Int) ≤ U ∧ 0 ≤ U ∧ U ≤ 2199023255552 ∧ Hid (∀ i : Nat, i < j → F + i * sz ≤ t) ∧ St (fun _ => False) w wr [Row 61 3 u (of j).length (wds (of j)), Blk b #[.int .i64 1, .int .i64 sz, .int .i64 sl, .int .i64 lt, .int .i64 ag, .int .i64 kk] 23]) (fun _ fr _ _ => (t + 1 - intOf fr).toNat)
    case atStart => exact ⟨0, F, rfl, Lib.hid (by simp), by simp; omega, by omega, by omega, Lib.hid (by intro i hi; omega), H10⟩
    case round =>
      clear H10
      obtain ⟨j, U, rfl, hU, hjU, hU0, hU1, hn, HM⟩ := hrel
      by_cases hUt : U ≤ t
      · have kh := fun w' => wd_has ⟨key, U, U + sz⟩ ⟨hl, by simp only; omega, by simp only; omega⟩ t w'
        have hh := hmadeh.out U ⟨hU0, hUt⟩
        rw [hh] at kh
        have hon := hofnh.out j
        rw [← hU.out, hh] at hon
        have hol := hoflenh.out j
        obtain ⟨V, hV⟩ : ∃ V, U + sz = V := ⟨_, rfl⟩
        have hfits : (⟨key, U, V⟩ : Wd).fits := ⟨hl, by simp only; omega, by simp only; omega⟩
        have m1 : IntKind.i64.wrap (U + sz) = V := by rw [IntKind.wrap_i64]; omega
        simp only [hV] at kh hon hh
        have hVb : (j : Int) + 1 ≤ V ∧ 0 ≤ V ∧ V ≤ 2199023255552 ∧ U < V := by omega
        obtain ⟨z, hz⟩ : ∃ z, decide (t < V) = z := ⟨_, rfl⟩
        rw [hz] at kh hon
        clear hz hh
        have hnn := Lib.hid (show ∀ i : Nat, i < j + 1 → F + i * sz ≤ t from fun i hi => by
          rcases Nat.lt_or_ge i j with h | h
          · exact hn.out i h
          · obtain rfl : i = j := by omega
            rw [← hU.out]; exact hUt)
        have hUn0 : U + sz = F + ((j + 1 : Nat) : Int) * sz := by rw [hU.out, Int.natCast_add, Int.add_mul]; simp [Int.add_assoc]
        rw [hV] at hUn0
        clear hV
        have hUn := Lib.hid hUn0
        clear hUn0
        clear hn hU
        unfold wdV wdC textV at kh
        simp only at kh
        have c1 := HM.cell 1 1 rfl rfl
        have HA : St (fun _ => False) w _ [_, _, _] := HM.allocAt rfl #[.string ⟨key.toArray⟩, .int .i64 U, .int .i64 V] 61
        go_upto_region 15 with (fail)
        obtain ⟨wb, hwb⟩ : ∃ wb, wr.alloc (.cells #[.string ⟨key.toArray⟩, .int .i64 U, .int .i64 V] 61) = wb := ⟨_, rfl⟩
        obtain ⟨yb, hyb⟩ : ∃ yb, wr.heap.size = yb := ⟨_, rfl⟩
        rw [hwb, hyb] at HA
        try rw [hwb]
        try simp only [hyb]
        have HA2 : St (fun _ => False) w wb [Blk yb #[.string ⟨key.toArray⟩, .int .i64 U, .int .i64 V] 61, Row 61 3 u9 (of j).length (wds (of j)), Blk b #[.int .i64 1, .int .i64 sz, .int .i64 sl, .int .i64 lt, .int .i64 ag, .int .i64 kk] 23] := HA
        clear hwb hyb c1 HM HA
        have d0 := HA2.cell 0 0 rfl rfl
        have d1 := HA2.cell 0 1 rfl rfl
        have d2 := HA2.cell 0 2 rfl rfl
        cases z with
        | false =>
          rw [if_neg (by simp), List.append_nil] at hon
          have honh := Lib.hid hon
          clear hon
          go_wp2_with (go_at_call 195; go_must (refine (St.callPast (kh _) HA2).mono ?_; rintro e w3 ⟨rfl, H3⟩; have c0 := H3.cell 2 0 rfl rfl))
          go_roundw
          case rel =>
            refine ⟨j + 1, V, rfl, Lib.hid hUn.out, by omega, by omega, by omega, Lib.hid hnn.out, ?_⟩
            rw [honh.out]
            exact H3.pick [1, 2]
          case measure => simp [intOf]; omega
        | true =>
          rw [if_pos rfl] at hon
          have honh := Lib.hid hon
          clear hon
          go_wp2_with (first
            | (go_at_call 195; go_must (refine (St.callPast (kh _) HA2).mono ?_; rintro e w3 ⟨rfl, H3⟩; have d0 := H3.cell 0 0 rfl rfl; have d1 := H3.cell 0 1 rfl rfl; have d2 := H3.cell 0 2 rfl rfl))
            | (at_builtin; go_must (refine St.list_app (H3.skip _) 1 rfl rfl (.tmp 71) (.tmp 73) 145 rfl Tryz.underlying145 Tryz.info61 (by decide) rfl [.string ⟨key.toArray⟩, .int .i64 U, .int .i64 V] rfl rfl (new_cells #[.string ⟨key.toArray⟩, .int .i64 U, .int .i64 V] _) (by simp [Value.oneCell']) (by omega) (by omega) ?_; intro g5 cap5 w6 H6 hz6; have c0 := H6.cell 2 0 rfl rfl)))
          go_roundw
          case rel =>
            refine ⟨j + 1, V, rfl, Lib.hid hUn.out, by omega, by omega, by omega, Lib.hid hnn.out, ?_⟩
            have H7 : St (fun _ => False) w w6 [_, _, _] := H6
            rw [honh.out, List.length_append, wds_app, wds_one]
            exact H7.pick [1, 2]
          case measure => simp [intOf]; omega
      · have hfin := hlawh.out j hn.out (by rw [← hU.out]; omega)
        rw [hfin] at HM
        go_wp2
        go_ret
        exact ⟨_, rfl, HM.pick [0]⟩
  · obtain rfl : kd = 2 := by omega
    rw [if_neg (by omega)] at hF hst
    subst hst
    have hsl2 := hsl rfl
    obtain ⟨D, hD⟩ : ∃ D, (t - sz).tdiv sl = D := ⟨_, rfl⟩
    rw [hD] at hF
    have hDb : -1073741824 ≤ D ∧ D ≤ 1099511627776 ∧ -4611686018427387904 ≤ D * sl ∧ D * sl ≤ 4611686018427387904 := by
      rw [← hD]
      by_cases hlt : t < sz
      · have g1 : (t - sz).tdiv sl = -((sz - t).tdiv sl) := by rw [← Int.neg_tdiv, Int.neg_sub]
        have g2 : 0 ≤ (sz - t).tdiv sl := Int.tdiv_nonneg (by omega) (by omega)
        have g4 := Int.tdiv_eq_ediv_of_nonneg (show 0 ≤ sz - t by omega) (b := sl)
        have g5 := Int.ediv_mul_le (sz - t) (show sl ≠ 0 by omega)
        have g6 : (sz - t) / sl ≤ sz - t := Int.ediv_le_self _ (by omega)
        have g7 : 0 ≤ (sz - t) / sl * sl := Int.mul_nonneg (by omega) (by omega)
        rw [g1, g4, Int.neg_mul]
        omega
      · rw [Int.tdiv_eq_ediv_of_nonneg (by omega)]
        have g5 := Int.ediv_mul_le (t - sz) (show sl ≠ 0 by omega)
        have g6 : (t - sz) / sl ≤ t - sz := Int.ediv_le_self _ (by omega)
        have g2 : 0 ≤ (t - sz) / sl := Int.ediv_nonneg (by omega) (by omega)
        have g7 : 0 ≤ (t - sz) / sl * sl := Int.mul_nonneg (by omega) (by omega)
        omega
    have n1 : IntKind.i64.wrap (t - sz) = t - sz := by rw [IntKind.wrap_i64]; omega
    have n2 : IntKind.i64.wrap D = D := by rw [IntKind.wrap_i64]; omega
    have n3 : IntKind.i64.wrap (D * sl) = D * sl := by rw [IntKind.wrap_i64]; omega
    have nF : IntKind.i64.wrap F = F := by rw [IntKind.wrap_i64]; omega
    have nz : ¬ sl = 0 := by omega
    have nz2 : (sl == 0) = false := by simp; omega
    have hF2 : (if 0 ≤ D * sl then D * sl else 0) = F := by rw [← hF]; split <;> omega
    have hF3 : (if D * sl < 0 then 0 else D * sl) = F := by rw [← hF]; split <;> omega
    have hF4 : (if 0 < D * sl then D * sl else 0) = F := by rw [← hF]; split <;> omega
    go_upto_region 10 with (fail)
    clear c0 c1 c2 n1 n2 n3 hF2 hF3 hF4 hDb hD

    have H9 := H2
    have hk3 : ((2 : Int) == 3) = false := by decide
    have H10 : St (fun _ => False) w w7 [Row 61 3 (.slice none 0 0) (of 0).length (wds (of 0)), Blk b #[.int .i64 2, .int .i64 sz, .int .i64 sl, .int .i64 lt, .int .i64 ag, .int .i64 kk] 23] := by
      rw [hof0]
      exact H9.row_nil 61 3
    clear H9 hof0
    go_upto_block 3 with (fail)
    go_loopw [9, 10, 11] (fun u fr _ wr => ∃ (j : Nat) (U : Int), fr = .int .i64 U ∧ Hid (U = F + j * sl) ∧ (j : Int) ≤ U ∧ 0 ≤ U ∧ U ≤ 2199023255552 ∧ Hid (∀ i : Nat, i < j → F + i * sl ≤ t) ∧ St (fun _ => False) w wr [Row 61 3 u (of j).length (wds (of j)), Blk b #[.int .i64 2, .int .i64 sz, .int .i64 sl, .int .i64 lt, .int .i64 ag, .int .i64 kk] 23]) (fun _ fr _ _ => (t + 1 - intOf fr).toNat)
    case atStart => exact ⟨0, F, rfl, Lib.hid (by simp), by simp; omega, by omega, by omega, Lib.hid (by intro i hi; omega), H10⟩
    case round =>
      clear H10
      obtain ⟨j, U, rfl, hU, hjU, hU0, hU1, hn, HM⟩ := hrel
      by_cases hUt : U ≤ t
      · have kh := fun w' => wd_has ⟨key, U, U + sz⟩ ⟨hl, by simp only; omega, by simp only; omega⟩ t w'
        have hh := hmadeh.out U ⟨hU0, hUt⟩
        rw [hh] at kh
        have hon := hofnh.out j
        rw [← hU.out, hh] at hon
        have hol := hoflenh.out j
        obtain ⟨V, hV⟩ : ∃ V, U + sz = V := ⟨_, rfl⟩
        have hfits : (⟨key, U, V⟩ : Wd).fits := ⟨hl, by simp only; omega, by simp only; omega⟩
        have m1 : IntKind.i64.wrap (U + sz) = V := by rw [IntKind.wrap_i64]; omega
        simp only [hV] at kh hon hh
        clear hV
        obtain ⟨z, hz⟩ : ∃ z, decide (t < V) = z := ⟨_, rfl⟩
        rw [hz] at kh hon
        clear hz hh
        have hnn := Lib.hid (show ∀ i : Nat, i < j + 1 → F + i * sl ≤ t from fun i hi => by
          rcases Nat.lt_or_ge i j with h | h
          · exact hn.out i h
          · obtain rfl : i = j := by omega
            rw [← hU.out]; exact hUt)
        have hUn0 : U + sl = F + ((j + 1 : Nat) : Int) * sl := by rw [hU.out, Int.natCast_add, Int.add_mul]; simp [Int.add_assoc]
        obtain ⟨N, hN⟩ : ∃ N, U + sl = N := ⟨_, rfl⟩
        have m2 : IntKind.i64.wrap (U + sl) = N := by rw [IntKind.wrap_i64]; omega
        have hNb : (j : Int) + 1 ≤ N ∧ 0 ≤ N ∧ N ≤ 2199023255552 ∧ U < N := by omega
        rw [hN] at hUn0
        clear hN
        have hUn := Lib.hid hUn0
        clear hUn0
        clear hn hU
        unfold wdV wdC textV at kh
        simp only at kh
        have c1 := HM.cell 1 1 rfl rfl
        have HA : St (fun _ => False) w _ [_, _, _] := HM.allocAt rfl #[.string ⟨key.toArray⟩, .int .i64 U, .int .i64 V] 61
        go_upto_region 15 with (fail)
        obtain ⟨wb, hwb⟩ : ∃ wb, wr.alloc (.cells #[.string ⟨key.toArray⟩, .int .i64 U, .int .i64 V] 61) = wb := ⟨_, rfl⟩
        obtain ⟨yb, hyb⟩ : ∃ yb, wr.heap.size = yb := ⟨_, rfl⟩
        rw [hwb, hyb] at HA
        try rw [hwb]
        try simp only [hyb]
        have HA2 : St (fun _ => False) w wb [Blk yb #[.string ⟨key.toArray⟩, .int .i64 U, .int .i64 V] 61, Row 61 3 u9 (of j).length (wds (of j)), Blk b #[.int .i64 2, .int .i64 sz, .int .i64 sl, .int .i64 lt, .int .i64 ag, .int .i64 kk] 23] := HA
        clear hwb hyb c1 HM HA
        have d0 := HA2.cell 0 0 rfl rfl
        have d1 := HA2.cell 0 1 rfl rfl
        have d2 := HA2.cell 0 2 rfl rfl
        cases z with
        | false =>
          rw [if_neg (by simp), List.append_nil] at hon
          have honh := Lib.hid hon
          clear hon
          go_wp2_with (go_at_call 195; go_must (refine (St.callPast (kh _) HA2).mono ?_; rintro e w3 ⟨rfl, H3⟩; have c0 := H3.cell 2 0 rfl rfl))
          go_roundw
          case rel =>
            refine ⟨j + 1, N, rfl, Lib.hid hUn.out, by omega, by omega, by omega, Lib.hid hnn.out, ?_⟩
            rw [honh.out]
            exact H3.pick [1, 2]
          case measure => simp [intOf]; omega
        | true =>
          rw [if_pos rfl] at hon
          have honh := Lib.hid hon
          clear hon
          go_wp2_with (first
            | (go_at_call 195; go_must (refine (St.callPast (kh _) HA2).mono ?_; rintro e w3 ⟨rfl, H3⟩; have d0 := H3.cell 0 0 rfl rfl; have d1 := H3.cell 0 1 rfl rfl; have d2 := H3.cell 0 2 rfl rfl))
            | (at_builtin; go_must (refine St.list_app (H3.skip _) 1 rfl rfl (.tmp 71) (.tmp 73) 145 rfl Tryz.underlying145 Tryz.info61 (by decide) rfl [.string ⟨key.toArray⟩, .int .i64 U, .int .i64 V] rfl rfl (new_cells #[.string ⟨key.toArray⟩, .int .i64 U, .int .i64 V] _) (by simp [Value.oneCell']) (by omega) (by omega) ?_; intro g5 cap5 w6 H6 hz6; have c0 := H6.cell 2 0 rfl rfl)))
          go_roundw
          case rel =>
            refine ⟨j + 1, N, rfl, Lib.hid hUn.out, by omega, by omega, by omega, Lib.hid hnn.out, ?_⟩
            have H7 : St (fun _ => False) w w6 [_, _, _] := H6
            rw [honh.out, List.length_append, wds_app, wds_one]
            exact H7.pick [1, 2]
          case measure => simp [intOf]; omega
      · have hfin := hlawh.out j hn.out (by rw [← hU.out]; omega)
        rw [hfin] at HM
        go_wp2
        go_ret
        exact ⟨_, rfl, HM.pick [0]⟩

set_option maxHeartbeats 4000000 in
set_option maxRecDepth 100000 in
theorem wins_of_sess (q : Qry) (key : List UInt8) (t : Int) (w : World) (hl : key.length ≤ 9223372036854775807) (hq : q.right = true) (hk : nameB key = true) (ht : 0 ≤ t ∧ t ≤ 1099511627776) (h3 : q.kind = 3) :
    Calls Tryz.prog 138 #[qyV q, textV key, .int .i64 t] w fun e w' => ∃ v', e = .returned v' ∧ St (fun _ => False) w w' [Row 61 3 v' (winsOf q key t).length (wds (winsOf q key t))] := by
  obtain ⟨hkd, hsz, hsl, -, -⟩ := q_size hq
  have hh : (⟨key, t, t + q.size⟩ : Wd).has t = true := by
    rw [(wd_made hq hk ht.2 (u := t) (by omega)).2, decide_eq_true (by omega)]
  have hres : winsOf q key t = [⟨key, t, t + q.size⟩] := by
    unfold winsOf
    rw [if_pos ⟨hq, hk, ht⟩, if_pos h3]
  have kh := fun w' => wd_has ⟨key, t, t + q.size⟩ ⟨hl, by simp only; omega, by simp only; omega⟩ t w'
  rw [hh] at kh
  rw [hres]
  clear hh hres
  have kq := fun w' => query_right q w'
  have kn := fun w' => ev_name key hl w'
  rw [hq] at kq
  rw [hk] at kn
  clear hq hk
  obtain ⟨kd, sz, sl, lt, ag, kk⟩ := q
  simp only at hkd hsz hsl h3 kh ⊢
  subst h3
  obtain ⟨V, hV⟩ : ∃ V, t + sz = V := ⟨_, rfl⟩
  have m1 : IntKind.i64.wrap (t + sz) = V := by rw [IntKind.wrap_i64]; omega
  simp only [hV] at kh ⊢
  clear hV
  obtain ⟨b, hb⟩ : ∃ b, w.heap.size = b := ⟨_, rfl⟩
  have H0 : St (fun _ => False) w _ [_] := (St.nil _ w).allocAt hb #[.int .i64 3, .int .i64 sz, .int .i64 sl, .int .i64 lt, .int .i64 ag, .int .i64 kk] 23
  obtain ⟨w1, hw1⟩ : ∃ w1, w.alloc (.cells #[.int .i64 3, .int .i64 sz, .int .i64 sl, .int .i64 lt, .int .i64 ag, .int .i64 kk] 23) = w1 := ⟨_, rfl⟩
  unfold qyV qyC at kq
  unfold textV at kn
  unfold wdV wdC textV at kh
  simp only at kq kh
  unfold qyV qyC textV
  simp only
  have t0 : ¬ t < 0 := by omega
  have t1 : ¬ 1099511627776 < t := by omega
  go_enter Tryz.func138, Tryz.ntmps138
  go_upto_region 1 with (fail)
  rw [hw1] at H0
  try rw [hw1]
  try simp only [hb]
  have c0 := H0.cell 0 0 rfl rfl
  have c1 := H0.cell 0 1 rfl rfl
  have c2 := H0.cell 0 2 rfl rfl
  have c3 := H0.cell 0 3 rfl rfl
  have c4 := H0.cell 0 4 rfl rfl
  have c5 := H0.cell 0 5 rfl rfl
  have hbh := Lib.hid hb
  clear hw1 hb
  go_upto_region 5 with (first
    | (go_at_call 60; go_must (refine (St.callPast (kq _) H0).mono ?_; rintro e w2 ⟨rfl, H2⟩; clear c0 c1 c2 c3 c4 c5; have c0 := H2.cell 0 0 rfl rfl))
    | (go_at_call 104; go_must (refine (kn _).mono ?_; rintro e w7 ⟨rfl, rfl⟩)))
  clear H0 kq kn
  have c0 := H2.cell 0 0 rfl rfl
  have c1 := H2.cell 0 1 rfl rfl
  have H10 : St (fun _ => False) w w7 [Row 61 3 (.slice none 0 0) 0 (wds []), Blk b #[.int .i64 3, .int .i64 sz, .int .i64 sl, .int .i64 lt, .int .i64 ag, .int .i64 kk] 23] := H2.row_nil 61 3
  go_upto_block 3 with (fail)
  go_loopw [9, 10, 11] (fun u fr _ wr => u = .slice none 0 0 ∧ fr = .int .i64 t ∧ St (fun _ => False) w wr [Row 61 3 (.slice none 0 0) 0 (wds []), Blk b #[.int .i64 3, .int .i64 sz, .int .i64 sl, .int .i64 lt, .int .i64 ag, .int .i64 kk] 23]) (fun _ _ _ _ => 0)
  case atStart => exact ⟨rfl, rfl, H10⟩
  case round =>
    clear H10 H2 c0 c1
    obtain ⟨rfl, rfl, HM⟩ := hrel
    have c1 := HM.cell 1 1 rfl rfl
    have HA : St (fun _ => False) w _ [_, _, _] := HM.allocAt rfl #[.string ⟨key.toArray⟩, .int .i64 t, .int .i64 V] 61
    go_upto_region 15 with (fail)
    obtain ⟨wb, hwb⟩ : ∃ wb, wr.alloc (.cells #[.string ⟨key.toArray⟩, .int .i64 t, .int .i64 V] 61) = wb := ⟨_, rfl⟩
    obtain ⟨yb, hyb⟩ : ∃ yb, wr.heap.size = yb := ⟨_, rfl⟩
    rw [hwb, hyb] at HA
    try rw [hwb]
    try simp only [hyb]
    have HA2 : St (fun _ => False) w wb [Blk yb #[.string ⟨key.toArray⟩, .int .i64 t, .int .i64 V] 61, Row 61 3 (.slice none 0 0) 0 (wds []), Blk b #[.int .i64 3, .int .i64 sz, .int .i64 sl, .int .i64 lt, .int .i64 ag, .int .i64 kk] 23] := HA
    clear hwb hyb c1 HM HA
    have d0 := HA2.cell 0 0 rfl rfl
    have d1 := HA2.cell 0 1 rfl rfl
    have d2 := HA2.cell 0 2 rfl rfl
    go_wp2_with (first
      | (go_at_call 195; go_must (refine (St.callPast (kh _) HA2).mono ?_; rintro e w3 ⟨rfl, H3⟩; have d0 := H3.cell 0 0 rfl rfl; have d1 := H3.cell 0 1 rfl rfl; have d2 := H3.cell 0 2 rfl rfl))
      | (at_builtin; go_must (refine St.list_app (H3.skip _) 1 rfl rfl (.tmp 71) (.tmp 73) 145 rfl Tryz.underlying145 Tryz.info61 (by decide) rfl [.string ⟨key.toArray⟩, .int .i64 t, .int .i64 V] rfl rfl (new_cells #[.string ⟨key.toArray⟩, .int .i64 t, .int .i64 V] _) (by simp [Value.oneCell']) (by omega) (by omega) ?_; intro g5 cap5 w6 H6 hz6; have c0 := H6.cell 2 0 rfl rfl)))
    go_ret
    have H7 : St (fun _ => False) w w6 [_, _, _] := H6
    exact ⟨_, rfl, H7.pick [1]⟩
theorem wins_of (q : Qry) (key : List UInt8) (t : Int) (w : World) (hl : key.length ≤ 9223372036854775807) :
    Calls Tryz.prog 138 #[qyV q, textV key, .int .i64 t] w fun e w' => ∃ v', e = .returned v' ∧ St (fun _ => False) w w' [Row 61 3 v' (winsOf q key t).length (wds (winsOf q key t))] := by
  by_cases hg : q.right = true ∧ nameB key = true ∧ 0 ≤ t ∧ t ≤ 1099511627776
  · obtain ⟨hq, hk, ht⟩ := hg
    by_cases h3 : q.kind = 3
    · exact wins_of_sess q key t w hl hq hk ht h3
    · exact wins_of_good q key t w hl hq hk ht h3
  · refine (wins_of_bad q key t w hl hg).mono ?_
    rintro e w2 ⟨rfl, hb⟩
    have e0 : winsOf q key t = [] := by unfold winsOf; rw [if_neg hg]
    rw [e0]
    exact ⟨_, rfl, ((St.nil _ w).past hb).row_nil 61 3⟩

end Go.Proofs.YtiglgfonhdfpmaaGreat
