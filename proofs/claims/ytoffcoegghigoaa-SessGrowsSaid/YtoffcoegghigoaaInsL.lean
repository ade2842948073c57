/- copy between rows, append of noughts behind a row's beginning, apart blocks: laws over any program, at elements of any size. -/
import Derived.Test.YtoffcoegghigoaaWide
import Derived.Test.YtoffcoegghigoaaItmA
import Derived.Test.YtoffcoegghigoaaClkD
import Derived.Lib.AppendZeros
import Derived.Laws.CopyRow
import Derived.LaidEql
namespace Go.Proofs.Ytoffcoegghigoaa
open Go.RowKit

section
variable {P : Program} {S : Nat → Prop} {w0 w : World} {l : List SP}
theorem run_copy_any (w : World) (dT sT ty elem : TypeId) (g o dLen dCap : Nat) (a : Addr) (sLen sCap size : Nat) (vs : List Value)
    (hu : P.underlying dT = some (.slice elem)) (hs : (P.info? elem).map (·.size) = some size)
    (hn : vs.length = Nat.min sLen dLen * size) (hsrc : ∀ j v, vs[j]? = some v → w.cell? (a.add j) = some v) (hc : mayCells w g o vs.length = true) (h1 : ∀ v ∈ vs, v.oneCell' = true) :
    (Builtin.copy_ #[dT, sT] ty #[.slice (some ⟨g, o, none⟩) dLen dCap, .slice (some a) sLen sCap]).run P w = .ok (goInt (Nat.min sLen dLen)) (w.setCells g o vs) := by
  have hl := run_loadCells_list (P := P) w a vs hsrc
  have hth := mayCells_there hc
  have hst := run_storeCells_cells (P := P) g o vs 0 w (fun j hj => (hth j (by simpa using hj)).1) (fun j hj => (hth j (by simpa using hj)).2) h1
  simp only [Nat.add_zero] at hst
  cases hq : P.info? elem with
  | none => simp [hq] at hs
  | some i =>
    have hi : i.size = size := by simpa [hq] using hs
    simp [Builtin.copy_, run_underlying hu, Builtin.lenOf, Builtin.firstCells, sizeOf, typeInfo, hq, hi, ← hn, hl, hst]
theorem setCells_size (g : Nat) : ∀ (vs : List Value) (o : Nat) (w : World), (w.setCells g o vs).heap.size = w.heap.size
  | [], _, _ => rfl
  | v :: r, o, w => by show ((w.setCell _ v).setCells g (o + 1) r).heap.size = _; rw [setCells_size g r]; simp
theorem St.list_copyK (H : St S w0 w l) (i : Nat) {b : Nat} {cs : List Value} {t : TypeId} (hi : l[i]? = some (Blk b cs.toArray t))
    {ops : Array Oper} {rest : List Oper} {o : Oper} {a : Act} {Q : Exit → Act → World → Prop} (hgd : o.guard = none) (x y : Operand) (dT : TypeId)
    (ho : o.op = .call { callee := .builtin .copy, args := #[x, y], argTypes := #[dT, dT] }) {elem : TypeId} {size : Nat} (hu : P.underlying dT = some (.slice elem)) (hs : (P.info? elem).map (·.size) = some size)
    {off dLen dCap sLen sCap : Nat} {ad : Addr} (hx : a.eval x = .slice (some ⟨b, off, none⟩) dLen dCap) (hy : a.eval y = .slice (some ad) sLen sCap) (vs : List Value)
    (hn : vs.length = Nat.min sLen dLen * size) (hsrc : ∀ j v, vs[j]? = some v → w.cell? (ad.add j) = some v) (h1 : ∀ v ∈ vs, v.oneCell' = true) (hfit : off + vs.length ≤ cs.length)
    (h : ∀ w', St S w0 w' (l.set i (Blk b (splice cs off vs).toArray t)) → w.heap.size ≤ w'.heap.size → wpList P ops Q rest (a.put o.dst (goInt (Nat.min sLen dLen))) w') :
    wpList P ops Q (o :: rest) a w := by
  have hr := run_copy_any (P := P) w dT dT o.type elem b off dLen dCap ad sLen sCap size vs hu hs hn hsrc (mayCells_blk (H.blk i hi) (by simpa using hfit)) h1
  have h2 := St.setCells i vs off cs w l H hi hfit
  refine wpList_plain hgd fun _ hK => ?_
  unfold Oper.wp execOp
  simp only [ho, resolve, invoke, builtin, Sem.run_bind, Sem.run_pure, Result.andThen_ok, List.map_toArray, List.map_cons, List.map_nil, hx, hy, hr]
  exact hK _ _ (h _ h2 (by rw [setCells_size]; exact Nat.le_refl _))
/-- append of noughts behind a row's beginning, more than its capacity: a new row. -/
theorem run_append_zeros (w : World) (t tn ty e : TypeId) (i : TypeInfo) (z : Value) (kn : IntKind) (ht : P.underlying t = some (.slice e)) (htn : P.underlying tn = some (.int kn)) (hi : P.info? e = some i) (hz : i.zero = some z)
    (k m cap : Nat) (g : Nat) (vs : List Value) (hv : vs.length = k * i.size) (hsrc : ∀ j v, vs[j]? = some v → w.cell? ⟨g, j, none⟩ = some v) (h0 : 0 < m) (hs : 0 < i.size) (hcap : cap < k + m) (h63 : k + m ≤ 9223372036854775807) (h48 : ((k + m) + (k + m) / 4 + 192) * i.bytes ≤ 281474976710656) :
    (Builtin.append_ #[t, tn] ty #[.slice (some ⟨g, 0, none⟩) k cap, .int .i64 m]).run P w =
      .ok (.slice (some ⟨w.heap.size, 0, none⟩) (k + m) (grownCap w (k + m) cap e)) (w.drew.alloc (.cells (vs.toArray ++ Builtin.zeroCells z.cells m ++ Builtin.zeroCells z.cells (grownCap w (k + m) cap e - (k + m))) e)) := by
  have hw : IntKind.i64.wrap (m : Int) = m := by rw [IntKind.wrap_i64]; omega
  have h48' : ¬ (281474976710656 < Builtin.nextslicecap (k + m) cap * i.bytes) := by have := growslice_fits_wide (bytes := i.bytes) hcap h48; omega
  have hmb : m * i.bytes ≤ 281474976710656 := Nat.le_trans (Nat.mul_le_mul_right _ (by omega)) h48
  have h48i : ¬ (281474976710656 < (m : Int) * (i.bytes : Int)) := by
    rw [← Int.natCast_mul]
    omega
  have hneg : ¬ ((m : Int) < 0) := by omega
  have hns : ¬ (m * i.size = 0) := Nat.mul_ne_zero (by omega) (by omega)
  have hc2 : ¬ (k + m ≤ cap) := by omega
  have h63' : ¬ (9223372036854775807 < (k : Int) + (m : Int)) := by omega
  have hl := run_loadCells_list (P := P) w.drew ⟨g, 0, none⟩ vs (fun j v hj => by rw [Addr.add_lit, Nat.zero_add]; exact hsrc j v hj)
  rw [hv] at hl
  simp [Builtin.append_, run_underlying ht, run_underlying htn, sizeOf, typeInfo, zeroValue, hi, hz, asInt, asIntOf, hw, hneg, hns, h63', h48', h48i, hc2, Question.forced, Builtin.firstCells, hl, newRow, grownCap]
theorem St.list_zeros (H : St S w0 w l) (p : Nat) {g n cap : Nat} {e : TypeId} {size : Nat} {xs : List Value} (hp : l[p]? = some (Row e size (.slice (some ⟨g, 0, none⟩) n cap) n xs))
    {ops : Array Oper} {rest : List Oper} {o : Oper} {a : Act} {Q : Exit → Act → World → Prop} (hgd : o.guard = none) (x y : Operand) (t tn : TypeId)
    (ho : o.op = .call { callee := .builtin .append, args := #[x, y], argTypes := #[t, tn] }) {kn : IntKind} {z : Value} {bytes : Nat} (ht : P.underlying t = some (.slice e)) (htn : P.underlying tn = some (.int kn))
    (hinfo : (P.info? e).map (fun i => (i.zero, i.size, i.bytes)) = some (some z, size, bytes)) (hzs : z.cells.size = size ∧ 0 < size)
    {k m nm : Nat} (hnm : k + m = nm) (hx : a.eval x = .slice (some ⟨g, 0, none⟩) k cap) (hy : a.eval y = .int .i64 m) (hk : k ≤ n) (h0 : 0 < m) (hcap : cap < nm) (h63 : nm ≤ 9223372036854775807) (h48 : (nm + nm / 4 + 192) * bytes ≤ 281474976710656)
    (h : ∀ G C Z w', St S w0 w' (Blk G (xs.take (k * size) ++ Z).toArray e :: l) → (xs.take (k * size) ++ Z).length = C * size → nm ≤ C → C ≤ maxLen → w.heap.size ≤ w'.heap.size → wpList P ops Q rest (a.put o.dst (.slice (some ⟨G, 0, none⟩) nm C)) w') :
    wpList P ops Q (o :: rest) a w := by
  obtain ⟨ti, hti, hz, hsz, hby⟩ := info_parts hinfo
  subst hsz hby hnm
  have hro := H.row p hp
  have hvl : (xs.take (k * ti.size)).length = k * ti.size := by
    rw [List.length_take, hro.1]
    have := Nat.mul_le_mul_right ti.size hk
    omega
  have hr := run_append_zeros (P := P) w t tn o.type e ti z kn ht htn hti hz k m cap g (xs.take (k * ti.size)) hvl (fun j v hj => by
    have hlt := (List.getElem?_eq_some_iff.1 hj).1
    rw [List.getElem?_take] at hj
    split at hj
    · exact own_cell hro hj
    · cases hj) h0 hzs.2 hcap h63 h48
  have hge := grownCap_ge w (k + m) cap e
  have hcm : grownCap w (k + m) cap e ≤ maxLen := grownCap_le_maxLen w (k + m) cap e (by simpa [maxLen] using h63)
  have h2 := (H.drew.alloc ((xs.take (k * ti.size)).toArray ++ Builtin.zeroCells z.cells m ++ Builtin.zeroCells z.cells (grownCap w (k + m) cap e - (k + m))) e)
  refine wpList_plain hgd fun _ hK => ?_
  unfold Oper.wp execOp
  simp only [ho, resolve, invoke, builtin, Sem.run_bind, Sem.run_pure, Result.andThen_ok, List.map_toArray, List.map_cons, List.map_nil, hx, hy, hr]
  refine hK _ _ (h _ (grownCap w (k + m) cap e) ((Builtin.zeroCells z.cells m).toList ++ (Builtin.zeroCells z.cells (grownCap w (k + m) cap e - (k + m))).toList) _ ?_ ?_ hge hcm ?_)
  · have e : ((xs.take (k * ti.size)).toArray ++ Builtin.zeroCells z.cells m ++ Builtin.zeroCells z.cells (grownCap w (k + m) cap e - (k + m))) = (xs.take (k * ti.size) ++ ((Builtin.zeroCells z.cells m).toList ++ (Builtin.zeroCells z.cells (grownCap w (k + m) cap e - (k + m))).toList)).toArray := by
      apply Array.ext'
      simp
    rw [← e]
    exact h2
  · simp only [List.length_append, hvl, Array.length_toList, size_zeroCells, hzs.1, ← Nat.add_mul]
    congr 1
    omega
  · simp
theorem run_apart (w : World) {t r e : TypeId} {size : Nat} {g g2 o o2 n c n2 c2 : Nat} {ca cb : Array Value} {ta tb : TypeId} (hu : P.underlying t = some (.slice e)) (hs : (P.info? e).map (·.size) = some size)
    (hne : g ≠ g2) (ha : w.heap[g]? = some (.cells ca ta (0, 0))) (hb : w.heap[g2]? = some (.cells cb tb (0, 0))) :
    (Extern.SlicesOverlaps.overlaps #[t, t] #[r] #[.slice (some ⟨g, o, none⟩) n c, .slice (some ⟨g2, o2, none⟩) n2 c2]).run P w = .ok (.bool false) w := by
  cases hq : P.info? e with
  | none => simp [hq] at hs
  | some i =>
    conv =>
      lhs
      arg 2
      whnf
    show Sem.run P (Sem.program _) w = _
    rw [show ∀ k : Program → Sem Value, Sem.run P (Sem.program k) w = Sem.run P (k P) w from fun _ => rfl]
    simp only [Sem.bind]
    have hb0 : ∀ (d : TypeDesc) (f : TypeDesc → Sem Value), Sem.bind (pure d) f = f d := fun _ _ => rfl
    by_cases h1 : n = 0 ∨ n2 = 0 ∨ i.size = 0
    · simp [hu, hb0, Go.sizeOf, typeInfo, hq, h1]
    · simp [hu, hb0, Go.sizeOf, typeInfo, hq, h1, hne, World.frozen?, ha, hb, noView, viewAt, World.shape?, mayBeOne, stringish]
end
end Go.Proofs.Ytoffcoegghigoaa
