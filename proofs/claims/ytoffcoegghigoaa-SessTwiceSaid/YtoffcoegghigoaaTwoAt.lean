/- A slice of two structs, built: law over any program. -/
import Derived.Test.YtoffcoegghigoaaArr
import Derived.Test.YtoffcoegghigoaaScript
import Derived.Great.Walk
namespace Go.Proofs.Ytoffcoegghigoaa
open Go.RowKit

theorem run_two_at {P : Program} {w : World} {a : Act} {dst : Option Tmp} {ty' : TypeId} {pos : String} {after : Array Edge} {g : Option (Nat × Bool)} {t : TypeId} {x0 x1 : Operand}
    {e : TypeId} {z : Value} {size bytes : Nat} (ht : P.underlying t = some (.slice e)) (hinfo : (P.info? e).map (fun i => (i.zero, i.size, i.bytes)) = some (some z, size, bytes)) (hzs : 0 < size ∧ size ≤ 6000)
    (h0 : (aggOf (a.eval x0)).size = size) (h1 : (aggOf (a.eval x1)).size = size) : (execOp a.eval ⟨dst, .buildSlice t 2 #[(0, x0), (1, x1)], ty', pos, after, g⟩).run P w = .ok (.value (.slice (some ⟨w.heap.size, 0, none⟩) 2 2)) (w.alloc (.cells (aggOf (a.eval x0) ++ aggOf (a.eval x1)) e)) := by
  rw [aggOf_cells] at h0 h1 ⊢
  rw [aggOf_cells]
  obtain ⟨i, hi, hz, hs, hb⟩ := info_parts hinfo
  unfold execOp
  simp only [Sem.run_bind, List.map_toArray, List.map_cons, List.map_nil]
  have hf : Instr.fill (fun j => some (j * i.size, i.size)) ((Array.range (2 * i.size)).map (z.cells[· % z.cells.size]!)) [(0, a.eval x0), (1, a.eval x1)] = some ((a.eval x0).cells ++ (a.eval x1).cells) := by
    have h := Go.Great.fill_whole (s := i.size) (by rw [hs]; omega) [a.eval x0, a.eval x1] ((Array.range (2 * i.size)).map (z.cells[· % z.cells.size]!))
      (fun v hv => by
        simp only [List.mem_cons, List.not_mem_nil, or_false] at hv
        rcases hv with rfl | rfl
        · rw [hs]; exact h0
        · rw [hs]; exact h1) (by simp)
    refine h.trans ?_
    simp
  rw [run_buildSlice w t e 2 _ ((a.eval x0).cells ++ (a.eval x1).cells) i z ht hi hz (by rw [hs]; omega) (by rw [hs]; omega) hf]
  rfl
theorem cameV_run' {P : Program} {V : Value → (World → Prop) → Prop} {v : Value} {w' : World} {r : Result Next} (h : r = .ok (.value v) w') (hi : ∃ I', V v I' ∧ I' w') : CameV P V r := by
  subst h
  exact hi
end Go.Proofs.Ytoffcoegghigoaa
