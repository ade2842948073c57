/- The walks of the document's words of moves (layer 24): parts, names, hexed. Condition: lengths. -/
import Derived.Test.YtaafedpjifaghaaDoorRfF
import Derived.Test.YtaafedpjifaghaaDoorGp8
set_option linter.unusedVariables false
set_option linter.unusedSimpArgs false
namespace Go.Proofs.YtaafedpjifaghaaDoor
open Go.RowKit

def partTexts : List (List UInt8) := [[97], [97, 116], [97, 110], [97, 110], [110], [97, 110], [97, 116], [97, 116, 110]]
def nameTexts : List (List UInt8) := [[108, 97, 121], [115, 119, 97, 112], [100, 114, 111, 112], [111, 108, 100], [98, 97, 99, 107], [116, 117, 114, 110], [99, 111, 112, 121], [115, 104, 105, 102, 116]]
set_option maxHeartbeats 2000000 in
set_option maxRecDepth 100000 in
theorem ref24_parts {k : Int} (h0 : 0 ≤ k) (h1 : k ≤ 7) (w : World) : Calls Tryd.prog 44 #[.int .i64 k] w fun e w' => e = .returned (.string ⟨(partsM k).toArray⟩) ∧ Below w.heap.size w w' := by
  obtain ⟨b, hb⟩ : ∃ g, w.heap.size = g := ⟨_, rfl⟩
  have H : St (fun _ => False) w (w.alloc (.cells (texts partTexts).toArray 9)) [Blk b (texts partTexts).toArray 9] := (St.nil _ w).allocAt hb _ _
  unfold partTexts texts textV at H
  simp only [List.map_cons, List.map_nil] at H
  rcases eight h0 h1 with rfl | rfl | rfl | rfl | rfl | rfl | rfl | rfl
  all_goals
    go_enter Tryd.func44, Tryd.ntmps44
    go_wp2
    go_ret
    exact ⟨rfl, H.below (Nat.le_refl _) (fun _ h => h.elim)⟩
set_option maxHeartbeats 2000000 in
set_option maxRecDepth 100000 in
theorem ref24_names (w : World) : Calls Tryd.prog 43 #[] w fun e w' => ∃ g, e = .returned (.slice (some ⟨g, 0, none⟩) 8 8) ∧ St (fun _ => False) w w' [Blk g (texts nameTexts).toArray 9] := by
  obtain ⟨b, hb⟩ : ∃ g, w.heap.size = g := ⟨_, rfl⟩
  have H : St (fun _ => False) w (w.alloc (.cells (texts nameTexts).toArray 9)) [Blk b (texts nameTexts).toArray 9] := (St.nil _ w).allocAt hb _ _
  go_enter Tryd.func43, Tryd.ntmps43
  go_wp2
  go_ret
  exact ⟨b, rfl, H⟩

theorem hexGo_take {s : List UInt8} {i : Nat} (hi : i < s.length) (b : Bool) (out : List UInt8) : hexGo (s.drop i) b out = if hexD 16 s[i] < 0 then none else if b = true then hexGo (s.drop (i + 1)) false (out ++ [UInt8.ofNat (16 * (hexD 16 s[i]).toNat)]) else hexGo (s.drop (i + 1)) true (out.dropLast ++ [out.getLast?.getD 0 + UInt8.ofNat (hexD 16 s[i]).toNat]) := by
  rw [List.drop_eq_getElem_cons hi]
  cases b <;> simp [hexGo]
def hexL : List UInt8 := [48, 49, 50, 51, 52, 53, 54, 55, 56, 57, 97, 98, 99, 100, 101, 102]
theorem hexL_at {k : Nat} (h : k < 16) : hexL[k]? = some (digit16 k) := by
  unfold digit16 hexL
  rw [List.getD_eq_getElem?_getD, List.getElem?_eq_getElem (by simpa using h)]; rfl
theorem u8_mul {d : Nat} (h : d < 16) : IntKind.u8.wrap (16 * (d : Int)) = (((UInt8.ofNat (16 * d)).toNat : Nat) : Int) := by
  have e : (UInt8.ofNat (16 * d)).toNat = 16 * d := by simp; omega
  rw [e]
  have : ∀ d : Fin 16, IntKind.u8.wrap (16 * ((d.val : Nat) : Int)) = ((16 * d.val : Nat) : Int) := by decide
  exact this ⟨d, h⟩
theorem u8_one {d : Nat} (h : d < 16) : IntKind.u8.wrap (d : Int) = (((UInt8.ofNat d).toNat : Nat) : Int) := by
  have e : (UInt8.ofNat d).toNat = d := by simp; omega
  rw [e]
  have : ∀ d : Fin 16, IntKind.u8.wrap ((d.val : Nat) : Int) = ((d.val : Nat) : Int) := by decide
  exact this ⟨d, h⟩
theorem u8_sum (a b : UInt8) : IntKind.u8.wrap ((a.toNat : Int) + (b.toNat : Int)) = (((a + b).toNat : Nat) : Int) := by
  rw [UInt8.toNat_add]
  simp [IntKind.wrap, IntKind.signed, IntKind.bits]

end Go.Proofs.YtaafedpjifaghaaDoor
