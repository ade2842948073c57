/- What the ring's statements ask first. A walk without condition. -/
import Derived.Test.YtbikjhmdpgoofabRingD
namespace Go.Proofs.Ytbikjhmdpgoofab
open Go.RowKit

theorem rwGo_good (f l v : Int) (b : List UInt8) : ∀ (k i : Nat) (m : StM), m.Good → m.waits.length + k ≤ 900000 → (rwGo f l v b k i m).2.Good ∧ (rwGo f l v b k i m).2.waits.length ≤ m.waits.length + k
  | 0, _, m, hg, _ => ⟨hg, Nat.le_refl _⟩
  | k + 1, i, m, hg, hw => by
    have h1 := write_good hg (by omega) (blockI f l (v + i)) ((b.drop (128 * i)).take 128)
    have h2 := write_waits (m := m) (blockI f l (v + i)) ((b.drop (128 * i)).take 128)
    rw [rwGo]
    split
    · have := rwGo_good f l v b k (i + 1) _ h1 (by omega)
      exact ⟨this.1, by omega⟩
    · exact ⟨h1, by omega⟩
theorem rwrite_good {m : StM} (hg : m.Good) (f l v : Int) (b : List UInt8) (hw : m.waits.length + b.length / 128 ≤ 900000) : (m.rwrite f l v b).2.Good ∧ (m.rwrite f l v b).2.waits.length ≤ m.waits.length + b.length / 128 := by
  unfold StM.rwrite
  split
  · exact ⟨hg, Nat.le_add_right _ _⟩
  · split
    · exact ⟨hg, Nat.le_add_right _ _⟩
    · exact rwGo_good _ _ _ _ _ _ _ hg hw
theorem rrGo_good (f l v : Int) : ∀ (k i : Nat) (m : StM) (out : List UInt8), m.Good → (rrGo f l v k i m out).2.2.Good
  | 0, _, _, _, hg => hg
  | k + 1, i, m, out, hg => by
    have h1 := read_good hg (blockI f l (v + i))
    rw [rrGo]
    split
    · exact rrGo_good f l v k (i + 1) _ _ h1
    · exact h1
theorem rread_good {m : StM} (hg : m.Good) (f l v : Int) (n : Nat) : (m.rread f l v n).2.2.Good := by
  unfold StM.rread
  split
  · exact hg
  · exact rrGo_good _ _ _ _ _ _ _ hg

theorem ring_write_nil (f l v : Int) (ad : Option Addr) (n cap : Nat) (w : World) (hn : n ≤ 9223372036854775807) : Calls Try.prog 15 #[.pointer none, ringV f l, .int .i64 v, .slice ad n cap] w fun e w' => e = .returned (.int .i64 1) ∧ Below w.heap.size w w' := by
  have H := (St.nil (fun _ => False) w).allocAt rfl #[.int .i64 f, .int .i64 l] 23
  obtain ⟨N, hN⟩ : ∃ N, n / 128 = N := ⟨_, rfl⟩
  have hdiv : ((n : Int).tdiv 128) = (N : Int) := by rw [Int.tdiv_eq_ediv_of_nonneg (by omega)]; omega
  unfold ringV
  go_enter Try.func15, Try.ntmps15
  go_wp2_with fail
  refine (St.callPast (ring_run_nil f l v N _) H).mono ?_
  rintro e w1 ⟨rfl, H1⟩
  go_wp2
  go_ret
  exact ⟨rfl, H1.below (Nat.le_refl _) (fun _ h => h.elim)⟩

def bb15 : List UInt8 := 5 :: (List.replicate 254 0 ++ [6])
def m15b : StM := ((newStore 10).rwrite 2 8 8 bb15).2
def m15c : StM := (m15b.rread 2 8 8 2).2.2
def m15d : StM := (m15c.read 2).2.2
def r15 : List UInt8 := (m15b.rread 2 8 8 2).1
def x15 : List UInt8 := (m15c.read 2).1
theorem g15 : m15b.Good ∧ m15c.Good ∧ m15d.Good := by
  have hb : m15b.Good := (rwrite_good (newStore_good (n := 10) (by omega) (by omega)) 2 8 8 bb15 (by decide +kernel)).1
  have hc : m15c.Good := rread_good hb _ _ _ _
  exact ⟨hb, hc, read_good hc _⟩
theorem e15 : ((newStore 10).rwrite 2 8 8 bb15).1 = 0 ∧ (m15b.rread 2 8 8 2).2.1 = 0 ∧ (m15c.read 2).2.1 = 0 ∧ r15 = bb15 ∧ x15.length = 128 ∧ x15[0]? = some 5 ∧
    startI 2 8 6 3 = 8 ∧ blockI 2 8 9 = 3 ∧ roomI 2 8 0 5 3 = true ∧ roomI 2 8 0 6 3 = false ∧ rightI 2 8 10 = true ∧ rightI 2 8 9 = false := by decide +kernel
theorem bb15_len : bb15.length = 256 := by decide +kernel

set_option maxRecDepth 100000 in
theorem make256 : ∃ a0 : Array Value, a0 = (bvs (List.replicate 256 0)).toArray ∧ ∀ w, (Instr.makeSlice 29 (.int .i64 256) (.int .i64 256)).run Try.prog w = .ok (.slice (some ⟨w.heap.size, 0, none⟩) 256 256) (w.alloc (.cells a0 5)) := by
  obtain ⟨i5, hi5, hz5, hs5, hb5⟩ := info_parts Try.info5
  refine ⟨_, rfl, fun w => ?_⟩
  have hm1 := run_make (P := Try.prog) w 29 5 i5 _ Try.underlying29 hi5 hz5 .i64 .i64 256 256 (by omega) (by omega) (by rw [hb5]; omega) (by omega)
  rw [hm1]
  rw [made_all (.int .u8 0) _ _ (fun i hi => by
      have hi' : i = 0 := by simpa [Value.cells] using hi
      subst hi'; simp [Value.cells]) (by simp [Value.cells]), hs5]
  congr 3
set_option maxRecDepth 100000 in
theorem bb15_cells : ((bvs (List.replicate 256 0)).toArray.setIfInBounds 0 (.int .u8 5)).setIfInBounds 255 (.int .u8 6) = (bvs bb15).toArray := by
  kernel_rfl

end Go.Proofs.Ytbikjhmdpgoofab
