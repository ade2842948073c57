import Derived.Test.YtaafedpjifaghaaDoorGp1
import Derived.Test.YtaafedpjifaghaaDoorGp2
import Derived.Laws.BytesArg
import Derived.Deep.Upon
import Derived.Laws.CopyOwn
import Derived.Deep.MidRow
import Derived.ArgAppend
import Derived.Deep.DeepAppendWide
import Derived.Lib.AppendZeros
import Derived.IntWalk
/- StoreLasts: a text of bytes; whole bytes of an op; what is asked first. Conditions: what is handed in can be read. -/
set_option linter.unusedVariables false
set_option linter.unusedSimpArgs false
namespace Go.Proofs.YtaafedpjifaghaaDoor
open Go.RowKit

def wholeOf (B : List UInt8) : List UInt8 := if B.length = 1 then B else (List.range 128).map fun i => B.getD (i % B.length) 0
def partOf (B : List UInt8) (k : Nat) : List UInt8 := (List.range 128).map fun i => if i < k then B.getD (i % B.length) 0 else 0

theorem partOf_zero (B : List UInt8) : partOf B 0 = List.replicate 128 0 := by
  unfold partOf
  rw [List.map_congr_left (g := fun _ => (0 : UInt8)) (fun i _ => by simp), List.map_const', List.length_range]
theorem partOf_succ (B : List UInt8) {k : Nat} (hk : k < 128) : partOf B (k + 1) = (partOf B k).set k (B.getD (k % B.length) 0) := by
  apply List.ext_getElem?
  intro i
  rw [List.getElem?_set]
  unfold partOf
  by_cases hi : i < 128
  · simp only [List.getElem?_map, List.getElem?_range hi, Option.map_some, List.length_map, List.length_range, hk]
    by_cases h : k = i
    · subst h; simp
    · simp only [h, if_false]
      congr 1
      by_cases h2 : i < k
      · rw [if_pos h2, if_pos (by omega)]
      · rw [if_neg h2, if_neg (by omega)]
  · rw [List.getElem?_eq_none (by simp; omega)]
    have : k ≠ i := by omega
    rw [if_neg this, List.getElem?_eq_none (by simp; omega)]
theorem length_partOf (B : List UInt8) (k : Nat) : (partOf B k).length = 128 := by simp [partOf]

abbrev opCells (kind at' n : Int) (bv kv : Value) : Array Value := #[.int .i64 kind, .int .i64 at', .int .i64 n, bv, kv]

end Go.Proofs.YtaafedpjifaghaaDoor

/- StoreLasts: what is asked first; a store stays a store. Plain laws, and a walk without condition. -/
set_option linter.unusedVariables false
set_option linter.unusedSimpArgs false
namespace Go.Proofs.YtaafedpjifaghaaDoor
open Go.RowKit

theorem write_good {m : StM} (hg : m.Good) (hw : m.waits.length < 1000000) (at' : Int) (b : List UInt8) : (m.write at' b).2.Good := by
  unfold StM.write
  split
  · exact hg
  · rename_i h1
    split
    · exact hg
    · rename_i h2
      split
      · exact hg
      · obtain ⟨hA, hB⟩ : 0 ≤ at' ∧ at' < m.last.length := by simpa [StM.inn] using h1
        refine ⟨hg.count, hg.full, hg.reads, fun x hx => ?_, ?_, ?_⟩
        · rcases List.mem_append.1 hx with h | h
          · exact hg.waits x h
          · obtain rfl := List.mem_singleton.1 h
            exact ⟨hA, hB, by simpa using h2⟩
        · simp; omega
        · have := hg.calls
          simp only [spendC]
          split <;> omega
theorem write_waits {m : StM} (at' : Int) (b : List UInt8) : (m.write at' b).2.waits.length ≤ m.waits.length + 1 := by
  unfold StM.write
  repeat' split
  all_goals simp
theorem read_good {m : StM} (hg : m.Good) (at' : Int) : (m.read at').2.2.Good := by
  unfold StM.read
  split
  · exact hg
  · split
    · exact hg
    · exact ⟨hg.count, hg.full, by simpa using hg.reads, hg.waits, hg.room, hg.calls⟩
theorem settle_good {m : StM} (hg : m.Good) {lasts : Nat → Nat} (hl : ∀ i, lasts i ≤ 128) : (m.settle lasts).Good := by
  obtain ⟨h1, h2⟩ := settleFrom_good lasts m.last.length m.waits 0 m.last hg.waits rfl hg.full hl
  exact ⟨by simp only [StM.settle, h1]; exact hg.count, h2, by simp only [StM.settle, h1]; exact hg.reads, fun x hx => by simp [StM.settle] at hx, by simp [StM.settle], hg.calls⟩
theorem sync_good {m : StM} (hg : m.Good) : m.sync.2.Good := by
  unfold StM.sync
  split
  · exact hg
  · exact settle_good (spend_good hg) (fun _ => by omega)
theorem crash_good {m : StM} (hg : m.Good) (keep : List Bool) (torn cut : Int) : (m.crash keep torn cut).Good := by
  have := settle_good hg (lasts := crashLasts keep torn cut) (lastOne_le keep torn (by unfold cutOf; split <;> omega))
  exact ⟨this.count, this.full, this.reads, this.waits, this.room, by simp [StM.crash]⟩

def bb12 : List UInt8 := 7 :: (List.replicate 126 0 ++ [9])
def m12a : StM := ((newStore 2).write 1 bb12).2
def m12b : StM := m12a.crash [] 0 1
def m12c : StM := (m12b.read 1).2.2
def m12d : StM := (m12c.write 1 bb12).2
def m12e : StM := m12d.sync.2
def m12f : StM := m12e.crash [] (-1) 0
def m12g : StM := (m12f.read 1).2.2
theorem g12 : m12a.Good ∧ m12b.Good ∧ m12c.Good ∧ m12d.Good ∧ m12e.Good ∧ m12f.Good ∧ m12g.Good := by
  have ha : m12a.Good := write_good (newStore_good (by omega) (by omega)) (by decide) _ _
  have hb : m12b.Good := crash_good ha _ _ _
  have hc : m12c.Good := read_good hb _
  have hd : m12d.Good := write_good hc (by decide +kernel) _ _
  have he : m12e.Good := sync_good hd
  have hf : m12f.Good := crash_good he _ _ _
  exact ⟨ha, hb, hc, hd, he, hf, read_good hf _⟩
def r12c : List UInt8 := (m12b.read 1).1
def r12g : List UInt8 := (m12f.read 1).1
theorem e12 : ((newStore 2).write 1 bb12).1 = 0 ∧ (m12b.read 1).2.1 = 0 ∧ (m12c.write 1 bb12).1 = 0 ∧ m12d.sync.1 = 0 ∧ (m12f.read 1).2.1 = 0 ∧ m12g.last.length = 2 ∧ (m12g.calls == 0) = false ∧
    r12c.length = 128 ∧ r12c[0]? = some 7 ∧ r12c[127]? = some 0 ∧ r12g.length = 128 ∧ r12g[127]? = some 9 := by decide +kernel

theorem store_new_bad {n : Int} (h : n < 1 ∨ 4096 < n) (w : World) : Calls Tryd.prog 7 #[.int .i64 n] w fun e w' => e = .returned (.tuple #[.pointer none, .int .i64 2]) ∧ w' = w := by
  rcases h with h | h
  · go_enter Tryd.func7, Tryd.ntmps7
    go_wp2
    go_ret2
    exact ⟨rfl, rfl⟩
  · have h0 : ¬ n < 1 := by omega
    go_enter Tryd.func7, Tryd.ntmps7
    go_wp2
    go_ret2
    exact ⟨rfl, rfl⟩

/-- 128 bytes of noughts, made. -/
theorem make128 : ∃ a0 : Array Value, a0 = (bvs (List.replicate 128 0)).toArray ∧ ∀ w, (Instr.makeSlice 38 (.int .i64 128) (.int .i64 128)).run Tryd.prog w = .ok (.slice (some ⟨w.heap.size, 0, none⟩) 128 128) (w.alloc (.cells a0 5)) := by
  obtain ⟨i5, hi5, hz5, hs5, hb5⟩ := info_parts Tryd.info5
  refine ⟨_, rfl, fun w => ?_⟩
  have hm1 := run_make (P := Tryd.prog) w 38 5 i5 _ Tryd.underlying38 hi5 hz5 .i64 .i64 128 128 (by omega) (by omega) (by rw [hb5]; omega) (by omega)
  rw [hm1]
  rw [made_all (.int .u8 0) _ _ (fun i hi => by
      have hi' : i = 0 := by simpa [Value.cells] using hi
      subst hi'; simp [Value.cells]) (by simp [Value.cells]), hs5]
  congr 3
theorem bb12_cells : ((bvs (List.replicate 128 0)).toArray.setIfInBounds 0 (.int .u8 7)).setIfInBounds 127 (.int .u8 9) = (bvs bb12).toArray := by
  simp [bvs, bv, bb12]

end Go.Proofs.YtaafedpjifaghaaDoor

/- A rogue as plain data: moves on a store's blocks, images. Plain laws, no program in sight. -/
set_option linter.unusedVariables false
set_option linter.unusedSimpArgs false
namespace Go.Proofs.YtaafedpjifaghaaDoor

def StM.lays (m : StM) (at' : Int) : List (List UInt8) → StM
  | [] => m
  | b :: r => (m.lay at' b).2.lays (at' + 1) r
def StM.blk (m : StM) (i : Int) : List UInt8 := m.last.getD i.toNat []
def zero128 : List UInt8 := List.replicate 128 0
def turnBit (b : List UInt8) (n : Nat) : List UInt8 := b.set (n / 8) (b.getD (n / 8) 0 ^^^ UInt8.ofNat (2 ^ (n % 8)))
def pad128 (b : List UInt8) : List UInt8 := b ++ List.replicate (128 - b.length) 0

structure Mv where
  kind : Int
  at' : Int
  to : Int
  n : Int
  b : List UInt8
structure RogM where
  s : StM
  imgs : List (List (List UInt8))
structure RogM.Good (r : RogM) : Prop where
  s : r.s.Good
  room : r.imgs.length ≤ 64
  imgs : ∀ y ∈ r.imgs, y.length = r.s.last.length ∧ ∀ x ∈ y, x.length = 128

def noteImgs (l : List (List (List UInt8))) (x : List (List UInt8)) : List (List (List UInt8)) := if (l ++ [x]).length > 64 then (l ++ [x]).drop 1 else l ++ [x]
def RogM.note (r : RogM) : RogM := { r with imgs := noteImgs r.imgs r.s.last }
def RogM.ix (r : RogM) (n : Int) : Nat := (n % r.imgs.length).toNat
def RogM.img (r : RogM) (n : Int) : List (List UInt8) := r.imgs.getD (r.ix n) []
def RogM.put (r : RogM) (s : StM) : RogM := { r with s := s }
def StM.among (m : StM) (at' n : Int) : Prop := 0 ≤ at' ∧ 1 ≤ n ∧ at' ≤ m.last.length - n
instance (m : StM) (at' n : Int) : Decidable (m.among at' n) := inferInstanceAs (Decidable (_ ∧ _ ∧ _))
def RogM.do (r : RogM) (v : Mv) : Bool × RogM :=
  if v.kind = 0 then if r.s.among v.at' 1 ∧ v.b.length ≤ 128 then (true, r.put (r.s.lays v.at' [pad128 v.b])) else (false, r)
  else if v.kind = 1 then if r.s.among v.at' 1 ∧ r.s.among v.to 1 then (true, r.put ((r.s.lays v.at' [r.s.blk v.to]).lays v.to [r.s.blk v.at'])) else (false, r)
  else if v.kind = 2 then if r.s.among v.at' v.n then (true, r.put (r.s.lays v.at' (List.replicate v.n.toNat zero128))) else (false, r)
  else if v.kind = 3 then if r.imgs ≠ [] ∧ r.s.among v.at' 1 then (true, r.put (r.s.lays v.at' [(r.img v.n).getD v.at'.toNat []])) else (false, r)
  else if v.kind = 4 then if r.imgs ≠ [] then (true, r.put (r.s.load (r.img v.n).flatten).2) else (false, r)
  else if v.kind = 5 then if r.s.among v.at' 1 ∧ 0 ≤ v.n ∧ v.n ≤ 1023 then (true, r.put (r.s.lays v.at' [turnBit (r.s.blk v.at') v.n.toNat])) else (false, r)
  else if v.kind = 6 then if r.s.among v.at' 1 ∧ r.s.among v.to 1 then (true, r.put (r.s.lays v.to [r.s.blk v.at'])) else (false, r)
  else if v.kind = 7 then if r.s.among v.at' v.n ∧ -v.at' ≤ v.to ∧ v.to ≤ r.s.last.length ∧ r.s.among (v.at' + v.to) v.n then (true, r.put (r.s.lays (v.at' + v.to) ((r.s.last.drop v.at'.toNat).take v.n.toNat))) else (false, r)
  else (false, r)

theorem lays_len (at' : Int) : ∀ (l : List (List UInt8)) (m : StM), (m.lays at' l).last.length = m.last.length := by
  intro l
  induction l generalizing at' with
  | nil => intro m; rfl
  | cons b r ih =>
    intro m
    show (((m.lay at' b).2).lays (at' + 1) r).last.length = _
    rw [ih]
    unfold StM.lay
    split <;> simp
theorem lays_good (at' : Int) : ∀ (l : List (List UInt8)) (m : StM), m.Good → (m.lays at' l).Good := by
  intro l
  induction l generalizing at' with
  | nil => intro m h; exact h
  | cons b r ih => intro m h; exact ih (at' + 1) _ (h.lay at' b)
theorem lays_snoc (b : List UInt8) : ∀ (l : List (List UInt8)) (at' : Int) (m : StM), m.lays at' (l ++ [b]) = ((m.lays at' l).lay (at' + l.length) b).2
  | [], at', m => by simp [StM.lays]
  | x :: l, at', m => by
    show ((m.lay at' x).2).lays (at' + 1) (l ++ [b]) = _
    rw [lays_snoc b l]
    show _ = ((((m.lay at' x).2).lays (at' + 1) l).lay (at' + ((x :: l).length : Nat)) b).2
    congr 2
    simp only [List.length_cons]
    omega
theorem note_len (l : List (List (List UInt8))) (x : List (List UInt8)) (h : l.length ≤ 64) : (noteImgs l x).length ≤ 64 ∧ 1 ≤ (noteImgs l x).length := by
  unfold noteImgs
  split <;> simp_all <;> omega
theorem note_mem {l : List (List (List UInt8))} {x y : List (List UInt8)} (h : y ∈ noteImgs l x) : y ∈ l ∨ y = x := by
  unfold noteImgs at h
  split at h
  · have := List.mem_of_mem_drop h
    simpa using this
  · simpa using h
theorem RogM.Good.note {r : RogM} (h : r.Good) : r.note.Good :=
  ⟨h.s, (note_len _ _ h.room).1, fun y hy => by
    rcases note_mem hy with hy | rfl
    · exact h.imgs y hy
    · exact ⟨rfl, h.s.full⟩⟩
theorem RogM.Good.put {r : RogM} (h : r.Good) {s : StM} (hs : s.Good) (hl : s.last.length = r.s.last.length) : (r.put s).Good :=
  ⟨hs, h.room, fun y hy => by
    have := h.imgs y hy
    show y.length = s.last.length ∧ _
    rw [hl]
    exact this⟩
theorem RogM.Good.do {r : RogM} (h : r.Good) (v : Mv) : (r.do v).2.Good := by
  have L : ∀ (at' : Int) (l : List (List UInt8)), (r.put (r.s.lays at' l)).Good := fun at' l => h.put (lays_good at' l _ h.s) (lays_len at' l _)
  unfold RogM.do
  repeat' split
  all_goals first
    | exact h
    | exact L _ _
    | skip
  · exact h.put (lays_good _ _ _ (lays_good _ _ _ h.s)) (by rw [lays_len, lays_len])
  · refine h.put (h.s.load _) ?_
    unfold StM.load
    split <;> simp [chunks_len]
theorem ix_lt {r : RogM} (h : r.imgs ≠ []) (n : Int) : r.ix n < r.imgs.length := by
  have : 0 < r.imgs.length := List.length_pos_iff.2 h
  have h1 := Int.emod_nonneg n (b := (r.imgs.length : Int)) (by omega)
  have h2 := Int.emod_lt_of_pos n (b := (r.imgs.length : Int)) (by omega)
  unfold RogM.ix
  omega
theorem img_mem {r : RogM} (h : r.imgs ≠ []) (n : Int) : r.img n ∈ r.imgs := by
  unfold RogM.img
  rw [List.getD_eq_getElem?_getD, List.getElem?_eq_getElem (ix_lt h n)]
  exact List.getElem_mem _
theorem img_at {r : RogM} (h : r.imgs ≠ []) (n : Int) : r.imgs[r.ix n]? = some (r.img n) := by
  unfold RogM.img
  rw [List.getD_eq_getElem?_getD, List.getElem?_eq_getElem (ix_lt h n)]
  rfl
theorem blk_len {m : StM} (h : m.Good) {i n : Int} (hi : m.among i n) : (m.blk i).length = 128 := by
  unfold StM.among at hi
  unfold StM.blk
  rw [List.getD_eq_getElem?_getD, List.getElem?_eq_getElem (by omega)]
  exact h.full _ (List.getElem_mem _)
theorem pad_len {b : List UInt8} (h : b.length ≤ 128) : (pad128 b).length = 128 := by simp [pad128]; omega
theorem turn_len (b : List UInt8) (n : Nat) : (turnBit b n).length = b.length := by simp [turnBit]

end Go.Proofs.YtaafedpjifaghaaDoor

/- append of any slice, empty or not, onto a row of the call's own. Laws over any program. -/
set_option linter.unusedVariables false
set_option linter.unusedSimpArgs false
namespace Go.Proofs.YtaafedpjifaghaaDoor
open Go.RowKit

theorem slice_form' {w : World} {base : Nat} {e : TypeId} {size : Nat} {v : Value} {n : Nat} {xs : List Value} (h : w.ownsRow base e size v n xs) : ∃ ao cap, v = .slice ao n cap ∧ n ≤ cap ∧ (n ≠ 0 → ∃ g, ao = some ⟨g, 0, none⟩) := by
  rcases own_shape h with ⟨h, h'⟩ | ⟨g, cap, h, h', _⟩
  · exact ⟨none, 0, by rw [h, h'], by omega, fun hn => absurd h' hn⟩
  · exact ⟨_, cap, h, h', fun _ => ⟨g, rfl⟩⟩

section
variable {P : Program} {S : Nat → Prop} {w0 w : World} {l : List SP}
theorem St.grown' (h : St S w0 w l) (i : Nat) {e : TypeId} {size : Nat} {v : Value} {n : Nat} {xs : List Value} (hi : l[i]? = some (Row e size v n xs)) {w' : World} {v' : Value} {n' : Nat} {xs' : List Value}
    (ho : w'.ownsRow 0 e size v' n' xs') (hg : w.grownBy w' v.ownBlock) (hat : v'.ownBlock = v.ownBlock ∨ v'.ownBlock = some w.heap.size) : St S w0 w' (l.set i (Row e size v' n' xs')) := by
  obtain ⟨S1, h1, h2⟩ := h.turn i hi
  refine h2 (S1' := fun k => v'.ownBlock = some k) ?_ ⟨ho, fun k => Iff.rfl⟩ ?_
  · exact (Kept.refl _ _).grown hg (fun k _ e => (h1.2 k).2 e)
  · intro k hk
    rcases hat with a | a
    · exact .inl ((h1.2 _).2 (a ▸ hk))
    · right; rw [a] at hk; have := Option.some.inj hk; omega
theorem src_none (w : World) {t e : TypeId} (ht : P.underlying t = some (.slice e)) (size c : Nat) : Src P size t (.slice none 0 c) 0 [] w :=
  ⟨.inl ⟨e, ht⟩, fun w' => by simp [Builtin.lenOf], by simp [Builtin.firstCells], by simp [Builtin.firstCells], by simp, by simp⟩
theorem St.run_append (H : St S w0 w l) (i : Nat) {e : TypeId} {size : Nat} {v : Value} {n : Nat} {xs : List Value} (hi : l[i]? = some (Row e size v n xs))
    {t ty : TypeId} {z : Value} {bytes : Nat} (ht : P.underlying t = some (.slice e))
    (hinfo : (P.info? e).map (fun i => (i.zero, i.size, i.bytes)) = some (some z, size, bytes)) (hzs : z.cells.size = size ∧ 0 < size ∧ 0 < bytes)
    {A : Option Addr} {c m : Nat} (news : List Value) (hl : news.length = m * size) (hA : A = none → m = 0) (hnews : ∀ ad, A = some ad → ∀ j u, news[j]? = some u → w.cell? (ad.add j) = some u) (h1 : ∀ u ∈ news, u.oneCell' = true)
    (hbytes : (n + m) * bytes ≤ 140737488355328) :
    ∃ v' w', (Builtin.append_ #[t, t] ty #[v, .slice A m c]).run P w = .ok v' w' ∧ St S w0 w' (l.set i (Row e size v' (n + m) (xs ++ news))) ∧ w.heap.size ≤ w'.heap.size := by
  obtain ⟨ti, hti, hz, hsz, hby⟩ := info_parts hinfo
  cases A with
  | none =>
    obtain rfl := hA rfl
    obtain rfl : news = [] := List.eq_nil_of_length_eq_zero (by simpa using hl)
    obtain ⟨ao, cap, rfl, hle⟩ : ∃ ao cap, v = .slice ao n cap ∧ n ≤ cap := by
      rcases own_shape (H.row i hi) with ⟨h, h'⟩ | ⟨g, cap, h, h', _⟩
      · exact ⟨none, 0, by rw [h, h'], by omega⟩
      · exact ⟨_, cap, h, h'⟩
    refine ⟨_, w, run_append_nothing w t t ty e ti ht hti ao n cap hle _ (src_none w ht _ c), ?_, Nat.le_refl _⟩
    rw [List.append_nil, Nat.add_zero]
    exact H.grown' i hi (H.row i hi) (World.grownBy.refl w _) (.inl rfl)
  | some ad =>
    obtain ⟨v', w', hr, h2, h3, _, h5⟩ := run_append_own_at (P := P) w 0 t ty e ti z size bytes ht hti hz hsz hby hzs.1 hzs.2.1 v n xs (H.row i hi) ad m c news hl (hnews ad rfl) h1
      (by have := Nat.le_mul_of_pos_right (n + m) hzs.2.2; unfold maxLen; omega) hbytes (Nat.zero_le _)
    exact ⟨v', w', hr, H.grown' i hi h2 h3 h5, h3.size⟩
/-- The same at a plain region's operation. -/
theorem St.list_add (H : St S w0 w l) (i : Nat) {e : TypeId} {size : Nat} {v : Value} {n : Nat} {xs : List Value} (hi : l[i]? = some (Row e size v n xs))
    {ops : Array Oper} {rest : List Oper} {o : Oper} {a : Act} {Q : Exit → Act → World → Prop} (hgd : o.guard = none) (s x : Operand) (t : TypeId)
    (ho : o.op = .call { callee := .builtin .append, args := #[s, x], argTypes := #[t, t] }) {z : Value} {bytes : Nat} (ht : P.underlying t = some (.slice e))
    (hinfo : (P.info? e).map (fun i => (i.zero, i.size, i.bytes)) = some (some z, size, bytes)) (hzs : z.cells.size = size ∧ 0 < size ∧ 0 < bytes)
    (hs : a.eval s = v) {A : Option Addr} {c m : Nat} (news : List Value) (hx : a.eval x = .slice A m c) (hl : news.length = m * size) (hA : A = none → m = 0) (hnews : ∀ ad, A = some ad → ∀ j u, news[j]? = some u → w.cell? (ad.add j) = some u) (h1 : ∀ u ∈ news, u.oneCell' = true)
    (hbytes : (n + m) * bytes ≤ 140737488355328)
    (h : ∀ v' w', St S w0 w' (l.set i (Row e size v' (n + m) (xs ++ news))) → w.heap.size ≤ w'.heap.size → wpList P ops Q rest (a.put o.dst v') w') :
    wpList P ops Q (o :: rest) a w := by
  obtain ⟨v', w', hr, h2, h3⟩ := H.run_append i hi (ty := o.type) (c := c) ht hinfo hzs news hl hA hnews h1 hbytes
  refine wpList_plain hgd fun _ hK => ?_
  unfold Oper.wp execOp
  simp only [ho, resolve, invoke, builtin, Sem.run_bind, Sem.run_pure, Result.andThen_ok, List.map_toArray, List.map_cons, List.map_nil, hs, hx, hr]
  exact hK _ _ (h v' w' h2 h3)
end

/-- A call on one part whose result is some value, in the midst of a call. -/
theorem St.callEx {α : Type} {S : Nat → Prop} {w w' : World} {A : SP} {A' : α → List SP} {L : List SP} {P : Program} {fid : Nat} {args : Array Value} {p : α → Ending → Prop}
    (hc : ∀ S', Sep w' [A] S' → Calls P fid args w' fun e w2 => ∃ x, p x e ∧ St S' w' w2 (A' x)) (H : St S w w' (A :: L)) : Calls P fid args w' fun e w2 => ∃ x, p x e ∧ St S w w2 (A' x ++ L) := by
  obtain ⟨S1, K1, G1⟩ := St.call (l1 := [_]) H
  exact (hc S1 K1).mono fun _ _ ⟨x, h1, h2⟩ => ⟨x, h1, G1 _ _ h2⟩

/-- The first parts are handed to a call, the others may be read meanwhile. -/
theorem St.lendAll {S : Nat → Prop} {w0 w : World} {l1 rest : List SP} (H : St S w0 w (l1 ++ rest)) :
    ∃ S1, Sep w l1 S1 ∧ (∀ (i : Nat) (A : SP), rest[i]? = some A → ∃ S2 : Nat → Prop, A.on w S2 ∧ ∀ k, S2 k → ¬ S1 k) ∧ ∀ w' l1', St S1 w w' l1' → St S w0 w' (l1' ++ rest) := by
  obtain ⟨S1, h1, h2, h3⟩ := H.sep.split
  obtain ⟨f, f1, _⟩ := h3.fps
  refine ⟨S1, h2, fun i A hi => ⟨f i, (f1 i A hi).1, fun k hk => ((f1 i A hi).2 k hk).2⟩, fun w' l1' G => ⟨?_, ?_⟩⟩
  · refine H.kept.trans' G.kept (fun i hi hs => ?_)
    rcases (h1 i hs).1 with a | a
    · exact a
    · omega
  · have hsz := H.kept.size
    refine Sep.join G.sep ?_ (((h3.clip).move ?_).mono ?_)
    · rintro k _ (a | a)
      · exact (h1 k a).1
      · exact .inr (by omega)
    · rintro k hk ⟨⟨_, b⟩, _⟩
      exact G.kept.block k hk b
    · rintro k _ ⟨⟨a, b⟩, c⟩
      exact ⟨a, by rintro (d | d); exact b d; omega⟩

/-- A block of any kind. -/
def ObjAt (b : Nat) (o : Obj) : SP where
  on w S := w.heap[b]? = some o ∧ ∀ k, S k ↔ k = b
  loc w w' S h hs := ⟨(hs b ((h.2 b).2 rfl)).trans h.1, h.2⟩
  lt w S k h hk := by
    obtain rfl := (h.2 k).1 hk
    exact blk_lt h.1
theorem St.allocObj {S : Nat → Prop} {w0 w : World} {l : List SP} (h : St S w0 w l) {B : Nat} (hB : w.heap.size = B) (o : Obj) : St S w0 (w.alloc o) (ObjAt B o :: l) := by
  subst hB
  refine ⟨h.kept.alloc _, fun k => k = w.heap.size, ⟨heap_alloc_new _ _, fun _ => Iff.rfl⟩, fun k e => .inr (by have := h.size; omega), ?_⟩
  refine (h.sep.clip.move (fun k hk _ => heap_alloc_old _ _ hk)).mono ?_
  rintro k _ ⟨a, b⟩
  exact ⟨a, by omega⟩

end Go.Proofs.YtaafedpjifaghaaDoor

/- An array by value into the midst of a block. Laws over any program. -/
set_option linter.unusedVariables false
set_option linter.unusedSimpArgs false
namespace Go.Proofs.YtaafedpjifaghaaDoor
open Go.RowKit

def mayCells (w : World) (b o n : Nat) : Bool := (List.range n).all fun j => (w.cell? ⟨b, o + j, none⟩).isSome && !(w.frozen? ⟨b, o + j, none⟩)
@[go_sem] theorem mayCells_drew (w : World) (b o n : Nat) : mayCells w.drew b o n = mayCells w b o n := rfl
theorem mayCells_there {w : World} {b o n : Nat} (h : mayCells w b o n = true) : w.there b o n := fun j hj => by
  have := List.all_eq_true.1 h j (by simpa using hj)
  simpa using this
theorem mayCells_blk {w : World} {b o n : Nat} {cs : Array Value} {t : TypeId} (h : w.heap[b]? = some (.cells cs t (0, 0))) (hn : o + n ≤ cs.size) : mayCells w b o n = true := by
  refine List.all_eq_true.2 fun j hj => ?_
  have hj' : j < n := by simpa using hj
  rw [cell_blk h, free_blk h, Array.getElem?_eq_getElem (by omega)]
  rfl
theorem run_store_mid {P : Program} {w : World} {a : Act} {dst : Option Tmp} {ty' : TypeId} {pos : String} {after : Array Edge} {g : Option (Nat × Bool)} {t : TypeId} {x y : Operand} {n : Nat}
    (hi : (P.info? t).map (·.size) = some n) (hp : plainPtr (a.eval x) = true) (hr : mayCells w (blockOf (a.eval x)) (placeOf (a.eval x)) n = true) (hv : isAggV (a.eval y) = true) (hs : (aggOf (a.eval y)).size = n) (h1 : allOne (aggOf (a.eval y)) = true) :
    (execOp a.eval ⟨dst, .store t x y, ty', pos, after, g⟩).run P w = .ok .skip (w.setCells (blockOf (a.eval x)) (placeOf (a.eval x)) (aggOf (a.eval y)).toList) := by
  cases hx : a.eval x with
  | pointer q =>
    cases q with
    | none => rw [hx] at hp; cases hp
    | some ad =>
      obtain ⟨b, o, sp⟩ := ad
      rw [hx] at hp hr
      obtain rfl : sp = none := by simpa [plainPtr] using hp
      cases hy : a.eval y with
      | agg cells =>
        rw [hy] at hs h1
        rw [aggOf_lit] at hs h1
        have := run_storeAt_mid (P := P) w b o t cells (by rw [hs]; exact mayCells_there hr) (by rw [hi, hs]) h1
        unfold execOp
        simp only [hx, hy, Sem.run_bind, this, Result.andThen_ok]
        rfl
      | _ => rw [hy] at hv; cases hv
  | _ => rw [hx] at hp; cases hp
theorem splice_cons (cs : List Value) (o : Nat) (v : Value) (r : List Value) (h : o < cs.length) : splice (cs.set o v) (o + 1) r = splice cs o (v :: r) := by
  unfold splice
  rw [List.set_eq_take_append_cons_drop, if_pos h]
  have e1 : (cs.take o).length = o := by rw [List.length_take]; omega
  rw [List.take_append, List.drop_append, e1, List.take_of_length_le (l := cs.take o) (by omega), show o + 1 - o = 1 by omega]
  rw [List.take_succ_cons, List.take_zero, List.drop_of_length_le (l := cs.take o) (by omega), show o + 1 + r.length - o = r.length + 1 by omega, List.drop_succ_cons, List.drop_drop, List.length_cons]
  simp only [List.append_assoc, List.cons_append, List.nil_append]
  rw [show o + 1 + r.length = o + (r.length + 1) by omega]
theorem St.setCells {S : Nat → Prop} {w0 : World} (i : Nat) {b : Nat} {t : TypeId} : ∀ (vs : List Value) (o : Nat) (cs : List Value) (w : World) (l : List SP), St S w0 w l → l[i]? = some (Blk b cs.toArray t) → o + vs.length ≤ cs.length → St S w0 (w.setCells b o vs) (l.set i (Blk b (splice cs o vs).toArray t))
  | [], o, cs, w, l, H, hi, _ => by
    have e : splice cs o [] = cs := by simp [splice]
    rw [e]
    have hs : l.set i (Blk b cs.toArray t) = l := by
      refine List.ext_getElem? fun j => ?_
      rw [List.getElem?_set]
      split
      · rename_i h
        subst h
        rw [if_pos (List.getElem?_eq_some_iff.1 hi).1, hi]
      · rfl
    rw [hs]
    exact H
  | v :: r, o, cs, w, l, H, hi, hle => by
    simp only [List.length_cons] at hle
    have h := H.set i hi o v
    have hlt := (List.getElem?_eq_some_iff.1 hi).1
    have e : (cs.toArray.setIfInBounds o v) = (cs.set o v).toArray := by simp
    rw [e] at h
    have h2 := St.setCells i r (o + 1) (cs.set o v) _ _ h (by rw [List.getElem?_set_self hlt]) (by rw [List.length_set]; omega)
    rw [List.set_set, splice_cons _ _ _ _ (by omega)] at h2
    exact h2

end Go.Proofs.YtaafedpjifaghaaDoor

/- Rows that begin anywhere in their block, and lists of slices that are each of the call's own. Laws over any program. -/
set_option linter.unusedVariables false
set_option linter.unusedSimpArgs false
namespace Go.Proofs.YtaafedpjifaghaaDoor
open Go.RowKit

/-- A slice that owns its row, wherever in its block the row begins. -/
def Off (e : TypeId) (size : Nat) (v : Value) (n : Nat) (xs : List Value) : SP where
  on w S := xs.length = n * size ∧ ((v = .slice none 0 0 ∧ n = 0 ∧ ∀ k, ¬ S k) ∨ ∃ (g o cap : Nat) (cs : List Value), v = .slice (some ⟨g, o, none⟩) n cap ∧ n ≤ cap ∧ w.heap[g]? = some (.cells cs.toArray e (0, 0)) ∧ o + cap * size = cs.length ∧
      (∀ j u, xs[j]? = some u → cs[o + j]? = some u) ∧ cap ≤ maxLen ∧ ∀ k, S k ↔ k = g)
  loc w w' S h hs := by
    refine ⟨h.1, ?_⟩
    rcases h.2 with h | ⟨g, o, cap, cs, h1, h2, h3, h4, h5, h6, h7⟩
    · exact .inl h
    · exact .inr ⟨g, o, cap, cs, h1, h2, (hs g ((h7 g).2 rfl)).trans h3, h4, h5, h6, h7⟩
  lt w S k h hk := by
    rcases h.2 with ⟨_, _, h⟩ | ⟨g, o, cap, cs, h1, h2, h3, h4, h5, h6, h7⟩
    · exact absurd hk (h k)
    · obtain rfl := (h7 k).1 hk
      exact blk_lt h3
section
variable {S : Nat → Prop} {w0 w w' : World} {L : List SP} {e : TypeId} {size n : Nat} {v : Value} {xs : List Value}
theorem St.off_nil (h : St S w0 w L) (e : TypeId) (size : Nat) : St S w0 w (Off e size (.slice none 0 0) 0 [] :: L) :=
  ⟨h.kept, fun _ => False, ⟨by simp, .inl ⟨rfl, rfl, fun _ h => h⟩⟩, fun _ h => h.elim, h.sep.mono (fun _ _ h => ⟨h, id⟩)⟩
theorem Row.off {S1 : Nat → Prop} (h : (Row e size v n xs).on w S1) : (Off e size v n xs).on w S1 := by
  obtain ⟨h1, h2⟩ := h
  refine ⟨h1.1, ?_⟩
  rcases h1.2 with ⟨rfl, rfl⟩ | ⟨g, cap, cur, rfl, hbg, hg, hnc, hcm, hcs, htake⟩
  · exact .inl ⟨rfl, rfl, fun k hk => by have := (h2 k).1 hk; simp [Value.ownBlock] at this⟩
  · refine .inr ⟨g, 0, cap, cur.toList, rfl, hnc, by simpa using hg, by simpa using hcs.symm, fun j u hj => ?_, hcm, fun k => (h2 k).trans (by simp [Value.ownBlock, eq_comm])⟩
    rw [Nat.zero_add]
    have hlt : j < xs.length := (List.getElem?_eq_some_iff.1 hj).1
    rw [← hj, ← htake, List.getElem?_take, if_pos (by rw [← h1.1]; exact hlt)]
theorem St.off_row (h : St S w0 w (Row e size v n xs :: L)) : St S w0 w (Off e size v n xs :: L) := by
  obtain ⟨hk, S1, h1, h2, h3⟩ := h
  exact ⟨hk, S1, Row.off h1, h2, h3⟩
theorem Off.shape {S1 : Nat → Prop} (h : (Off e size v n xs).on w S1) : ∃ ao cap, v = .slice ao n cap ∧ n ≤ cap ∧ (n ≠ 0 → ∃ g o, ao = some ⟨g, o, none⟩) := by
  rcases h.2 with ⟨rfl, rfl, _⟩ | ⟨g, o, cap, cs, rfl, h2, _⟩
  · exact ⟨none, 0, rfl, Nat.le_refl _, fun h => absurd rfl h⟩
  · exact ⟨_, cap, rfl, h2, fun _ => ⟨g, o, rfl⟩⟩
theorem Off.cell {S1 : Nat → Prop} {g o m cap : Nat} (h : (Off e size (.slice (some ⟨g, o, none⟩) m cap) n xs).on w S1) {j : Nat} {u : Value} (hj : xs[j]? = some u) : w.cell? ⟨g, o + j, none⟩ = some u := by
  rcases h.2 with ⟨h1, _⟩ | ⟨g', o', cap', cs, h1, h2, h3, h4, h5, _⟩
  · cases h1
  · simp only [Value.slice.injEq, Option.some.injEq, Addr.mk.injEq] at h1
    obtain ⟨⟨rfl, rfl, _⟩, _, _⟩ := h1
    rw [cell_blk h3]
    simpa using h5 j u hj
/-- The first ones let go. -/
theorem St.off_drop {g o k m cap : Nat} (h : St S w0 w (Off e size (.slice (some ⟨g, o, none⟩) n cap) n xs :: L)) (hk : k + m = n) (hkc : k < cap) : St S w0 w (Off e size (.slice (some ⟨g, o + k * size, none⟩) m (cap - k)) m (xs.drop (k * size)) :: L) := by
  obtain ⟨hk', S1, h1, h2, h3⟩ := h
  refine ⟨hk', S1, ⟨?_, ?_⟩, h2, h3⟩
  · rw [List.length_drop, h1.1, ← hk, Nat.add_mul]; omega
  · rcases h1.2 with ⟨h1, _⟩ | ⟨g', o', cap', cs, e1, e2, e3, e4, e5, e6, e7⟩
    · cases h1
    · simp only [Value.slice.injEq, Option.some.injEq, Addr.mk.injEq] at e1
      obtain ⟨⟨rfl, rfl, _⟩, _, rfl⟩ := e1
      refine .inr ⟨g, o + k * size, cap - k, cs, rfl, by omega, e3, ?_, fun j u hj => ?_, by omega, e7⟩
      · have : k * size + (cap - k) * size = cap * size := by rw [← Nat.add_mul]; congr 1; omega
        omega
      · rw [List.getElem?_drop] at hj
        have := e5 _ _ hj
        rw [Nat.add_assoc]
        exact this
end
theorem setCells_size' (g : Nat) : ∀ (vs : List Value) (o : Nat) (w : World), (w.setCells g o vs).heap.size = w.heap.size
  | [], _, _ => rfl
  | v :: r, o, w => by show ((w.setCell _ v).setCells g (o + 1) r).heap.size = _; rw [setCells_size' g r]; simp
theorem splice_get (cs : List Value) (o : Nat) (vs : List Value) (h : o + vs.length ≤ cs.length) (j : Nat) : (splice cs o vs)[j]? = if j < o then cs[j]? else if j < o + vs.length then vs[j - o]? else cs[j]? := by
  have ht : (cs.take o).length = o := by rw [List.length_take]; omega
  unfold splice
  by_cases h1 : j < o
  · rw [if_pos h1, List.getElem?_append_left (by omega), List.getElem?_take_of_lt h1]
  · rw [if_neg h1, List.getElem?_append_right (by omega), ht]
    by_cases h2 : j < o + vs.length
    · rw [if_pos h2, List.getElem?_append_left (by omega)]
    · rw [if_neg h2, List.getElem?_append_right (by omega), List.getElem?_drop]
      congr 1
      omega
theorem splice_len (cs : List Value) (o : Nat) (vs : List Value) (h : o + vs.length ≤ cs.length) : (splice cs o vs).length = cs.length := by
  unfold splice
  simp only [List.length_append, List.length_take, List.length_drop]
  omega
section
variable {P : Program} {S : Nat → Prop} {w0 w : World} {L : List SP} {e : TypeId} {size n : Nat} {v : Value} {xs : List Value}
theorem St.off_append (H : St S w0 w (Off e size v n xs :: L)) {t ty : TypeId} {z : Value} {bytes : Nat} (ht : P.underlying t = some (.slice e))
    (hinfo : (P.info? e).map (fun i => (i.zero, i.size, i.bytes)) = some (some z, size, bytes)) (hzs : z.cells.size = size ∧ 0 < size ∧ 0 < bytes)
    {ad : Addr} {c m : Nat} (news : List Value) (hl : news.length = m * size) (hnews : ∀ j u, news[j]? = some u → w.cell? (ad.add j) = some u) (h1 : ∀ u ∈ news, u.oneCell' = true)
    (hbytes : (n + m) * bytes ≤ 140737488355328) :
    ∃ v' w', (Builtin.append_ #[t, t] ty #[v, .slice (some ad) m c]).run P w = .ok v' w' ∧ St S w0 w' (Off e size v' (n + m) (xs ++ news) :: L) ∧ w.heap.size ≤ w'.heap.size := by
  obtain ⟨ti, hti, hz, hsz, hby⟩ := info_parts hinfo
  have h63 : n + m ≤ maxLen := by have := Nat.le_mul_of_pos_right (n + m) hzs.2.2; unfold maxLen; omega
  obtain ⟨hk, S1, h0, h2, h3⟩ := H
  obtain ⟨hxl, h0⟩ := h0
  rcases h0 with ⟨rfl, rfl, hS⟩ | ⟨g, o, cap, cs, rfl, g1, g2, g3, g4, g5, g6⟩
  · have H0 : St S w0 w L := ⟨hk, h3.mono (fun _ _ h => h.1)⟩
    obtain rfl : xs = [] := List.eq_nil_of_length_eq_zero (by simpa using hxl)
    obtain ⟨v', w', hr, r1, r2⟩ := (H0.row_nil e size).run_append (P := P) 0 rfl (ty := ty) (c := c) ht hinfo hzs news hl (A := some ad) (fun h => by cases h) (fun _ h => by cases h; exact hnews) h1 hbytes
    exact ⟨v', w', hr, St.off_row r1, r2⟩
  · have HB : St S w0 w (Blk g cs.toArray e :: L) := ⟨hk, S1, ⟨g2, g6⟩, h2, h3⟩
    by_cases hroom : n + m ≤ cap
    · have hnm : n * size + m * size ≤ cap * size := by rw [← Nat.add_mul]; exact Nat.mul_le_mul_right _ hroom
      have hfit : o + n * size + news.length ≤ cs.length := by rw [hl]; omega
      have hmay := mayCells_there (mayCells_blk g2 (o := o + n * size) (n := news.length) (by simpa using hfit))
      have hr := run_append_room_cells (P := P) w t ty e ti ht hti g o n cap ad m c news (by rw [hsz]; exact hl) hnews h1 hroom (fun j hj => by rw [hsz]; exact (hmay j hj).1) (fun j hj => by rw [hsz]; exact (hmay j hj).2)
      rw [hsz] at hr
      have H2 := St.setCells 0 news (o + n * size) cs w _ HB rfl hfit
      refine ⟨_, _, hr, ?_, by rw [setCells_size']; exact Nat.le_refl _⟩
      · obtain ⟨kk, S2, k1, k2, k3⟩ := H2
        refine ⟨kk, S2, ⟨by rw [List.length_append, hxl, hl, Nat.add_mul], .inr ⟨g, o, cap, _, rfl, hroom, k1.1, by rw [splice_len _ _ _ hfit]; exact g3, fun j u hj => ?_, g5, k1.2⟩⟩, k2, k3⟩
        rw [splice_get _ _ _ hfit]
        rw [List.getElem?_append] at hj
        split at hj
        · rename_i hjl
          rw [if_pos (by omega)]
          exact g4 j u hj
        · rename_i hjl
          have hjn := (List.getElem?_eq_some_iff.1 hj).1
          rw [if_neg (by omega), if_pos (by omega), show o + j - (o + n * size) = j - xs.length by omega]
          exact hj
    · obtain ⟨v', w', hr, r1, r2⟩ := run_append_arg_grows (P := P) w t ty e ti z size bytes ht hti hz hsz hby hzs.1 hzs.2.1 ⟨g, o, none⟩ n cap xs hxl (fun j u hj => by
        rw [Addr.add_mid, cell_blk g2]
        simpa using g4 j u hj) ad m c news hl hnews (by omega) h63 hbytes
      have hb : Kept (fun _ => False) w w' := (Kept.refl _ _).grown r2 (fun k _ h => by cases h)
      have HN : St (fun _ => False) w w' [Row e size v' (n + m) (xs ++ news)] :=
        ⟨hb, fun k => v'.ownBlock = some k, ⟨⟨r1.1, by
          rcases r1.2 with h | ⟨g, cap, cur, q1, _, q3⟩
          · exact .inl h
          · exact .inr ⟨g, cap, cur, q1, Nat.zero_le _, q3⟩⟩, fun k => Iff.rfl⟩, fun k hk => .inr (r1.lt k hk).1, trivial⟩
      have H4 := HB.call0 HN
      exact ⟨v', w', hr, St.off_row ((St.front H4 0 rfl).front 1 rfl |>.tail), hb.size⟩
end

section
variable {P : Program} {S : Nat → Prop} {w0 w : World} {L : List SP} {e : TypeId} {size n : Nat} {v : Value} {xs : List Value}
/-- The same at a plain region's operation. -/
theorem St.list_off (H : St S w0 w (Off e size v n xs :: L)) {ops : Array Oper} {rest : List Oper} {o : Oper} {a : Act} {Q : Exit → Act → World → Prop} (hgd : o.guard = none) (s x : Operand) (t : TypeId)
    (ho : o.op = .call { callee := .builtin .append, args := #[s, x], argTypes := #[t, t] }) {z : Value} {bytes : Nat} (ht : P.underlying t = some (.slice e))
    (hinfo : (P.info? e).map (fun i => (i.zero, i.size, i.bytes)) = some (some z, size, bytes)) (hzs : z.cells.size = size ∧ 0 < size ∧ 0 < bytes)
    (hs : a.eval s = v) {ad : Addr} {c m : Nat} (news : List Value) (hx : a.eval x = .slice (some ad) m c) (hl : news.length = m * size) (hnews : ∀ j u, news[j]? = some u → w.cell? (ad.add j) = some u) (h1 : ∀ u ∈ news, u.oneCell' = true)
    (hbytes : (n + m) * bytes ≤ 140737488355328)
    (h : ∀ v' w', St S w0 w' (Off e size v' (n + m) (xs ++ news) :: L) → w.heap.size ≤ w'.heap.size → wpList P ops Q rest (a.put o.dst v') w') :
    wpList P ops Q (o :: rest) a w := by
  obtain ⟨v', w', hr, h2, h3⟩ := H.off_append (ty := o.type) (c := c) ht hinfo hzs news hl hnews h1 hbytes
  refine wpList_plain hgd fun _ hK => ?_
  unfold Oper.wp execOp
  simp only [ho, resolve, invoke, builtin, Sem.run_bind, Sem.run_pure, Result.andThen_ok, List.map_toArray, List.map_cons, List.map_nil, hs, hx, hr]
  exact hK _ _ (h v' w' h2 h3)
end

/-- Parts by their values. -/
def Pile {β : Type} (A : Value → β → SP) (vs : List Value) (l : List β) : SP := SP.all (List.zipWith A vs l)
/-- A list of slices, each of the call's own. -/
def Stack {β : Type} (A : Value → β → SP) (e : TypeId) (iv : Value) (l : List β) : SP := SP.ex fun vs : List Value => SP.all [Off e 1 iv l.length vs, Pile A vs l]
section
variable {β : Type} {A : Value → β → SP} {S : Nat → Prop} {w0 w : World} {L : List SP} {e : TypeId} {iv : Value} {l : List β} {vs : List Value}
theorem Stack.open (H : St S w0 w (Stack A e iv l :: L)) : ∃ vs, vs.length = l.length ∧ St S w0 w (Off e 1 iv l.length vs :: Pile A vs l :: L) := by
  obtain ⟨vs, H⟩ := St.ex_iff.1 H
  have H := St.all_iff.1 H
  obtain ⟨S1, h⟩ := H.sep.get 0 rfl
  exact ⟨vs, by simpa using h.1, H⟩
theorem Stack.mk (H : St S w0 w (Off e 1 iv l.length vs :: Pile A vs l :: L)) : St S w0 w (Stack A e iv l :: L) := St.ex_iff.2 ⟨vs, St.all_iff.2 H⟩
theorem Stack.nil (H : St S w0 w L) : St S w0 w (Stack A e (.slice none 0 0) ([] : List β) :: L) := by
  refine Stack.mk (vs := []) ?_
  have : St S w0 w (Pile A [] ([] : List β) :: L) := St.all_iff.2 H
  exact this.off_nil e 1
theorem Pile.snoc {v : Value} {x : β} (hl : vs.length = l.length) (H : St S w0 w (Pile A vs l :: A v x :: L)) : St S w0 w (Pile A (vs ++ [v]) (l ++ [x]) :: L) := by
  have H := St.all_iff.1 H
  refine St.all_iff.2 ?_
  rw [List.zipWith_append hl]
  simpa using H
theorem Pile.tail {v : Value} {x : β} (H : St S w0 w (Pile A (v :: vs) (x :: l) :: L)) : St S w0 w (Pile A vs l :: L) :=
  St.all_iff.2 (St.tail (St.all_iff.1 H))
theorem SP.all_at {zs : List SP} {S1 : Nat → Prop} (h : (SP.all zs).on w S1) {k : Nat} {Z : SP} (hk : zs[k]? = some Z) : ∃ S2 : Nat → Prop, Z.on w S2 ∧ ∀ j, S2 j → S1 j := by
  obtain ⟨f, f1, _⟩ := h.1.fps
  exact ⟨f k, (f1 k Z hk).1, (f1 k Z hk).2⟩
theorem Pile.at {S1 : Nat → Prop} (h : (Pile A vs l).on w S1) {k : Nat} {v : Value} {x : β} (hv : vs[k]? = some v) (hx : l[k]? = some x) : ∃ S2 : Nat → Prop, (A v x).on w S2 ∧ ∀ j, S2 j → S1 j :=
  SP.all_at h (by rw [List.getElem?_zipWith, hv, hx])
end

end Go.Proofs.YtaafedpjifaghaaDoor

/- append onto a row of the call's own, up to what Go's growth itself allows. Laws over any program. -/
set_option linter.unusedVariables false
set_option linter.unusedSimpArgs false
namespace Go.Proofs.YtaafedpjifaghaaDoor
open Go.RowKit

section
variable {P : Program} {S : Nat → Prop} {w0 w : World} {l : List SP}
theorem append_at_wide {base : Nat} {t ty e : TypeId} {i : TypeInfo} {z : Value} (ht : P.underlying t = some (.slice e)) (hi : P.info? e = some i) (hz : i.zero = some z) (hzs : z.cells.size = i.size) (hsz : 0 < i.size)
    {v : Value} {n : Nat} {xs : List Value} (hown : w.ownsRow base e i.size v n xs) {a : Addr} {m c : Nat} {news : List Value} (hl : news.length = m * i.size) (hnews : ∀ j u, news[j]? = some u → w.cell? (a.add j) = some u)
    (h1 : ∀ u ∈ news, u.oneCell' = true) (hm : 0 < m) (h63 : n + m ≤ maxLen) (hb : ((n + m) + (n + m) / 4 + 192) * i.bytes ≤ 281474976710656) (hbase : base ≤ w.heap.size) :
    ∃ v' w', (Builtin.append_ #[t, t] ty #[v, .slice (some a) m c]).run P w = .ok v' w' ∧ w'.ownsRow base e i.size v' (n + m) (xs ++ news) ∧ w.grownBy w' v.ownBlock ∧ (v'.ownBlock = v.ownBlock ∨ v'.ownBlock = some w.heap.size) := by
  obtain ⟨v', w', hr, h2, h3, _⟩ := run_append_own_wide w base t ty e i z i.size i.bytes ht hi hz rfl rfl hzs hsz v n xs hown a m c news hl hnews h1 h63 hb hbase
  refine ⟨v', w', hr, h2, h3, ?_⟩
  have hsmall : n + m ≤ 9223372036854775807 := by simp only [maxLen] at h63; omega
  rcases hown.2 with ⟨rfl, rfl⟩ | ⟨g, cap, cur, rfl, hbg, hg, hnc, hcm, hcs, htake⟩
  · have hr2 := run_append_nil (P := P) w t ty e i z ht hi hz a m c news hl hnews hm (by omega) (by
      simp only [Nat.zero_add] at hb
      exact Nat.le_trans (Nat.mul_le_mul_right _ (by omega)) hb)
    have e1 := hr.symm.trans hr2
    injection e1 with e1 e2
    rw [e1]
    exact .inr rfl
  · by_cases hroom : n + m ≤ cap
    · have hr2 := run_append_room (P := P) w t ty e i ht hi g n cap cur hg a m c news hl hnews h1 hroom (by rw [hl, hcs, ← Nat.add_mul]; exact Nat.mul_le_mul_right _ hroom)
      have e1 := hr.symm.trans hr2
      injection e1 with e1 e2
      rw [e1]
      exact .inl rfl
    · have hr2 := run_append_grow (P := P) w t ty e i z ht hi hz ⟨g, 0, none⟩ n cap xs hown.1 (hown.cells (g := g) rfl) a m c news hl hnews (by omega) (by omega) (growslice_fits_wide (by omega) hb)
      have e1 := hr.symm.trans hr2
      injection e1 with e1 e2
      rw [e1]
      exact .inr rfl
/-- As St.list_app, with room for what Go's growth allows. -/
theorem St.list_appw (H : St S w0 w l) (i : Nat) {e : TypeId} {size : Nat} {v : Value} {n : Nat} {xs : List Value} (hi : l[i]? = some (Row e size v n xs))
    {ops : Array Oper} {rest : List Oper} {o : Oper} {a : Act} {Q : Exit → Act → World → Prop} (hgd : o.guard = none) (s x : Operand) (t : TypeId)
    (ho : o.op = .call { callee := .builtin .append, args := #[s, x], argTypes := #[t, t] }) {z : Value} {bytes : Nat} (ht : P.underlying t = some (.slice e))
    (hinfo : (P.info? e).map (fun i => (i.zero, i.size, i.bytes)) = some (some z, size, bytes)) (hzs : z.cells.size = size ∧ 0 < size ∧ 0 < bytes)
    (hs : a.eval s = v) {ad : Addr} {c m : Nat} (news : List Value) (hx : a.eval x = .slice (some ad) m c) (hl : news.length = m * size) (hnews : ∀ j u, news[j]? = some u → w.cell? (ad.add j) = some u) (h1 : ∀ u ∈ news, u.oneCell' = true)
    (hm : 0 < m) (hbytes : ((n + m) + (n + m) / 4 + 192) * bytes ≤ 281474976710656)
    (h : ∀ g cap w', St S w0 w' (l.set i (Row e size (.slice (some ⟨g, 0, none⟩) (n + m) cap) (n + m) (xs ++ news))) → w.heap.size ≤ w'.heap.size → wpList P ops Q rest (a.put o.dst (.slice (some ⟨g, 0, none⟩) (n + m) cap)) w') :
    wpList P ops Q (o :: rest) a w := by
  obtain ⟨ti, hti, hz, rfl, rfl⟩ := info_parts hinfo
  have hle : n + m ≤ 281474976710656 := by
    have := Nat.le_mul_of_pos_right ((n + m) + (n + m) / 4 + 192) hzs.2.2
    omega
  obtain ⟨v', w', hr, h2, h3, h4⟩ := append_at_wide (ty := o.type) (c := c) ht hti hz hzs.1 hzs.2.1 (H.row i hi) hl hnews h1 hm (by unfold maxLen; omega) hbytes (Nat.zero_le _)
  obtain ⟨ao, cap, rfl, _, hg⟩ := slice_form' h2
  obtain ⟨g, rfl⟩ := hg (by omega)
  have H2 := H.grown' i hi h2 h3 h4
  refine wpList_plain hgd fun _ hK => ?_
  unfold Oper.wp execOp
  simp only [ho, resolve, invoke, builtin, Sem.run_bind, Sem.run_pure, Result.andThen_ok, List.map_toArray, List.map_cons, List.map_nil, hs, hx, hr]
  exact hK _ _ (h g cap w' H2 h3.size)
end
end Go.Proofs.YtaafedpjifaghaaDoor

/- append of noughts (append(x, make(..)..)) onto a row of the call's own, of one cell an element. Laws over any program. -/
set_option linter.unusedVariables false
set_option linter.unusedSimpArgs false
namespace Go.Proofs.YtaafedpjifaghaaDoor
open Go.RowKit

theorem zeroCells_one (z : Value) (hz : z.cells = #[z]) (n : Nat) : (Builtin.zeroCells z.cells n).toList = List.replicate n z := by
  rw [hz]
  refine List.ext_getElem? fun i => ?_
  simp only [Builtin.zeroCells, List.size_toArray, List.length_singleton, Nat.mul_one, Array.toList_map, Array.toList_range, List.getElem?_map, Nat.mod_one]
  by_cases h : i < n
  · simp [h]
  · simp [h]
section
variable {P : Program} {S : Nat → Prop} {w0 w : World} {l L : List SP}
/-- append of noughts behind a row's beginning, more than its capacity: a new row. -/
theorem run_zeros_grow (w : World) (t tn ty e : TypeId) (i : TypeInfo) (z : Value) (kn : IntKind) (ht : P.underlying t = some (.slice e)) (htn : P.underlying tn = some (.int kn)) (hi : P.info? e = some i) (hz : i.zero = some z)
    (k m cap : Nat) (g : Nat) (vs : List Value) (hv : vs.length = k * i.size) (hsrc : ∀ j v, vs[j]? = some v → w.cell? ⟨g, j, none⟩ = some v) (h0 : 0 < m) (hs : 0 < i.size) (hcap : cap < k + m) (h63 : k + m ≤ 9223372036854775807) (h48 : ((k + m) + (k + m) / 4 + 192) * i.bytes ≤ 281474976710656) :
    (Builtin.append_ #[t, tn] ty #[.slice (some ⟨g, 0, none⟩) k cap, .int .i64 m]).run P w =
      .ok (.slice (some ⟨w.heap.size, 0, none⟩) (k + m) (grownCap w (k + m) cap e)) (w.drew.alloc (.cells (vs.toArray ++ Builtin.zeroCells z.cells m ++ Builtin.zeroCells z.cells (grownCap w (k + m) cap e - (k + m))) e)) := by
  have hw : IntKind.i64.wrap (m : Int) = m := by rw [IntKind.wrap_i64]; omega
  have h48' : ¬ (281474976710656 < Builtin.nextslicecap (k + m) cap * i.bytes) := by have := growslice_fits_wide (bytes := i.bytes) hcap h48; omega
  have hmb : m * i.bytes ≤ 281474976710656 := Nat.le_trans (Nat.mul_le_mul_right _ (by omega)) h48
  have h48i : ¬ (281474976710656 < (m : Int) * (i.bytes : Int)) := by
    rw [← Int.natCast_mul]
    omega
  have hneg : ¬ ((m : Int) < 0) := by omega
  have hns : ¬ (m * i.size = 0) := Nat.mul_ne_zero (by omega) (by omega)
  have hc2 : ¬ (k + m ≤ cap) := by omega
  have h63' : ¬ (9223372036854775807 < (k : Int) + (m : Int)) := by omega
  have hl := run_loadCells_list (P := P) w.drew ⟨g, 0, none⟩ vs (fun j v hj => by rw [Addr.add_lit, Nat.zero_add]; exact hsrc j v hj)
  rw [hv] at hl
  simp [Builtin.append_, run_underlying ht, run_underlying htn, sizeOf, typeInfo, zeroValue, hi, hz, asInt, asIntOf, hw, hneg, hns, h63', h48', h48i, hc2, Question.forced, Builtin.firstCells, hl, newRow, grownCap]
/-- A row in a block that holds more. -/
theorem St.blkRow' {g : Nat} {cs : Array Value} {e : TypeId} (H : St S w0 w (Blk g cs e :: L)) {n c size : Nat} (xs : List Value) (hn : xs.length = n * size) (hc : cs.size = c * size) (hnc : n ≤ c) (hm : c ≤ maxLen) (hx : cs.toList.take (n * size) = xs) :
    St S w0 w (Row e size (.slice (some ⟨g, 0, none⟩) n c) n xs :: L) := by
  obtain ⟨h, S1, h1, h2, h3⟩ := H
  refine ⟨h, S1, ⟨⟨hn, .inr ⟨g, c, cs, rfl, Nat.zero_le _, h1.1, hnc, hm, hc, hx⟩⟩, fun k => ?_⟩, h2, h3⟩
  rw [h1.2 k]
  simp [Value.ownBlock, eq_comm]
/-- append of m noughts. -/
theorem St.run_zeros {e : TypeId} {v : Value} {n m : Nat} {xs : List Value} (H : St S w0 w (Row e 1 v n xs :: L)) {t tn ty : TypeId} {kn : IntKind} {z : Value} {bytes : Nat} (ht : P.underlying t = some (.slice e)) (htn : P.underlying tn = some (.int kn))
    (hinfo : (P.info? e).map (fun i => (i.zero, i.size, i.bytes)) = some (some z, 1, bytes)) (hz1 : z.cells = #[z]) (ho : z.oneCell' = true) (h0 : 0 < m) (h48 : ((n + m) + (n + m) / 4 + 192) * bytes ≤ 281474976710656) (hb : 0 < bytes) :
    ∃ v' w', (Builtin.append_ #[t, tn] ty #[v, .int .i64 m]).run P w = .ok v' w' ∧ St S w0 w' (Row e 1 v' (n + m) (xs ++ List.replicate m z) :: L) ∧ w.heap.size ≤ w'.heap.size := by
  obtain ⟨ti, hti, hz, hsz, hby⟩ := info_parts hinfo
  subst hby
  have hle : n + m ≤ 281474976710656 := by have := Nat.le_mul_of_pos_right ((n + m) + (n + m) / 4 + 192) hb; omega
  have hro := H.row 0 rfl
  have hxl := hro.1
  have H0 : St S w0 w L := H.tail
  rcases hro.2 with ⟨rfl, rfl⟩ | ⟨g, cap, cur, rfl, _, hg, hnc, hcm, hcs, htake⟩
  · obtain rfl : xs = [] := List.eq_nil_of_length_eq_zero (by simpa using hxl)
    have h1 : m * ti.bytes ≤ 281474976710656 := Nat.le_trans (Nat.mul_le_mul_right _ (by omega)) h48
    have hr := Lib.run_append_nil_zeros (P := P) w t tn ty e ti z .i64 kn ht htn hti hz m h0 (by omega) (by omega) h1
    have hge := grownCap_ge w m 0 e
    have hcm : grownCap w m 0 e ≤ maxLen := grownCap_le_maxLen w m 0 e (by unfold maxLen; omega)
    rw [Nat.zero_add]
    refine ⟨_, _, hr, ?_, by simp⟩
    refine St.blkRow' (H0.drew.alloc _ e) _ (by simp) ?_ hge hcm ?_
    · simp only [Array.size_append, size_zeroCells, hz1, List.size_toArray, List.length_singleton]
      omega
    · rw [Array.toList_append, zeroCells_one z hz1, zeroCells_one z hz1]
      simp
  · have hrb : (Blk g cur e).on w (fun k => (Value.slice (some ⟨g, 0, none⟩) n cap).ownBlock = some k) := ⟨hg, fun k => by simp [Value.ownBlock, eq_comm]⟩
    have HB : St S w0 w (Blk g cur.toList.toArray e :: L) := by
      obtain ⟨hk, S1, h1, h2, h3⟩ := H
      exact ⟨hk, S1, ⟨by simpa using hg, fun k => (h1.2 k).trans (by simp [Value.ownBlock, eq_comm])⟩, h2, h3⟩
    have hcl : cur.toList.length = cap := by simpa using hcs
    by_cases hroom : n + m ≤ cap
    · have hfit : n + (List.replicate m z).length ≤ cur.toList.length := by simp; omega
      have hmay := mayCells_there (mayCells_blk hg (o := n) (n := m) (by omega))
      have hst := run_storeCells_cells (P := P) g n (List.replicate m z) 0 w (fun j hj => by simpa using (hmay j (by simpa using hj)).1) (fun j hj => by simpa using (hmay j (by simpa using hj)).2) (fun u hu => by rw [(List.mem_replicate.1 hu).2]; exact ho)
      simp only [Nat.add_zero] at hst
      have hw : IntKind.i64.wrap (m : Int) = m := by rw [IntKind.wrap_i64]; omega
      have hneg : ¬ ((m : Int) < 0) := by omega
      have hns : ¬ (m = 0) := by omega
      have h48i : ¬ (281474976710656 < (m : Int) * (ti.bytes : Int)) := by
        have := Nat.le_trans (Nat.mul_le_mul_right ti.bytes (show m ≤ (n + m) + (n + m) / 4 + 192 by omega)) h48
        rw [← Int.natCast_mul]
        omega
      have hzl := zeroCells_one z hz1 m
      have hr : (Builtin.append_ #[t, tn] ty #[.slice (some ⟨g, 0, none⟩) n cap, .int .i64 m]).run P w = .ok (.slice (some ⟨g, 0, none⟩) (n + m) cap) (w.setCells g n (List.replicate m z)) := by
        have hst2 : (storeCells ⟨g, n, none⟩ (List.replicate m z)).run P w = .ok () (w.setCells g n (List.replicate m z)) := hst
        simp [Builtin.append_, run_underlying ht, run_underlying htn, sizeOf, typeInfo, zeroValue, hti, hz, asInt, asIntOf, hw, hneg, hns, h48i, hroom, hsz, Addr.add_lit, hzl, hst2]
      have H2 := St.setCells 0 (List.replicate m z) n cur.toList w _ HB rfl hfit
      refine ⟨_, _, hr, ?_, by rw [setCells_size']; exact Nat.le_refl _⟩
      refine St.blkRow' H2 _ (by rw [List.length_append, hxl]; simp) (by simp [splice_len _ _ _ hfit, hcs]) hroom hcm ?_
      refine List.ext_getElem? fun j => ?_
      rw [Nat.mul_one, List.getElem?_take]
      simp only [List.getElem?_append]
      have hg2 := splice_get cur.toList n (List.replicate m z) hfit j
      rw [Nat.mul_one] at htake hxl
      rw [List.length_replicate] at hg2
      by_cases h1 : j < n
      · rw [if_pos (by omega), if_pos (by omega), hg2, if_pos h1, ← htake, List.getElem?_take_of_lt h1]
      · rw [if_neg (show ¬ j < xs.length by omega)]
        by_cases h2 : j < n + m
        · rw [if_pos h2, hg2, if_neg h1, if_pos h2, hxl]
        · rw [if_neg h2, List.getElem?_eq_none (by simp; omega)]
    · have hr := run_zeros_grow (P := P) w t tn ty e ti z kn ht htn hti hz n m cap g xs (by rw [hsz]; exact hxl) (fun j u hj => own_cell hro hj) h0 (by omega) (by omega) (by omega) h48
      have hge := grownCap_ge w (n + m) cap e
      have hcm : grownCap w (n + m) cap e ≤ maxLen := grownCap_le_maxLen w (n + m) cap e (by unfold maxLen; omega)
      refine ⟨_, _, hr, ?_, by simp⟩
      refine St.blkRow' (H0.drew.alloc _ e) _ (by rw [List.length_append, hxl]; simp) ?_ hge hcm ?_
      · simp only [Array.size_append, size_zeroCells, hz1, List.size_toArray, List.length_singleton]
        omega
      · rw [Array.toList_append, Array.toList_append, zeroCells_one z hz1, zeroCells_one z hz1]
        rw [List.take_append_of_le_length (by simp; omega), List.take_of_length_le (by simp; omega)]
/-- append of noughts at a plain region's operation. -/
theorem St.list_zeros1 {e : TypeId} {v : Value} {n m : Nat} {xs : List Value} (H : St S w0 w (Row e 1 v n xs :: L)) {ops : Array Oper} {rest : List Oper} {o : Oper} {a : Act} {Q : Exit → Act → World → Prop} (hgd : o.guard = none) (x y : Operand) (t tn : TypeId)
    (hop : o.op = .call { callee := .builtin .append, args := #[x, y], argTypes := #[t, tn] }) {kn : IntKind} {z : Value} {bytes : Nat} (ht : P.underlying t = some (.slice e)) (htn : P.underlying tn = some (.int kn))
    (hinfo : (P.info? e).map (fun i => (i.zero, i.size, i.bytes)) = some (some z, 1, bytes)) (hz1 : z.cells = #[z]) (ho : z.oneCell' = true) (h48 : ((n + m) + (n + m) / 4 + 192) * bytes ≤ 281474976710656) (hb : 0 < bytes)
    (hx : a.eval x = v) (hy : a.eval y = .int .i64 m)
    (h : ∀ v' w', St S w0 w' (Row e 1 v' (n + m) (xs ++ List.replicate m z) :: L) → w.heap.size ≤ w'.heap.size → wpList P ops Q rest (a.put o.dst v') w') :
    wpList P ops Q (o :: rest) a w := by
  have key : ∃ v' w', (Builtin.append_ #[t, tn] o.type #[v, .int .i64 m]).run P w = .ok v' w' ∧ St S w0 w' (Row e 1 v' (n + m) (xs ++ List.replicate m z) :: L) ∧ w.heap.size ≤ w'.heap.size := by
    by_cases h0 : 0 < m
    · exact H.run_zeros ht htn hinfo hz1 ho h0 h48 hb
    · obtain rfl : m = 0 := by omega
      obtain ⟨ti, hti, hz, hsz, hby⟩ := info_parts hinfo
      obtain ⟨ao, cap, rfl, hle, _⟩ := slice_form' (H.row 0 rfl)
      have hw : IntKind.i64.wrap 0 = 0 := by rw [IntKind.wrap_i64]; omega
      refine ⟨.slice ao n cap, w, ?_, by simpa using H, Nat.le_refl _⟩
      have hn : ¬ ((0 : Int) < 0) := by omega
      cases ao <;> simp [Builtin.append_, run_underlying ht, run_underlying htn, sizeOf, typeInfo, hti, asInt, asIntOf, hw, hle, storeCells]
  obtain ⟨v', w', hr, h2, h3⟩ := key
  refine wpList_plain hgd fun _ hK => ?_
  unfold Oper.wp execOp
  simp only [hop, resolve, invoke, builtin, Sem.run_bind, Sem.run_pure, Result.andThen_ok, List.map_toArray, List.map_cons, List.map_nil, hx, hy, hr]
  exact hK _ _ (h v' w' h2 h3)
end

end Go.Proofs.YtaafedpjifaghaaDoor

/- Whole numbers as bytes, seven bits each. Plain laws, no program in sight. -/
set_option linter.unusedVariables false
set_option linter.unusedSimpArgs false
namespace Go.Proofs.YtaafedpjifaghaaDoor

def vintF : Nat → Nat → List UInt8
  | 0, n => [UInt8.ofNat n]
  | f + 1, n => if n < 128 then [UInt8.ofNat n] else UInt8.ofNat (n % 128 + 128) :: vintF f (n / 128)
def vint (n : Nat) : List UInt8 := vintF 10 n
theorem vintF_small {n : Nat} (h : n < 128) : ∀ f, vintF f n = [UInt8.ofNat n]
  | 0 => rfl
  | f + 1 => by rw [vintF, if_pos h]
theorem vintF_len : ∀ f n, (vintF f n).length ≤ f + 1 ∧ 1 ≤ (vintF f n).length
  | 0, n => by simp [vintF]
  | f + 1, n => by
    rw [vintF]
    split
    · simp
    · have := vintF_len f (n / 128)
      simp only [List.length_cons]
      omega
theorem vint_len (n : Nat) : (vint n).length ≤ 11 ∧ 1 ≤ (vint n).length := vintF_len 10 n
/-- A number that is signed, as one that isn't. -/
def zig (n : Int) : Nat := if 0 ≤ n then (2 * n).toNat else (-2 * n - 1).toNat
theorem bv_ofNat {n : Nat} (h : n < 256) : bv (UInt8.ofNat n) = .int .u8 (n : Int) := by
  unfold bv
  rw [UInt8.toNat_ofNat', Nat.mod_eq_of_lt (by omega)]

theorem zig_pos (n : Nat) : zig (n : Int) = 2 * n := by unfold zig; rw [if_pos (by omega)]; omega
theorem zig_neg {n : Int} (h : n < 0) : (zig n : Int) = -2 * n - 1 := by unfold zig; rw [if_neg (by omega)]; omega
theorem xor_max (x : Nat) (h : x < 18446744073709551616) : bits BinOp.xor IntKind.u64 IntKind.u64.max (x : Int) = ((18446744073709551615 - x : Nat) : Int) := by
  have e : BitVec.ofInt 64 IntKind.u64.max = BitVec.allOnes 64 := by decide
  have e2 : (BitVec.ofInt 64 IntKind.u64.max ^^^ BitVec.ofInt 64 (x : Int)).toNat = 18446744073709551615 - x := by
    rw [e, BitVec.allOnes_xor, BitVec.ofInt_natCast, BitVec.toNat_not, BitVec.toNat_ofNat, Nat.mod_eq_of_lt (by omega)]
  show IntKind.u64.wrap ((BitVec.ofInt 64 IntKind.u64.max ^^^ BitVec.ofInt 64 (x : Int)).toNat : Int) = _
  rw [e2]
  exact IntWalk.u64_in _ (by omega)

end Go.Proofs.YtaafedpjifaghaaDoor
