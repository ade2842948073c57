/- The walks of the store: Sync, Crash, Waits. Conditions: the store's blocks lie as its maker lays them; what is handed in can be read. -/
import Derived.Test.YtbikjhmdpgoofabStoreC
namespace Go.Proofs.Ytbikjhmdpgoofab
open Go.RowKit
attribute [local go_sem ↓] run_load128 run_load129 run_store128 run_store129
attribute [local go_sem] size_zero128 size_zero129

theorem store_spend_at {b : Nat} {m : StM} {w : World} {S : Nat → Prop} (hg : m.Good) (H : Sep w [StoreAt b m] S) :
    Calls Try.prog 49 #[.pointer (some ⟨b, 0, none⟩)] w fun e w' => e = .returned (.int .i64 (spendE m.calls)) ∧ St S w w' [StoreAt b m.spend] := by
  obtain ⟨bl, br, vw, H⟩ := StoreAt.out H
  obtain ⟨S1, K1, G1⟩ := St.call (l1 := [_]) (St.refl H)
  exact (store_spend hg.calls K1).mono fun e w' ⟨he, H2⟩ => ⟨he, StoreAt.mk (bl := bl) (br := br) (vw := vw) (G1 _ _ H2)⟩

theorem sync_lasts (i : Nat) (w : World) : Calls Try.prog 78 #[.int .i64 i] w fun e w' => e = .returned (.int .i64 128) ∧ w' = w := by
  go_enter Try.func78, Try.ntmps78
  go_wp2
  go_ret
  exact ⟨rfl, rfl⟩

theorem sync_enter (v : Value) (w : World) : (callFunc 78 (#[v] ++ #[])).run Try.prog w = .ok (.enter 78 (#[v] ++ #[])) w := by kernel_rfl

theorem spend_good {m : StM} (hg : m.Good) : m.spend.Good := ⟨hg.count, hg.full, hg.reads, hg.waits, hg.room, by
  have := hg.calls
  simp only [StM.spend, spendC]
  split <;> omega⟩

set_option maxHeartbeats 1000000 in
theorem store_sync {b : Nat} {m : StM} {w : World} {S : Nat → Prop} (hg : m.Good) (H : Sep w [StoreAt b m] S) :
    Calls Try.prog 48 #[.pointer (some ⟨b, 0, none⟩)] w fun e w' => e = .returned (.int .i64 m.sync.1) ∧ St S w w' [StoreAt b m.sync.2] := by
  by_cases h0 : m.calls = 0
  · have hfin : m.sync = (31, m) := by simp [StM.sync, h0]
    have hsp : m.spend = m := by cases m; simp only [StM.spend, spendC] at *; subst h0; rfl
    have he : ((spendE m.calls) == 0) = false := by simp [spendE, h0]
    have he2 := Lib.hid (show spendE m.calls = 31 from by simp [spendE, h0])
    have hsp2 := Lib.hid hsp
    rw [hfin]
    clear hfin h0 hsp
    go_enter Try.func48, Try.ntmps48
    go_wp2_with (go_at_call 49; refine (store_spend_at hg H).mono ?_; rintro e w1 ⟨rfl, H1⟩)
    go_ret
    rw [hsp2.out] at H1
    exact ⟨by rw [he2.out]; rfl, H1⟩
  · have hfin : m.sync = (0, m.spend.settle fun _ => 128) := by simp [StM.sync, h0]
    have he : ((spendE m.calls) == 0) = true := by simp [spendE, h0]
    have he2 := Lib.hid (show spendE m.calls = 0 from by simp [spendE, h0])
    rw [hfin]
    clear hfin h0
    go_enter Try.func48, Try.ntmps48
    go_wp2_with (first
      | (go_at_call 49; go_must (refine (store_spend_at hg H).mono ?_; rintro e w1 ⟨rfl, H1⟩))
      | (go_at_call 76; go_must (obtain ⟨S1, K1, G1⟩ := St.call (l1 := [_]) H1; refine (store_settle (lasts := fun _ => 128) (spend_good hg) (fun _ => by omega) sync_enter (fun i _ w' _ => by simpa using sync_lasts i w') K1).mono ?_; rintro e w2 ⟨rfl, H2⟩; have H3 := G1 _ _ H2)))
    go_ret
    exact ⟨by rw [he2.out]; rfl, H3⟩

theorem crash_enter (x y z v : Value) (w : World) : (callFunc 77 (#[v] ++ #[x, y, z])).run Try.prog w = .ok (.enter 77 (#[v] ++ #[x, y, z])) w := by kernel_rfl

def lastOne (keep : List Bool) (torn : Int) (cut : Nat) (i : Nat) : Nat := if (i : Int) = torn then cut else if keep.getD i false then 128 else 0

set_option maxHeartbeats 1000000 in
theorem crash_lasts {i : Nat} {torn : Int} {cut : Nat} {keep : List Bool} {kv : Value} {bt bc bk : Nat} {w : World} {S : Nat → Prop} (hk : BoolsRO S w kv keep)
    (ht : w.heap[bt]? = some (.cells #[.int .i64 torn] 3 (0, 0))) (hc : w.heap[bc]? = some (.cells #[.int .i64 cut] 3 (0, 0))) (hkb : w.heap[bk]? = some (.cells #[kv] 84 (0, 0))) :
    Calls Try.prog 77 #[.int .i64 i, .pointer (some ⟨bt, 0, none⟩), .pointer (some ⟨bc, 0, none⟩), .pointer (some ⟨bk, 0, none⟩)] w fun e w' => e = .returned (.int .i64 (lastOne keep torn cut i)) ∧ w' = w := by
  have c1 := cell_blk' ht (i := 0) rfl
  have c2 := cell_blk' hc (i := 0) rfl
  have c3 := cell_blk' hkb (i := 0) rfl
  clear ht hc hkb
  obtain ⟨ad, cap, rfl, hlen, hcell⟩ := hk
  by_cases h1 : (i : Int) = torn
  · subst h1
    have hfin : lastOne keep i cut i = cut := by simp [lastOne]
    rw [hfin]
    clear hfin
    go_enter Try.func77, Try.ntmps77
    go_wp2
    go_ret
    exact ⟨rfl, rfl⟩
  · have e1 : ((i : Int) == torn) = false := by simpa using h1
    by_cases h2 : i < keep.length
    · obtain ⟨b, o, rfl, hb, hS, hcc⟩ := hcell (by rintro rfl; simp at h2)
      have c4 := hcc i h2
      by_cases h3 : keep[i] = true
      · have hfin : lastOne keep torn cut i = 128 := by simp [lastOne, h1, List.getD, h2, h3]
        rw [hfin]
        rw [h3] at c4
        clear hfin h1 hcc hcell
        go_enter Try.func77, Try.ntmps77
        go_wp2
        go_ret
        exact ⟨rfl, rfl⟩
      · have h3' : keep[i] = false := by simpa using h3
        have hfin : lastOne keep torn cut i = 0 := by simp [lastOne, h1, List.getD, h2, h3']
        rw [hfin]
        rw [h3'] at c4
        clear hfin h1 hcc hcell h3 h3'
        go_enter Try.func77, Try.ntmps77
        go_wp2
        go_ret
        exact ⟨rfl, rfl⟩
    · have hfin : lastOne keep torn cut i = 0 := by simp [lastOne, h1, List.getD, List.getElem?_eq_none (by omega : keep.length ≤ i)]
      rw [hfin]
      have e2 : decide ((i : Int) < keep.length) = false := by simp; omega
      clear hfin h1 hcell
      go_enter Try.func77, Try.ntmps77
      go_wp2
      go_ret
      exact ⟨rfl, rfl⟩

theorem lastOne_crash (keep : List Bool) (torn cut : Int) : lastOne keep torn (cutOf cut) = crashLasts keep torn cut := rfl
theorem lastOne_le (keep : List Bool) (torn : Int) {cut : Nat} (h : cut ≤ 128) (i : Nat) : lastOne keep torn cut i ≤ 128 := by
  unfold lastOne
  split
  · exact h
  · split <;> omega

/-- The call of settle, as Crash makes it. -/
theorem crash_settles {b c : Nat} {m : StM} {torn : Int} {keep : List Bool} {kv : Value} {w wA : World} {S : Nat → Prop} {b0 b1 b2 : Nat} (hg : m.Good) (hc : c ≤ 128) (hk : BoolsRO S w kv keep)
    (HA : St S w wA ([StoreAt b m] ++ [Blk b2 #[.int .i64 c] 3, Blk b1 #[.int .i64 torn] 3, Blk b0 #[kv] 84])) :
    Calls Try.prog 76 #[.pointer (some ⟨b, 0, none⟩), .func (.func 77) #[] #[.pointer (some ⟨b1, 0, none⟩), .pointer (some ⟨b2, 0, none⟩), .pointer (some ⟨b0, 0, none⟩)]] wA fun e w' => e = .returned (.tuple #[]) ∧
      St S w w' [StoreAt b (m.settle (lastOne keep torn c))] := by
  obtain ⟨S1, K1, hS1, hL, G1⟩ := St.call2 HA
  refine (store_settle (lasts := lastOne keep torn c) hg (lastOne_le keep torn hc) (crash_enter _ _ _) (fun i _ w' hkept => ?_) K1).mono fun e w' ⟨he, H2⟩ => ⟨he, (G1 _ _ H2).take (l1 := [_])⟩
  obtain ⟨S2, hs2⟩ := hL w' hkept
  have hkk : Kept S w w' := HA.kept.trans' hkept (fun k hlt hk => (hS1 k hk).elim id (fun a => by omega))
  have := crash_lasts (i := i) (hk.move hkk) (hs2.blk 1 rfl) (hs2.blk 0 rfl) (hs2.blk 2 rfl)
  simpa using this

theorem crash_is (m : StM) (keep : List Bool) (torn cut : Int) : m.crash keep torn cut = { (m.settle (lastOne keep torn (cutOf cut))) with calls := -1 } := rfl

set_option maxHeartbeats 2000000 in
theorem store_crash {b : Nat} {m : StM} {torn cut : Int} {keep : List Bool} {kv : Value} {w : World} {S : Nat → Prop} (hg : m.Good) (hk : BoolsRO S w kv keep) (H : Sep w [StoreAt b m] S) :
    Calls Try.prog 46 #[.pointer (some ⟨b, 0, none⟩), kv, .int .i64 torn, .int .i64 cut] w fun e w' => e = .returned (.tuple #[]) ∧ St S w w' [StoreAt b (m.crash keep torn cut)] := by
  rw [crash_is]
  have hk0 := hk
  obtain ⟨ad, kcap, hkv, _, _⟩ := hk0
  subst hkv
  have hcut : cutOf cut ≤ 128 := by unfold cutOf; split <;> omega
  have H3 : St S w (((w.alloc (.cells #[.slice ad keep.length kcap] 84)).alloc (.cells #[.int .i64 torn] 3)).alloc (.cells #[.int .i64 (cutOf cut)] 3)) ([StoreAt b m] ++ [Blk (w.heap.size + 1 + 1) #[.int .i64 (cutOf cut)] 3, Blk (w.heap.size + 1) #[.int .i64 torn] 3, Blk w.heap.size #[.slice ad keep.length kcap] 84]) :=
    ((((St.refl H).allocAt rfl #[.slice ad keep.length kcap] 84).allocAt (B := w.heap.size + 1) (by simp) #[.int .i64 torn] 3).allocAt (B := w.heap.size + 1 + 1) (by simp) #[.int .i64 (cutOf cut)] 3).pick [3, 0, 1, 2]
  have hset := crash_settles hg hcut hk H3
  have fin : ∀ w2, St S w w2 [StoreAt b (m.settle (lastOne keep torn (cutOf cut)))] → ∃ c, w2.cell? ⟨b, 3, none⟩ = some (.int .i64 c) ∧ w2.frozen? ⟨b, 3, none⟩ = false ∧ St S w (w2.setCell ⟨b, 3, none⟩ (.int .i64 (-1))) [StoreAt b { (m.settle (lastOne keep torn (cutOf cut))) with calls := -1 }] := by
    intro w2 H4
    obtain ⟨⟨bl, br, vw⟩, H5⟩ := St.ex_iff.1 H4
    have H6 := St.all_iff.1 H5
    exact ⟨_, H6.cell 0 3 rfl rfl, H6.free 0 3 rfl, StoreAt.mk (bl := bl) (br := br) (vw := vw) (H6.set 0 rfl 3 (.int .i64 (-1)))⟩
  by_cases h1 : cut < 0
  · have e1 : (cutOf cut : Int) = 128 := by unfold cutOf; rw [if_pos (.inl h1)]; rfl
    rw [e1] at hset
    have fin2 := Lib.hid fin
    clear e1 H3 fin hcut
    go_enter Try.func46, Try.ntmps46
    go_wp2_with (go_at_call 76; go_must (refine hset.mono ?_; rintro e w2 ⟨rfl, H4⟩; obtain ⟨c, c3, f3, H5⟩ := fin2.out w2 H4))
    go_end0
    exact ⟨rfl, H5⟩
  · by_cases h2 : 128 < cut
    · have e1 : (cutOf cut : Int) = 128 := by unfold cutOf; rw [if_pos (.inr h2)]; rfl
      rw [e1] at hset
      have fin2 := Lib.hid fin
      clear e1 H3 fin hcut
      go_enter Try.func46, Try.ntmps46
      go_wp2_with (go_at_call 76; go_must (refine hset.mono ?_; rintro e w2 ⟨rfl, H4⟩; obtain ⟨c, c3, f3, H5⟩ := fin2.out w2 H4))
      go_end0
      exact ⟨rfl, H5⟩
    · have e1 : (cutOf cut : Int) = cut := by unfold cutOf; rw [if_neg (by omega)]; omega
      rw [e1] at hset
      have fin2 := Lib.hid fin
      clear e1 H3 fin hcut
      go_enter Try.func46, Try.ntmps46
      go_wp2_with (go_at_call 76; go_must (refine hset.mono ?_; rintro e w2 ⟨rfl, H4⟩; obtain ⟨c, c3, f3, H5⟩ := fin2.out w2 H4))
      go_end0
      exact ⟨rfl, H5⟩

end Go.Proofs.Ytbikjhmdpgoofab
