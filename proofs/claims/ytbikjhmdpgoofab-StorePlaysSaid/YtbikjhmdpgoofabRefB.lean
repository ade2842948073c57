/- The walks of the reference's store: Spend, Write, Read. Conditions: its blocks lie as its maker lays them. -/
import Derived.Test.YtbikjhmdpgoofabStoreH
import Derived.Test.YtbikjhmdpgoofabMore
import Derived.Test.YtbikjhmdpgoofabRefStoreZ
import Derived.Test.YtbikjhmdpgoofabCalm
namespace Go.Proofs.Ytbikjhmdpgoofab
open Go.RowKit

def refWait (x : Int × List UInt8) : List Value := [.int .i64 x.1, textV x.2]
def refWaits (l : List (Int × List UInt8)) : List Value := (l.map refWait).flatten
theorem refWaits_snoc (l : List (Int × List UInt8)) (x : Int × List UInt8) : refWaits (l ++ [x]) = refWaits l ++ refWait x := by simp [refWaits]
def refParts (b : Nat) (vl vw vc : Value) (m : StM) : List SP :=
  [Blk b #[vl, vw, .int .i64 m.calls, vc] 41, Row 9 1 vl m.last.length (texts m.last), Row 46 2 vw m.waits.length (refWaits m.waits), Row 3 1 vc m.reads.length (intCells m.reads)]
def RefAt (b : Nat) (m : StM) : SP := SP.ex fun x : Value × Value × Value => SP.all (refParts b x.1 x.2.1 x.2.2 m)
theorem RefAt.out {b : Nat} {m : StM} {w : World} {l : List SP} {S : Nat → Prop} (H : Sep w (RefAt b m :: l) S) : ∃ vl vw vc, Sep w (refParts b vl vw vc m ++ l) S := by
  obtain ⟨⟨vl, vw, vc⟩, H⟩ := Sep.ex_iff.1 H
  exact ⟨vl, vw, vc, Sep.all_iff.1 H⟩
theorem RefAt.open {b : Nat} {m : StM} {w0 w : World} {l : List SP} {S : Nat → Prop} (H : St S w0 w (RefAt b m :: l)) : ∃ vl vw vc, St S w0 w (refParts b vl vw vc m ++ l) := by
  obtain ⟨⟨vl, vw, vc⟩, H⟩ := St.ex_iff.1 H
  exact ⟨vl, vw, vc, St.all_iff.1 H⟩
theorem RefAt.mk {b : Nat} {m : StM} {w0 w : World} {l : List SP} {S : Nat → Prop} {vl vw vc : Value} (H : St S w0 w (refParts b vl vw vc m ++ l)) : St S w0 w (RefAt b m :: l) :=
  St.ex_iff.2 ⟨(vl, vw, vc), St.all_iff.2 H⟩

theorem ref_made (n : Nat) (hn : n ≤ 4096) (w : World) : Calls Try.prog 13 #[.int .i64 n] w fun e w' => ∃ b, e = .returned (.pointer (some ⟨b, 0, none⟩)) ∧ St (fun _ => False) w w' [RefAt b (newStore n)] := by
  refine (ref_new n hn w).mono ?_
  rintro e w' ⟨b, vl, vc, rfl, H⟩
  refine ⟨b, rfl, RefAt.mk (l := []) (vl := vl) (vw := .slice none 0 0) (vc := vc) ?_⟩
  have H2 := (H.row_nil 46 2).pick [1, 2, 0, 3]
  simpa [refParts, newStore, texts, intCells, refWaits, textV, nil128] using H2

theorem refAt_spend {b : Nat} {m : StM} {w : World} {S : Nat → Prop} (hc : m.calls ≤ 9223372036854775807) (H : Sep w [RefAt b m] S) :
    Calls Try.prog 84 #[.pointer (some ⟨b, 0, none⟩)] w fun e w' => e = .returned (.int .i64 (spendE m.calls)) ∧ St S w w' [RefAt b m.spend] := by
  obtain ⟨vl, vw, vc, H⟩ := RefAt.out H
  obtain ⟨S1, K1, G1⟩ := St.call (l1 := [_]) (St.refl H)
  refine (ref_spend hc K1).mono ?_
  rintro e w1 ⟨rfl, H2⟩
  exact ⟨rfl, RefAt.mk (l := []) (vl := vl) (vw := vw) (vc := vc) (G1 _ _ H2)⟩

theorem Try.info46 : (Try.prog.info? 46).map (fun i => (i.zero, i.size, i.bytes)) = some (some (.agg #[.int .i64 0, .string ⟨#[]⟩]), 2, 24) := by kernel_rfl

set_option maxHeartbeats 1000000 in
set_option maxRecDepth 100000 in
theorem ref_write {b : Nat} {m : StM} {at' : Int} {l : List UInt8} {w : World} {S : Nat → Prop} (hg : m.Good) (hw : m.waits.length < 1000000) (_hl : l.length ≤ 9223372036854775807) (H : Sep w [RefAt b m] S) :
    Calls Try.prog 66 #[.pointer (some ⟨b, 0, none⟩), .int .i64 at', textV l] w fun e w' => e = .returned (.int .i64 (m.write at' l).1) ∧ St S w w' [RefAt b (m.write at' l).2] := by
  have hs0 := hg.calls
  have hH := Lib.hid (St.refl H)
  have hsz : (⟨l.toArray⟩ : ByteArray).size = l.length := by simp [ByteArray.size]
  obtain ⟨ls, hls⟩ : ∃ s : ByteArray, (⟨l.toArray⟩ : ByteArray) = s := ⟨_, rfl⟩
  have htv : textV l = .string ls := by rw [← hls]; rfl
  have htv2 := Lib.hid htv
  rw [hls] at hsz
  rw [htv]
  have hls2 := Lib.hid hls
  clear hls htv
  obtain ⟨vl, vw, vc, H1⟩ := RefAt.out H
  have H1 := St.refl H1
  obtain ⟨al, cl, rfl⟩ : ∃ al cl, vl = .slice al m.last.length cl := by
    rcases own_shape (H1.row 1 rfl) with ⟨h, h'⟩ | ⟨g, cap, h, _⟩
    · exact ⟨none, 0, by rw [h, h']⟩
    · exact ⟨_, cap, h⟩
  have c0 := H1.cell 0 0 rfl rfl
  have hlt := H1.blk_lt 0 rfl
  have hcnt := hg.count
  by_cases h0 : 0 ≤ at'
  · by_cases h1 : at' < m.last.length
    · have hin : m.inn at' = true := by simp [StM.inn, h0, h1]
      have e0 : decide (at' < 0) = false := by simpa using h0
      have e1 : decide ((m.last.length : Int) ≤ at') = false := by simpa using h1
      by_cases h2 : l.length = 128
      · by_cases h3 : m.calls = 0
        · have hfin : m.write at' l = (31, m) := by simp [StM.write, hin, h2, h3]
          have hE : spendE m.calls = 31 := by simp [spendE, h3]
          have hM : m.spend = m := by simp only [StM.spend, spendC, h3]; simp [← h3]
          have hh := Lib.hid (And.intro hE hM)
          rw [hfin]
          rw [h2] at hsz
          clear hfin hE hM h3 h2 hin
          go_enter Try.func66, Try.ntmps66
          go_wp2_with (go_at_call 84; go_must (refine (refAt_spend hs0 H).mono ?_; rintro e w1 ⟨rfl, H2⟩; rw [hh.out.1]; rw [hh.out.2] at H2))
          go_ret
          exact ⟨rfl, H2⟩
        · have hfin : m.write at' l = (0, { m with calls := spendC m.calls, waits := m.waits ++ [(at', l)] }) := by simp [StM.write, hin, h2, h3]
          have hE : spendE m.calls = 0 := by simp [spendE, h3]
          have hh := Lib.hid hE
          rw [hfin]
          rw [h2] at hsz
          clear hfin hE h3 h2 hin
          go_enter Try.func66, Try.ntmps66
          have hbytes : (m.waits.length + 1) * 24 ≤ 140737488355328 := by omega
          go_wp2_with (first
            | (go_at_call 84; go_must (refine (refAt_spend hs0 H).mono ?_; rintro e w1 ⟨rfl, H2⟩; rw [hh.out]; obtain ⟨vl2, vw2, vc2, H3⟩ := RefAt.open H2; have H3 : St S w w1 [_, _, _, _] := H3; have d1 := H3.cell 0 1 rfl rfl; have g1 := H3.free 0 1 rfl))
            | (at_builtin; go_must (refine St.list_app (H3.skip _) 2 rfl rfl (.tmp 30) (.tmp 34) 38 rfl Try.underlying38 Try.info46 (by decide) rfl [.int .i64 at', .string ls] rfl rfl (new_cells #[.int .i64 at', .string ls] _) (by simp [Value.oneCell']) (by omega) hbytes ?_; intro g cap2 w3 H4 hz3; have c5 := H4.cell 0 1 rfl rfl; have f5 := H4.free 0 1 rfl)))
          go_ret
          refine ⟨rfl, RefAt.mk (l := []) (vl := vl2) (vw := .slice (some ⟨g, 0, none⟩) (m.waits.length + 1) cap2) (vc := vc2) ?_⟩
          have H5 := H4.set 0 rfl 1 (.slice (some ⟨g, 0, none⟩) (m.waits.length + 1) cap2)
          simp only [refParts, List.length_append, List.length_singleton, refWaits_snoc]
          rw [show refWait (at', l) = [.int .i64 at', .string ls] from by rw [← hls2.out]; rfl]
          exact H5
      · have hfin : m.write at' l = (2, m) := by simp [StM.write, hin, h2]
        rw [hfin]
        have e3 : ((ls.size : Int) == 128) = false := by simp [hsz]; omega
        have e4 : ((ls.size : Int) != 128) = true := by simp [hsz]; omega
        clear hfin hin h2
        go_enter Try.func66, Try.ntmps66
        go_wp2
        go_ret
        exact ⟨rfl, hH.out⟩
    · have hfin : m.write at' l = (32, m) := by simp [StM.write, StM.inn, h0, h1]
      rw [hfin]
      have e0 : decide (at' < 0) = false := by simpa using h0
      have e1 : decide ((m.last.length : Int) ≤ at') = true := by simpa using h1
      clear hfin
      go_enter Try.func66, Try.ntmps66
      go_wp2
      go_ret
      exact ⟨rfl, hH.out⟩
  · have hfin : m.write at' l = (32, m) := by simp [StM.write, StM.inn, h0]
    rw [hfin]
    have e0 : decide (at' < 0) = true := by simpa using h0
    clear hfin
    go_enter Try.func66, Try.ntmps66
    go_wp2
    go_ret
    exact ⟨rfl, hH.out⟩

theorem refWaits_len (l : List (Int × List UInt8)) : (refWaits l).length = l.length * 2 := flat_len (k := 2) (by
  intro x hx
  obtain ⟨y, _, rfl⟩ := List.mem_map.1 hx
  rfl) |>.trans (by simp)
theorem refWaits_at {l : List (Int × List UInt8)} {k : Nat} {x : Int × List UInt8} (h : l[k]? = some x) : (refWaits l)[k * 2]? = some (.int .i64 x.1) ∧ (refWaits l)[k * 2 + 1]? = some (textV x.2) := by
  have hf : ∀ y ∈ l.map refWait, y.length = 2 := by
    intro x hx
    obtain ⟨y, _, rfl⟩ := List.mem_map.1 hx
    rfl
  have hk : (l.map refWait)[k]? = some (refWait x) := by simp [h]
  exact ⟨(flat_get hf hk (j := 0) (by omega)).trans rfl, (flat_get hf hk (j := 1) (by omega)).trans rfl⟩

set_option maxHeartbeats 2000000 in
set_option maxRecDepth 100000 in
theorem ref_read {b : Nat} {m : StM} {at' : Int} {w : World} {S : Nat → Prop} (hg : m.Good) (H : Sep w [RefAt b m] S) :
    Calls Try.prog 68 #[.pointer (some ⟨b, 0, none⟩), .int .i64 at'] w fun e w' => e = .returned (.tuple #[textV (m.read at').1, .int .i64 (m.read at').2.1]) ∧ St S w w' [RefAt b (m.read at').2.2] := by
  have hH := Lib.hid (St.refl H)
  obtain ⟨vl, vw, vc, H1⟩ := RefAt.out H
  have H1 : St S w w [_, _, _, _] := St.refl H1
  have hcnt := hg.count
  have hrl := hg.reads
  have hwl := hg.room
  obtain ⟨gl, cl, rfl⟩ := row_form (H1.row 1 rfl) (N := m.last.length) rfl (by omega)
  obtain ⟨gc, cc, rfl⟩ := row_form (H1.row 3 rfl) (N := m.reads.length) rfl (by omega)
  obtain ⟨aw, cw, hvw, haw⟩ : ∃ aw cw, vw = .slice aw m.waits.length cw ∧ (m.waits.length ≠ 0 → ∃ g, aw = some ⟨g, 0, none⟩) := by
    rcases own_shape (H1.row 2 rfl) with ⟨h, h'⟩ | ⟨g, cap, h, _⟩
    · exact ⟨none, 0, by rw [h, h'], fun hn => absurd h' hn⟩
    · exact ⟨_, cap, h, fun _ => ⟨g, rfl⟩⟩
  subst hvw
  have c0 := H1.cell 0 0 rfl rfl
  have c1 := H1.cell 0 1 rfl rfl
  have c2 := H1.cell 0 2 rfl rfl
  have c3 := H1.cell 0 3 rfl rfl
  by_cases h0 : 0 ≤ at'
  · by_cases h1 : at' < m.last.length
    · have hin : m.inn at' = true := by simp [StM.inn, h0, h1]
      have e0 : decide (at' < 0) = false := by simpa using h0
      have e1 : decide ((m.last.length : Int) ≤ at') = false := by simpa using h1
      by_cases h3 : m.calls = 0
      · have hfin : m.read at' = ([], 31, m) := by simp [StM.read, hin, h3]
        rw [hfin]
        have e2 : (m.calls == 0) = true := by simpa using h3
        clear hfin h3 hin
        go_enter Try.func68, Try.ntmps68
        go_wp2
        go_ret2
        exact ⟨rfl, hH.out⟩
      · have e2 : (m.calls == 0) = false := by simpa using h3
        obtain ⟨i, rfl⟩ := Int.eq_ofNat_of_zero_le h0
        have hil : i < m.last.length := by omega
        have hir : i < m.reads.length := by omega
        have hicc : (i : Int) < (m.reads.length : Int) := by omega
        obtain ⟨x, hx⟩ : ∃ x, m.last[i]? = some x := ⟨_, List.getElem?_eq_getElem hil⟩
        obtain ⟨r, hr⟩ : ∃ r, m.reads[i]? = some r := ⟨_, List.getElem?_eq_getElem hir⟩
        have hfin : m.read i = (over i x m.waits, 0, { m with reads := m.reads.set i (wrap64 (r + 1)) }) := by
          simp [StM.read, hin, h3, StM.look, List.getD, hx, hr]
        rw [hfin]
        have d1 : w.cell? ⟨gc, i, none⟩ = some (.int .i64 r) := H1.rowCell 3 i rfl (by simp [intCells, hr])
        have d2 := H1.rowFree 3 i rfl
        have d4 := H1.row_lt 3 rfl
        have H2 : St S w _ [_, _, _, _] := H1.rowSet 3 rfl i (.int .i64 (wrap64 (r + 1)))
        have c0' := H2.cell 0 0 rfl rfl
        have c1' := H2.cell 0 1 rfl rfl
        have d3 : (w.setCell ⟨gc, i, none⟩ (.int .i64 (wrap64 (r + 1)))).cell? ⟨gl, i, none⟩ = some (textV x) := H2.rowCell 1 i rfl (by simp [texts, hx])
        clear hfin h3 hin hx hr
        unfold textV at d3
        go_enter Try.func68, Try.ntmps68
        go_upto_block 1 with (fail)
        have H3 : St S w (w.setCell ⟨gc, i, none⟩ (.int .i64 (wrap64 (r + 1)))) [Blk b #[.slice (some ⟨gl, 0, none⟩) m.last.length cl, .slice aw m.waits.length cw, .int .i64 m.calls, .slice (some ⟨gc, 0, none⟩) m.reads.length cc] 41, Row 9 1 (.slice (some ⟨gl, 0, none⟩) m.last.length cl) m.last.length (texts m.last),
            Row 46 2 (.slice aw m.waits.length cw) m.waits.length (refWaits m.waits), Row 3 1 (.slice (some ⟨gc, 0, none⟩) m.reads.length cc) m.reads.length (intCells (m.reads.set i (wrap64 (r + 1))))] := by
          have e : (intCells m.reads).set i (.int .i64 (wrap64 (r + 1))) = intCells (m.reads.set i (wrap64 (r + 1))) := by simp [intCells, List.map_set]
          rw [← e]
          exact H2
        clear H2 H1 c0 c1 c2 c3 c0' c1' d1 d2 d3 d4
        go_loopw [6, 46] (fun s j wr => ∃ k : Nat, k ≤ m.waits.length ∧ j = .int .i64 k ∧ s = textV (over i x (m.waits.take k)) ∧ St S w wr [Blk b #[.slice (some ⟨gl, 0, none⟩) m.last.length cl, .slice aw m.waits.length cw, .int .i64 m.calls, .slice (some ⟨gc, 0, none⟩) m.reads.length cc] 41, Row 9 1 (.slice (some ⟨gl, 0, none⟩) m.last.length cl) m.last.length (texts m.last),
            Row 46 2 (.slice aw m.waits.length cw) m.waits.length (refWaits m.waits), Row 3 1 (.slice (some ⟨gc, 0, none⟩) m.reads.length cc) m.reads.length (intCells (m.reads.set i (wrap64 (r + 1))))])
          (fun _ j _ => m.waits.length - (intOf j).toNat)
        case atStart => exact ⟨0, by omega, rfl, rfl, H3⟩
        case round =>
          clear H3
          obtain ⟨k, hk, rfl, rfl, HL⟩ := hrel
          by_cases hlt : k < m.waits.length
          · obtain ⟨gw, rfl⟩ := haw (by omega)
            obtain ⟨y, hy⟩ : ∃ y, m.waits[k]? = some y := ⟨_, List.getElem?_eq_getElem hlt⟩
            have q1 := HL.rowCell 2 (k * 2) rfl (refWaits_at hy).1
            have q2 := HL.rowCell 2 (k * 2 + 1) rfl (refWaits_at hy).2
            have HA := HL.skip (.cells #[.int .i64 y.1, textV y.2] 46)
            have hsn := over_snoc i x (m.waits.take k) y
            rw [← take_snoc' hy] at hsn
            obtain ⟨y1, y2⟩ := y
            unfold textV at q2 HA
            have hgw := HL.row_lt 2 rfl
            by_cases hyi : y1 = i
            · have hsn' : over i x (m.waits.take (k + 1)) = y2 := by rw [hsn, if_pos hyi]
              have hsn2 := Lib.hid hsn'
              have hyb : (y1 == (i : Int)) = true := by simpa using hyi
              clear hsn hsn' hyi hy
              go_wp2
              go_roundw
              case rel => exact ⟨k + 1, by omega, by go_num, by rw [hsn2.out]; rfl, HA⟩
              case measure => simp [intOf]; omega
            · have hsn' : over i x (m.waits.take (k + 1)) = over i x (m.waits.take k) := by rw [hsn, if_neg hyi]
              have hsn2 := Lib.hid hsn'
              have hyb : (y1 == (i : Int)) = false := by simpa using hyi
              clear hsn hsn' hyi hy
              go_wp2
              go_roundw
              case rel => exact ⟨k + 1, by omega, by go_num, by rw [hsn2.out], HA⟩
              case measure => simp [intOf]; omega
          · obtain rfl : k = m.waits.length := by omega
            rw [List.take_length] at *
            go_wp2
            go_ret2
            exact ⟨rfl, RefAt.mk (l := []) (m := { m with reads := m.reads.set i (wrap64 (r + 1)) }) (vl := .slice (some ⟨gl, 0, none⟩) m.last.length cl) (vw := .slice aw m.waits.length cw) (vc := .slice (some ⟨gc, 0, none⟩) m.reads.length cc) (by simpa [refParts] using HL)⟩
    · have hfin : m.read at' = ([], 32, m) := by simp [StM.read, StM.inn, h0, h1]
      rw [hfin]
      have e0 : decide (at' < 0) = false := by simpa using h0
      have e1 : decide ((m.last.length : Int) ≤ at') = true := by simpa using h1
      clear hfin
      go_enter Try.func68, Try.ntmps68
      go_wp2
      go_ret2
      exact ⟨rfl, hH.out⟩
  · have hfin : m.read at' = ([], 32, m) := by simp [StM.read, StM.inn, h0]
    rw [hfin]
    have e0 : decide (at' < 0) = true := by simpa using h0
    clear hfin
    go_enter Try.func68, Try.ntmps68
    go_wp2
    go_ret2
    exact ⟨rfl, hH.out⟩

end Go.Proofs.Ytbikjhmdpgoofab
