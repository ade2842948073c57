import Derived.Test.YtaafedpjifaghaaDoorGp2
import Derived.Test.YtaafedpjifaghaaDoorGp3
import Derived.Test.YtaafedpjifaghaaDoorGp4
import Derived.Test.YtaafedpjifaghaaDoorGp7
import Derived.Shelf.Small.Strs
import Derived.Shelf.Strconv.Atoi
import Derived.Shelf.Strconv.Itoa0
import Derived.Shelf.Strconv.Itoa1
import Derived.Shelf.LaysM
import Derived.Shelf.Strconv.Itoa2
import Derived.Shelf.Strconv.Itoa3
import Derived.Shelf.Strconv.AtoiErrFast
import Derived.Shelf.Strconv.ParseIntEmpty
import Derived.Shelf.Strconv.AtoiFail
import Derived.Shelf.Strconv.Clone
import Derived.Shelf.Strconv.SyntaxError
import Derived.Shelf.LaysC
import Derived.Shelf.Strconv.ToError
import Derived.Shelf.Strconv.Lower
import Derived.Shelf.Strconv.ParseUint10
import Derived.Shelf.Strconv.ParseUint10Empty
import Derived.Shelf.Strconv.ParseUint10Any
import Derived.Shelf.Strconv.ParseInt10
import Derived.Shelf.Strconv.AtoiLong
import Derived.Shelf.Strconv.AtoiInnerAll
import Derived.Shelf.Strconv.RangeError
import Derived.Shelf.Strconv.ToErrorRange
import Derived.Shelf.Strconv.AtoiAll
import Derived.Shelf.Strconv.ErrVarAll
import Derived.Shelf.Strings.Search1
import Derived.Shelf.Strings.Search2
import Derived.Shelf.Strings.Search3
import Derived.Shelf.Strings.Count
import Derived.Shelf.Strings.Shaped
import Derived.Shelf.Strings.Split
import Derived.Shelf.Strings.SplitShaped
import Derived.Shelf.Unicode.DecodeSlow
import Derived.Test.YtaafedpjifaghaaDoorProg
import Derived.Lib.ItoaNum
import Derived.Lib.AtoiAll
import Derived.Lib.Split
import Derived.Lib.Bytealg
import Derived.Lib.AppendIntMem
import Derived.Lib.SmallJoins
import Derived.Lib.AtoiErrMem
import Derived.FnData
import Derived.Great.Walk
import Derived.Laws.BitsAllLaws
import Derived.Lib.ItoaLen
/- The walk of the rogue's Run where there is no rogue. Condition: moves can be read. -/
set_option linter.unusedVariables false
set_option linter.unusedSimpArgs false
namespace Go.Proofs.YtaafedpjifaghaaDoor
open Go.RowKit

/-- A move of a list, its cells. -/
theorem MvsRO.at {S : Nat → Prop} {w wr : World} {v : Value} {l : List (Mv × Value)} (h : MvsRO S w v l) (hk : Kept S w wr) {k : Nat} {y : Mv × Value} (hx : l[k]? = some y) :
    ∃ b o cap, v = .slice (some ⟨b, o, none⟩) l.length cap ∧ wr.cell? ⟨b, o + k * 5, none⟩ = some (.int .i64 y.1.kind) ∧ wr.cell? ⟨b, o + k * 5 + 1, none⟩ = some (.int .i64 y.1.at') ∧ wr.cell? ⟨b, o + k * 5 + 2, none⟩ = some (.int .i64 y.1.to) ∧
      wr.cell? ⟨b, o + k * 5 + 3, none⟩ = some (.int .i64 y.1.n) ∧ wr.cell? ⟨b, o + k * 5 + 4, none⟩ = some y.2 := by
  obtain ⟨ad, cap, rfl, hlen, hbs, hcells⟩ := h
  have hlt := (List.getElem?_eq_some_iff.1 hx).1
  obtain ⟨bo, o, rfl, hbo, hbS, hc⟩ := hcells (by rintro rfl; simp at hlt)
  have hc5 : ∀ j u, (mvCells y.1 y.2).toList[j]? = some u → wr.cell? ⟨bo, o + k * 5 + j, none⟩ = some u := fun j u hj => (World.cell?_of_block (w := w) (hk.block bo hbo hbS)).trans (hc k _ hx j u hj)
  exact ⟨bo, o, cap, rfl, by simpa using hc5 0 _ rfl, hc5 1 _ rfl, hc5 2 _ rfl, hc5 3 _ rfl, hc5 4 _ rfl⟩
theorem MvsRO.later {S : Nat → Prop} {w wr : World} {v : Value} {l : List (Mv × Value)} (h : MvsRO S w v l) (hk : Kept S w wr) : MvsRO S wr v l := by
  obtain ⟨ad, cap, rfl, hlen, hbs, hcells⟩ := h
  refine ⟨ad, cap, rfl, hlen, fun y hy => ⟨(hbs y hy).1.move hk, (hbs y hy).2⟩, fun hne => ?_⟩
  obtain ⟨b, o, e, hb, hS, hc⟩ := hcells hne
  exact ⟨b, o, e, Nat.lt_of_lt_of_le hb hk.size, hS, fun i y hi j u hj => (World.cell?_of_block (w := w) (hk.block b hb hS)).trans (hc i y hi j u hj)⟩
set_option maxHeartbeats 2000000 in
set_option maxRecDepth 100000 in
theorem rogue_run_nil {lv : Value} {l : List (Mv × Value)} {w : World} {S : Nat → Prop} (hl : MvsRO S w lv l) :
    Calls Tryd.prog 17 #[.pointer none, lv] w fun e w' => e = .returned (.int .i64 0) ∧ Below w.heap.size w w' := by
  obtain ⟨ad, cap, rfl, hlen, _⟩ := id hl
  have H0 : St (fun _ => False) w w [] := St.nil _ w
  go_enter Tryd.func17, Tryd.ntmps17
  go_upto_block 1 with (fail)
  go_loopw [5, 10] (fun c j wr => ∃ k : Nat, k ≤ l.length ∧ j = .int .i64 k ∧ c = .int .i64 0 ∧ St (fun _ => False) w wr []) (fun _ j _ => l.length - (intOf j).toNat)
  case atStart => exact ⟨0, by omega, rfl, rfl, H0⟩
  case round =>
    clear H0
    obtain ⟨k, hk, rfl, rfl, HL⟩ := hrel
    by_cases hlt : k < l.length
    · obtain ⟨⟨v, x⟩, hx⟩ : ∃ y, l[k]? = some y := ⟨_, List.getElem?_eq_getElem hlt⟩
      obtain ⟨hvb, hvl⟩ := (show ∀ y ∈ l, BytesRO S w y.2 y.1.b ∧ y.1.b.length ≤ 9223372036854775807 by obtain ⟨_, _, _, _, h, _⟩ := hl; exact h) _ (List.mem_of_getElem? hx)
      obtain ⟨xa, xc, e, _⟩ := id hvb
      simp only at e
      subst e
      obtain ⟨bo, o, cp, e, c0, c1, c2, c3, c4⟩ := hl.at (HL.kept.mono (fun _ _ h => h.elim)) hx
      injection e with e e2 e3
      subst e
      simp only at c0 c1 c2 c3 c4
      have hlh := Lib.hid hl
      clear hl hx hvb hvl e3
      have HA : St (fun _ => False) w _ [Blk wr.heap.size (mvCells v (.slice xa v.b.length xc)) 40] := HL.allocAt rfl (mvCells v (.slice xa v.b.length xc)) 40
      go_upto_region 5 with (fail)
      obtain ⟨wa, hwa⟩ : ∃ wa, wr.alloc (.cells (mvCells v (.slice xa v.b.length xc)) 40) = wa := ⟨_, rfl⟩
      obtain ⟨ob, hob⟩ : ∃ ob, wr.heap.size = ob := ⟨_, rfl⟩
      have hwa2 : wr.alloc (.cells #[.int .i64 v.kind, .int .i64 v.at', .int .i64 v.to, .int .i64 v.n, .slice xa v.b.length xc] 40) = wa := hwa
      rw [hwa, hob] at HA
      try rw [hwa2]
      try simp only [hob]
      clear hwa hwa2 hob c0 c1 c2 c3 c4 HL
      have d0 : wa.cell? ⟨ob, 0, none⟩ = some (.int .i64 v.kind) := HA.cell 0 0 rfl rfl
      have d1 : wa.cell? ⟨ob, 1, none⟩ = some (.int .i64 v.at') := HA.cell 0 1 rfl rfl
      have d2 : wa.cell? ⟨ob, 2, none⟩ = some (.int .i64 v.to) := HA.cell 0 2 rfl rfl
      have d3 : wa.cell? ⟨ob, 3, none⟩ = some (.int .i64 v.n) := HA.cell 0 3 rfl rfl
      have d4 : wa.cell? ⟨ob, 4, none⟩ = some (.slice xa v.b.length xc) := HA.cell 0 4 rfl rfl
      have kd := fun cs => rogue_do_nil (cs := cs) wa
      go_wp2_with (go_at_call 12; go_must (refine (St.callPast (kd _) HA).mono ?_; rintro e w2 ⟨rfl, H2⟩))
      go_roundw
      case rel => exact ⟨k + 1, by omega, by go_num, rfl, H2.drop (l1 := [_])⟩
      case measure => simp [intOf]; omega
    · obtain rfl : k = l.length := by omega
      go_wp2
      go_ret
      exact ⟨rfl, HL.below (Nat.le_refl _) (fun _ h => h.elim)⟩

end Go.Proofs.YtaafedpjifaghaaDoor

/- Contracts of Go's library as the kit's shelf lays them at this program (written by the kit's lay-shelf.mjs and lay-plain.mjs, cut by shelf.sh for seat YtaafedpjifaghaaDoor). -/
set_option linter.unusedVariables false
set_option linter.unusedSimpArgs false
namespace Go.Proofs.YtaafedpjifaghaaDoor
open Go.Shelf
def sh_lays137_ren : Go.Shelf.Ren := ⟨fun | 137 => 60 | 217 => 72 | 266 => 85 | n => n, fun | 9 => 9 | 5 => 5 | 3 => 3 | n => n, fun | n => n⟩
theorem sh_lays137 : Go.Proofs.Lays.n137 Tryd.prog sh_lays137_ren := {
  mixed := by kernel_rfl
  f137 := Tryd.func60.trans (congrArg some (by kernel_rfl))
  f217 := Tryd.func72.trans (congrArg some (by kernel_rfl))
  f266 := Tryd.func85.trans (congrArg some (by kernel_rfl))
  t3 := Tryd.underlying3
  a3 := Tryd.isAgg3
  z3 := Tryd.sizeOf3
  v3 := Tryd.zeroValue3
  t5 := Tryd.underlying5
  a5 := Tryd.isAgg5
  z5 := Tryd.sizeOf5
  v5 := Tryd.zeroValue5
  t9 := Tryd.underlying9
  a9 := Tryd.isAgg9
  z9 := Tryd.sizeOf9
  v9 := Tryd.zeroValue9 }
open Go.RowKit in
/-- strings.IndexByte: "IndexByte returns the index of the first instance of c in s, or -1 if c is not present in s.": IT RETURNS 'Lib.indexByte s c'; the world is as it was. (LAID: no walk: one application.) -/
theorem sh_strings_IndexByte (s : ByteArray) (c : Int) (w : World) :
    Calls Tryd.prog 60 #[.string s, .int .u8 c] w fun e w' => e = .returned (.int .i64 (Lib.indexByte s.data.toList c.toNat.toUInt8)) ∧ w' = w := Any.strings_IndexByte sh_lays137 s c w
def sh_laysM171_ren : Go.Shelf.Ren := ⟨fun | 171 => 47 | 243 => 62 | 246 => 77 | 283 => 89 | 284 => 90 | 285 => 91 | 286 => 92 | 129 => 101 | 317 => 100 | 318 => 102 | 319 => 103 | 320 => 104 | 337 => 106 | 338 => 107 | n => n, fun | 3 => 3 | 9 => 9 | 2 => 2 | 4 => 4 | 171 => 142 | 0 => 0 | 53 => 133 | 37 => 38 | 5 => 5 | 173 => 145 | 212 => 154 | 51 => 155 | 20 => 20 | 213 => 156 | 46 => 115 | 232 => 165 | 233 => 166 | n => n, fun | 17 => 3 | 18 => 6 | 19 => 7 | n => n⟩
theorem sh_laysM171 : Go.Proofs.LaysM.n171 Tryd.prog sh_laysM171_ren := {
  mixed := by kernel_rfl
  f129 := Tryd.func101.trans (congrArg some (by kernel_rfl))
  f171 := Tryd.func47.trans (congrArg some (by kernel_rfl))
  f243 := Tryd.func62.trans (congrArg some (by kernel_rfl))
  f246 := Tryd.func77.trans (congrArg some (by kernel_rfl))
  f283 := Tryd.func89.trans (congrArg some (by kernel_rfl))
  f284 := Tryd.func90.trans (congrArg some (by kernel_rfl))
  f285 := Tryd.func91.trans (congrArg some (by kernel_rfl))
  f286 := Tryd.func92.trans (congrArg some (by kernel_rfl))
  f317 := Tryd.func100.trans (congrArg some (by kernel_rfl))
  f318 := Tryd.func102.trans (congrArg some (by kernel_rfl))
  f319 := Tryd.func103.trans (congrArg some (by kernel_rfl))
  f320 := Tryd.func104.trans (congrArg some (by kernel_rfl))
  f337 := Tryd.func106.trans (congrArg some (by kernel_rfl))
  f338 := Tryd.func107.trans (congrArg some (by kernel_rfl))
  t0 := Tryd.underlying0
  a0 := Tryd.isAgg0
  z0 := Tryd.sizeOf0
  v0 := Tryd.zeroValue0
  t2 := Tryd.underlying2
  a2 := Tryd.isAgg2
  z2 := Tryd.sizeOf2
  v2 := Tryd.zeroValue2
  t3 := Tryd.underlying3
  a3 := Tryd.isAgg3
  z3 := Tryd.sizeOf3
  v3 := Tryd.zeroValue3
  t4 := Tryd.underlying4
  a4 := Tryd.isAgg4
  z4 := Tryd.sizeOf4
  v4 := Tryd.zeroValue4
  t5 := Tryd.underlying5
  a5 := Tryd.isAgg5
  z5 := Tryd.sizeOf5
  v5 := Tryd.zeroValue5
  t9 := Tryd.underlying9
  a9 := Tryd.isAgg9
  z9 := Tryd.sizeOf9
  v9 := Tryd.zeroValue9
  t20 := Tryd.underlying20
  a20 := Tryd.isAgg20
  z20 := Tryd.sizeOf20
  v20 := Tryd.zeroValue20
  t37 := Tryd.underlying38
  a37 := Tryd.isAgg38
  z37 := Tryd.sizeOf38
  v37 := Tryd.zeroValue38
  t46 := Tryd.underlying115
  a46 := Tryd.isAgg115
  z46 := Tryd.sizeOf115
  v46 := Tryd.zeroValue115
  t51 := Tryd.underlying155
  a51 := Tryd.isAgg155
  z51 := Tryd.sizeOf155
  v51 := Tryd.zeroValue155
  t53 := Tryd.underlying133
  a53 := Tryd.isAgg133
  z53 := Tryd.sizeOf133
  v53 := Tryd.zeroValue133
  t171 := Tryd.underlying142
  a171 := Tryd.isAgg142
  z171 := Tryd.sizeOf142
  v171 := Tryd.zeroValue142
  t173 := Tryd.underlying145
  a173 := Tryd.isAgg145
  z173 := Tryd.sizeOf145
  v173 := Tryd.zeroValue145
  t212 := Tryd.underlying154
  a212 := Tryd.isAgg154
  z212 := Tryd.sizeOf154
  v212 := Tryd.zeroValue154
  t213 := Tryd.underlying156
  a213 := Tryd.isAgg156
  z213 := Tryd.sizeOf156
  t232 := Tryd.underlying165
  a232 := Tryd.isAgg165
  z232 := Tryd.sizeOf165
  v232 := Tryd.zeroValue165
  t233 := Tryd.underlying166
  a233 := Tryd.isAgg166
  z233 := Tryd.sizeOf166
  v233 := Tryd.zeroValue166
  g17 := by kernel_rfl
  g18 := by kernel_rfl
  g19 := by kernel_rfl
  i0 := by kernel_rfl
  i2 := by kernel_rfl
  i3 := by kernel_rfl
  i4 := by kernel_rfl
  i5 := by kernel_rfl
  i9 := by kernel_rfl
  i20 := by kernel_rfl
  i37 := by kernel_rfl
  i46 := by kernel_rfl
  i51 := by kernel_rfl
  i53 := by kernel_rfl
  i171 := by kernel_rfl
  i173 := by kernel_rfl
  i212 := by kernel_rfl
  i232 := by kernel_rfl
  i233 := by kernel_rfl
  m17 := by kernel_rfl
  m18 := by kernel_rfl
  m19 := by kernel_rfl }
open Go.RowKit Go.Sort Go.Lib in
/-- strconv.Itoa: "Itoa is equivalent to FormatInt(int64(i), 10).": i's DECIMAL NUMERAL ('Lib.itoa': a '-' where i is negative, then the digits), FOR EVERY int. The world behind the call: the world before it, new blocks behind the heap (the library's 'var a [24]byte'), draws. (LAID: no walk: one application.) -/
theorem sh_strconv_Itoa (n : Int) (h0 : -9223372036854775808 ≤ n) (h1 : n ≤ 9223372036854775807) (w : World) (htab : Lib.TabIs Tryd.prog w "internal/strconv.uint64pow10" .u64 Lib.pow10Tab) :
    Calls Tryd.prog 47 #[.int .i64 n] w fun e w' => e = .returned (.string ⟨(Lib.itoa n).toArray⟩) ∧ ∃ k os, w' = grow (w.drewN k) os := Any.strconv_Itoa sh_laysM171 n h0 h1 w htab
def sh_laysC172_ren : Go.Shelf.Ren := ⟨fun | 172 => 39 | 244 => 58 | 245 => 59 | 247 => 67 | 279 => 68 | 280 => 69 | 281 => 70 | 282 => 71 | 287 => 82 | 316 => 83 | 171 => 47 | 205 => 84 | 321 => 97 | 322 => 98 | 243 => 62 | 246 => 77 | 283 => 89 | 284 => 90 | 285 => 91 | 286 => 92 | 129 => 101 | 317 => 100 | 318 => 102 | 319 => 103 | 320 => 104 | 337 => 106 | 338 => 107 | n => n, fun | 9 => 9 | 3 => 3 | 75 => 81 | 76 => 82 | 4 => 4 | 5 => 5 | 167 => 118 | 37 => 38 | 0 => 0 | 85 => 119 | 2 => 2 | 168 => 121 | 53 => 133 | 175 => 134 | 46 => 115 | 210 => 138 | 127 => 149 | 145 => 152 | 143 => 150 | 21 => 21 | 171 => 142 | 173 => 145 | 212 => 154 | 51 => 155 | 20 => 20 | 213 => 156 | 232 => 165 | 233 => 166 | 80 => 44 | n => n, fun | 15 => 0 | 16 => 1 | 17 => 3 | 18 => 6 | 19 => 7 | n => n⟩
theorem sh_laysC172 : Go.Proofs.LaysC.n172 Tryd.prog sh_laysC172_ren := {
  mixed := by kernel_rfl
  f129 := Tryd.func101.trans (congrArg some (by kernel_rfl))
  f171 := Tryd.func47.trans (congrArg some (by kernel_rfl))
  f172 := Tryd.func39.trans (congrArg some (by kernel_rfl))
  f205 := Tryd.func84.trans (congrArg some (by kernel_rfl))
  f243 := Tryd.func62.trans (congrArg some (by kernel_rfl))
  f244 := Tryd.func58.trans (congrArg some (by kernel_rfl))
  f245 := Tryd.func59.trans (congrArg some (by kernel_rfl))
  f246 := Tryd.func77.trans (congrArg some (by kernel_rfl))
  f247 := Tryd.func67.trans (congrArg some (by kernel_rfl))
  f279 := Tryd.func68.trans (congrArg some (by kernel_rfl))
  f280 := Tryd.func69.trans (congrArg some (by kernel_rfl))
  f281 := Tryd.func70.trans (congrArg some (by kernel_rfl))
  f282 := Tryd.func71.trans (congrArg some (by kernel_rfl))
  f283 := Tryd.func89.trans (congrArg some (by kernel_rfl))
  f284 := Tryd.func90.trans (congrArg some (by kernel_rfl))
  f285 := Tryd.func91.trans (congrArg some (by kernel_rfl))
  f286 := Tryd.func92.trans (congrArg some (by kernel_rfl))
  f287 := Tryd.func82.trans (congrArg some (by kernel_rfl))
  f316 := Tryd.func83.trans (congrArg some (by kernel_rfl))
  f317 := Tryd.func100.trans (congrArg some (by kernel_rfl))
  f318 := Tryd.func102.trans (congrArg some (by kernel_rfl))
  f319 := Tryd.func103.trans (congrArg some (by kernel_rfl))
  f320 := Tryd.func104.trans (congrArg some (by kernel_rfl))
  f321 := Tryd.func97.trans (congrArg some (by kernel_rfl))
  f322 := Tryd.func98.trans (congrArg some (by kernel_rfl))
  f337 := Tryd.func106.trans (congrArg some (by kernel_rfl))
  f338 := Tryd.func107.trans (congrArg some (by kernel_rfl))
  t0 := Tryd.underlying0
  a0 := Tryd.isAgg0
  z0 := Tryd.sizeOf0
  v0 := Tryd.zeroValue0
  t2 := Tryd.underlying2
  a2 := Tryd.isAgg2
  z2 := Tryd.sizeOf2
  v2 := Tryd.zeroValue2
  t3 := Tryd.underlying3
  a3 := Tryd.isAgg3
  z3 := Tryd.sizeOf3
  v3 := Tryd.zeroValue3
  t4 := Tryd.underlying4
  a4 := Tryd.isAgg4
  z4 := Tryd.sizeOf4
  v4 := Tryd.zeroValue4
  t5 := Tryd.underlying5
  a5 := Tryd.isAgg5
  z5 := Tryd.sizeOf5
  v5 := Tryd.zeroValue5
  t9 := Tryd.underlying9
  a9 := Tryd.isAgg9
  z9 := Tryd.sizeOf9
  v9 := Tryd.zeroValue9
  t20 := Tryd.underlying20
  a20 := Tryd.isAgg20
  z20 := Tryd.sizeOf20
  v20 := Tryd.zeroValue20
  t21 := Tryd.underlying21
  a21 := Tryd.isAgg21
  z21 := Tryd.sizeOf21
  v21 := Tryd.zeroValue21
  t37 := Tryd.underlying38
  a37 := Tryd.isAgg38
  z37 := Tryd.sizeOf38
  v37 := Tryd.zeroValue38
  t46 := Tryd.underlying115
  a46 := Tryd.isAgg115
  z46 := Tryd.sizeOf115
  v46 := Tryd.zeroValue115
  t51 := Tryd.underlying155
  a51 := Tryd.isAgg155
  z51 := Tryd.sizeOf155
  v51 := Tryd.zeroValue155
  t53 := Tryd.underlying133
  a53 := Tryd.isAgg133
  z53 := Tryd.sizeOf133
  v53 := Tryd.zeroValue133
  t75 := Tryd.underlying81
  a75 := Tryd.isAgg81
  z75 := Tryd.sizeOf81
  v75 := Tryd.zeroValue81
  t76 := Tryd.underlying82
  a76 := Tryd.isAgg82
  z76 := Tryd.sizeOf82
  v76 := Tryd.zeroValue82
  t85 := Tryd.underlying119
  a85 := Tryd.isAgg119
  z85 := Tryd.sizeOf119
  v85 := Tryd.zeroValue119
  t127 := Tryd.underlying149
  a127 := Tryd.isAgg149
  z127 := Tryd.sizeOf149
  v127 := Tryd.zeroValue149
  t143 := Tryd.underlying150
  a143 := Tryd.isAgg150
  z143 := Tryd.sizeOf150
  v143 := Tryd.zeroValue150
  t145 := Tryd.underlying152
  a145 := Tryd.isAgg152
  z145 := Tryd.sizeOf152
  v145 := Tryd.zeroValue152
  t167 := Tryd.underlying118
  a167 := Tryd.isAgg118
  z167 := Tryd.sizeOf118
  v167 := Tryd.zeroValue118
  t168 := Tryd.underlying121
  a168 := Tryd.isAgg121
  z168 := Tryd.sizeOf121
  v168 := Tryd.zeroValue121
  t171 := Tryd.underlying142
  a171 := Tryd.isAgg142
  z171 := Tryd.sizeOf142
  v171 := Tryd.zeroValue142
  t173 := Tryd.underlying145
  a173 := Tryd.isAgg145
  z173 := Tryd.sizeOf145
  v173 := Tryd.zeroValue145
  t175 := Tryd.underlying134
  a175 := Tryd.isAgg134
  z175 := Tryd.sizeOf134
  v175 := Tryd.zeroValue134
  t210 := Tryd.underlying138
  a210 := Tryd.isAgg138
  z210 := Tryd.sizeOf138
  v210 := Tryd.zeroValue138
  t212 := Tryd.underlying154
  a212 := Tryd.isAgg154
  z212 := Tryd.sizeOf154
  v212 := Tryd.zeroValue154
  t213 := Tryd.underlying156
  a213 := Tryd.isAgg156
  z213 := Tryd.sizeOf156
  t232 := Tryd.underlying165
  a232 := Tryd.isAgg165
  z232 := Tryd.sizeOf165
  v232 := Tryd.zeroValue165
  t233 := Tryd.underlying166
  a233 := Tryd.isAgg166
  z233 := Tryd.sizeOf166
  v233 := Tryd.zeroValue166
  g15 := by kernel_rfl
  g16 := by kernel_rfl
  g17 := by kernel_rfl
  g18 := by kernel_rfl
  g19 := by kernel_rfl
  t80 := Tryd.underlying44
  a80 := Tryd.isAgg44
  z80 := Tryd.sizeOf44
  v80 := Tryd.zeroValue44
  i0 := by kernel_rfl
  i2 := by kernel_rfl
  i3 := by kernel_rfl
  i4 := by kernel_rfl
  i5 := by kernel_rfl
  i9 := by kernel_rfl
  i20 := by kernel_rfl
  i21 := by kernel_rfl
  i37 := by kernel_rfl
  i46 := by kernel_rfl
  i51 := by kernel_rfl
  i53 := by kernel_rfl
  i75 := by kernel_rfl
  i76 := by kernel_rfl
  i80 := by kernel_rfl
  i85 := by kernel_rfl
  i127 := by kernel_rfl
  i143 := by kernel_rfl
  i145 := by kernel_rfl
  i167 := by kernel_rfl
  i168 := by kernel_rfl
  i171 := by kernel_rfl
  i173 := by kernel_rfl
  i175 := by kernel_rfl
  i210 := by kernel_rfl
  i212 := by kernel_rfl
  i232 := by kernel_rfl
  i233 := by kernel_rfl
  m15 := by kernel_rfl
  m16 := by kernel_rfl
  m17 := by kernel_rfl
  m18 := by kernel_rfl
  m19 := by kernel_rfl
  c0 := by kernel_rfl
  c2 := by kernel_rfl
  c3 := by kernel_rfl
  c4 := by kernel_rfl
  c5 := by kernel_rfl
  c9 := by kernel_rfl
  c20 := by kernel_rfl
  c21 := by kernel_rfl
  c37 := by kernel_rfl
  c46 := by kernel_rfl
  c51 := by kernel_rfl
  c53 := by kernel_rfl
  c75 := by kernel_rfl
  c76 := by kernel_rfl
  c80 := by kernel_rfl
  c85 := by kernel_rfl
  c127 := by kernel_rfl
  c143 := by kernel_rfl
  c145 := by kernel_rfl
  c167 := by kernel_rfl
  c168 := by kernel_rfl
  c171 := by kernel_rfl
  c173 := by kernel_rfl
  c175 := by kernel_rfl
  c210 := by kernel_rfl
  c212 := by kernel_rfl
  c213 := by kernel_rfl
  c232 := by kernel_rfl
  c233 := by kernel_rfl }
open Go.RowKit in
/-- strconv.Atoi, AT EVERY STRING THAT SPELLS AN int ('Lib.atoiAll .. = .ok v'; of whatever length: leading zeros count): v, AND NO ERROR. The world: as it was, or with the one new row that '[]byte(..)' lays. (LAID: no walk: one application.) -/
theorem sh_strconv_Atoi_ok (s : ByteArray) (hmax : s.size ≤ 9223372036854775806) (v : Int) (h : Lib.atoiAll s.data.toList = .ok v) (w : World) :
    Calls Tryd.prog 39 #[.string s] w fun e w' => e = .returned (.tuple #[.int .i64 v, .nilIface]) ∧ (w' = w ∨ ∃ t, w' = Lib.bytesWorld w 5 t) := Any.strconv_Atoi_ok sh_laysC172 s hmax v h w
open Go.RowKit in
theorem sh_strconv_Atoi_syntax_var (s : ByteArray) (hlim : s.size ≤ 281474976710656) (h : Lib.atoiAll s.data.toList = Lib.atoiAll []) (tp : TypeId) (p : Value) (w : World) (hvar : w.var? Tryd.prog "strconv.ErrSyntax" = some #[.iface tp p]) :
    Calls Tryd.prog 39 #[.string s] w fun e w' => ∃ N, e = .returned (.tuple #[.int .i64 0, .iface 121 (.pointer (some ⟨N, 0, none⟩))]) ∧ w.heap.size ≤ N ∧ w'.heap[N]? = some (.cells #[.string ⟨#[65, 116, 111, 105]⟩, .string s, .iface tp p] 138 (0, 0)) ∧ Below w.heap.size w w' := Any.strconv_Atoi_syntax_var sh_laysC172 s hlim h tp p w hvar
open Go.RowKit in
theorem sh_strconv_Atoi_range_var (s : ByteArray) (hlim : s.size ≤ 281474976710656) (h : Lib.atoiAll s.data.toList = .range) (tp : TypeId) (p : Value) (w : World) (hvar : w.var? Tryd.prog "strconv.ErrRange" = some #[.iface tp p]) :
    Calls Tryd.prog 39 #[.string s] w fun e w' => ∃ N, e = .returned (.tuple #[.int .i64 (Lib.atoiSat s.data.toList), .iface 121 (.pointer (some ⟨N, 0, none⟩))]) ∧ w.heap.size ≤ N ∧ w'.heap[N]? = some (.cells #[.string ⟨#[65, 116, 111, 105]⟩, .string s, .iface tp p] 138 (0, 0)) ∧ Below w.heap.size w w' := Any.strconv_Atoi_range_var sh_laysC172 s hlim h tp p w hvar
def sh_lays146_ren : Go.Shelf.Ren := ⟨fun | 146 => 35 | 221 => 57 | 268 => 64 | 138 => 65 | 143 => 66 | 195 => 78 | 197 => 79 | 218 => 80 | 219 => 81 | 260 => 93 | 217 => 72 | 225 => 94 | 224 => 95 | 267 => 96 | 266 => 85 | 314 => 105 | n => n, fun | 9 => 9 | 31 => 64 | 3 => 3 | 4 => 4 | 0 => 0 | 105 => 131 | 21 => 21 | 5 => 5 | 46 => 115 | 119 => 158 | 139 => 161 | 138 => 160 | 146 => 162 | 51 => 155 | n => n, fun | 1 => 2 | 3 => 4 | 4 => 5 | n => n⟩
theorem sh_lays146 : Go.Proofs.Lays.n146 Tryd.prog sh_lays146_ren := {
  mixed := by kernel_rfl
  f138 := Tryd.func65.trans (congrArg some (by kernel_rfl))
  f143 := Tryd.func66.trans (congrArg some (by kernel_rfl))
  f146 := Tryd.func35.trans (congrArg some (by kernel_rfl))
  f195 := Tryd.func78.trans (congrArg some (by kernel_rfl))
  f197 := Tryd.func79.trans (congrArg some (by kernel_rfl))
  f217 := Tryd.func72.trans (congrArg some (by kernel_rfl))
  f218 := Tryd.func80.trans (congrArg some (by kernel_rfl))
  f219 := Tryd.func81.trans (congrArg some (by kernel_rfl))
  f221 := Tryd.func57.trans (congrArg some (by kernel_rfl))
  f224 := Tryd.func95.trans (congrArg some (by kernel_rfl))
  f225 := Tryd.func94.trans (congrArg some (by kernel_rfl))
  f260 := Tryd.func93.trans (congrArg some (by kernel_rfl))
  f266 := Tryd.func85.trans (congrArg some (by kernel_rfl))
  f267 := Tryd.func96.trans (congrArg some (by kernel_rfl))
  f268 := Tryd.func64.trans (congrArg some (by kernel_rfl))
  f314 := Tryd.func105.trans (congrArg some (by kernel_rfl))
  t0 := Tryd.underlying0
  a0 := Tryd.isAgg0
  z0 := Tryd.sizeOf0
  v0 := Tryd.zeroValue0
  t3 := Tryd.underlying3
  a3 := Tryd.isAgg3
  z3 := Tryd.sizeOf3
  v3 := Tryd.zeroValue3
  t4 := Tryd.underlying4
  a4 := Tryd.isAgg4
  z4 := Tryd.sizeOf4
  v4 := Tryd.zeroValue4
  t5 := Tryd.underlying5
  a5 := Tryd.isAgg5
  z5 := Tryd.sizeOf5
  v5 := Tryd.zeroValue5
  t9 := Tryd.underlying9
  a9 := Tryd.isAgg9
  z9 := Tryd.sizeOf9
  v9 := Tryd.zeroValue9
  t21 := Tryd.underlying21
  a21 := Tryd.isAgg21
  z21 := Tryd.sizeOf21
  v21 := Tryd.zeroValue21
  t31 := Tryd.underlying64
  a31 := Tryd.isAgg64
  z31 := Tryd.sizeOf64
  v31 := Tryd.zeroValue64
  t46 := Tryd.underlying115
  a46 := Tryd.isAgg115
  z46 := Tryd.sizeOf115
  v46 := Tryd.zeroValue115
  t51 := Tryd.underlying155
  a51 := Tryd.isAgg155
  z51 := Tryd.sizeOf155
  v51 := Tryd.zeroValue155
  t105 := Tryd.underlying131
  a105 := Tryd.isAgg131
  z105 := Tryd.sizeOf131
  v105 := Tryd.zeroValue131
  t119 := Tryd.underlying158
  a119 := Tryd.isAgg158
  z119 := Tryd.sizeOf158
  t138 := Tryd.underlying160
  a138 := Tryd.isAgg160
  z138 := Tryd.sizeOf160
  v138 := Tryd.zeroValue160
  t139 := Tryd.underlying161
  a139 := Tryd.isAgg161
  z139 := Tryd.sizeOf161
  v139 := Tryd.zeroValue161
  t146 := Tryd.underlying162
  a146 := Tryd.isAgg162
  z146 := Tryd.sizeOf162
  v146 := Tryd.zeroValue162
  g1 := by kernel_rfl
  g3 := by kernel_rfl
  g4 := by kernel_rfl }
open Go.RowKit Go.Lib in
/-- strings.Split. (LAID: no walk: one application.) -/
theorem sh_strings_Split (s sep : ByteArray) (m : Int) (w : World) (hs : s.size < 4294967281) (hm : w.cell? ⟨2, 0, none⟩ = some (.int .i64 m)) (h1 : 1 ≤ sep.size) :
    Calls Tryd.prog 35 #[.string s, .string sep] w fun e w' =>
      e = .returned (.slice (some ⟨w.heap.size, 0, none⟩) (Lib.countB s sep + 1) (Lib.countB s sep + 1)) ∧ w' = w.alloc (.cells ((Lib.splitB sep 0 (Lib.countB s sep) s).map Value.string).toArray 9) := Any.strings_Split sh_lays146 (by kernel_rfl) s sep m w hs hm h1
end Go.Proofs.YtaafedpjifaghaaDoor

/- A move's text, and what a text tells, as plain data. Plain laws, no program in sight. -/
set_option linter.unusedVariables false
set_option linter.unusedSimpArgs false
namespace Go.Proofs.YtaafedpjifaghaaDoor
open Go

/-- Names and parts of the kinds. -/
def wordsM : List (List UInt8 × List UInt8) :=
  [([108, 97, 121], [97]), ([115, 119, 97, 112], [97, 116]), ([100, 114, 111, 112], [97, 110]), ([111, 108, 100], [97, 110]), ([98, 97, 99, 107], [110]), ([116, 117, 114, 110], [97, 110]), ([99, 111, 112, 121], [97, 116]), ([115, 104, 105, 102, 116], [97, 116, 110])]
def Mv.part (v : Mv) (c : UInt8) : Int := if c = 97 then v.at' else if c = 116 then v.to else v.n
def Mv.setPart (v : Mv) (c : UInt8) (n : Int) : Mv := if c = 97 then ⟨v.kind, n, v.to, v.n, v.b⟩ else if c = 116 then ⟨v.kind, v.at', n, v.n, v.b⟩ else ⟨v.kind, v.at', v.to, n, v.b⟩
def digit16 (n : Nat) : UInt8 := [48, 49, 50, 51, 52, 53, 54, 55, 56, 57, 97, 98, 99, 100, 101, 102].getD n 0
def hexOf (b : List UInt8) : List UInt8 := b.flatMap fun c => [digit16 (c.toNat / 16), digit16 (c.toNat % 16)]
def hexM (b : List UInt8) : List UInt8 := if b = [] then [45] else hexOf b
/-- The numbers of a move, one behind the other; none: one of them is below 0. -/
def numsM (v : Mv) : List UInt8 → List UInt8 → Option (List UInt8)
  | [], s => some s
  | c :: r, s => if v.part c < 0 then none else numsM v r (s ++ 32 :: Lib.itoa (v.part c))
def textM (v : Mv) : List UInt8 :=
  if v.kind < 0 ∨ 7 < v.kind ∨ 128 < v.b.length then []
  else match numsM v (wordsM.getD v.kind.toNat ([], [])).2 (wordsM.getD v.kind.toNat ([], [])).1 with
    | none => []
    | some s => if v.kind = 0 then s ++ 32 :: hexM v.b else s
def hexVal (c : UInt8) : Nat := (max (Lib.indexByte [48, 49, 50, 51, 52, 53, 54, 55, 56, 57, 97, 98, 99, 100, 101, 102] c) 0).toNat
def unhexM : Nat → List UInt8 → List UInt8
  | 0, _ => []
  | n + 1, a :: b :: r => UInt8.ofNat (16 * hexVal a + hexVal b) :: unhexM n r
  | _ + 1, _ => []
/-- The number that Atoi tells, whatever its error. -/
def atoiM (l : List UInt8) : Int := match Lib.atoiAll l with
  | .ok v => v
  | .range => Lib.atoiSat l
  | _ => 0
/-- The numbers of a text laid into a move, one by one. -/
def fillM (w : List (List UInt8)) : List UInt8 → Nat → Mv → Mv
  | [], _, v => v
  | c :: r, i, v => fillM w r (i + 1) (if i + 1 < w.length then v.setPart c (atoiM (w.getD (i + 1) [])) else v)
def kindM (w : List (List UInt8)) : Int := match wordsM.findIdx? (fun x => x.1 == w.getD 0 []) with
  | some k => k
  | none => -1
def preM (w : List (List UInt8)) : Mv :=
  let v := fillM w (wordsM.getD (kindM w).toNat ([], [])).2 0 ⟨kindM w, 0, 0, 0, []⟩
  if kindM w = 0 ∧ w.length = 3 then { v with b := unhexM 128 (w.getD 2 []) } else v
def parseM (s : List UInt8) : Option Mv :=
  if kindM (Lib.split s [32]) < 0 then none else if textM (preM (Lib.split s [32])) = s then some (preM (Lib.split s [32])) else none

theorem first_parse : parseM [108, 97, 121, 32, 48, 32, 54, 49, 54, 50] = some ⟨0, 0, 0, 0, [97, 98]⟩ := by kernel_rfl
theorem first_text : textM ⟨0, 0, 0, 0, [97, 98]⟩ = [108, 97, 121, 32, 48, 32, 54, 49, 54, 50] := by kernel_rfl

end Go.Proofs.YtaafedpjifaghaaDoor

/- Library calls as they are met in the midst of a call: what package-level variables hold, Itoa, Atoi, Split, IndexByte. -/
set_option linter.unusedVariables false
set_option linter.unusedSimpArgs false
namespace Go.Proofs.YtaafedpjifaghaaDoor
open Go.RowKit

/-- What the library's variables hold. -/
structure Vars (w : World) : Prop where
  tab : Lib.TabIs Tryd.prog w "internal/strconv.uint64pow10" .u64 Lib.pow10Tab
  maxl : ∃ m, w.var? Tryd.prog "internal/bytealg.MaxLen" = some #[.int .i64 m]
  syn : ∃ tp p, w.var? Tryd.prog "strconv.ErrSyntax" = some #[.iface tp p]
  rng : ∃ tp p, w.var? Tryd.prog "strconv.ErrRange" = some #[.iface tp p]
theorem var_below {w w' : World} {n : String} {cs : Array Value} (h : w.var? Tryd.prog n = some cs) (hb : Below w.heap.size w w') : w'.var? Tryd.prog n = some cs := by
  unfold World.var? at *
  cases hg : Tryd.prog.globalNamed n with
  | none => rw [hg] at h; cases h
  | some g =>
    rw [hg] at h
    simp only [Option.bind_some] at h ⊢
    cases ho : w.heap[g]? with
    | none => rw [ho] at h; cases h
    | some o =>
      rw [hb.block g (blk_lt ho), ho]
      rw [ho] at h
      exact h
theorem Vars.below {w w' : World} (h : Vars w) (hb : Below w.heap.size w w') : Vars w' :=
  ⟨var_below h.tab hb, h.maxl.imp fun _ h => var_below h hb, h.syn.imp fun _ h => h.imp fun _ h => var_below h hb, h.rng.imp fun _ h => h.imp fun _ h => var_below h hb⟩
theorem Vars.st {w w' : World} {L : List SP} (h : Vars w) (H : St (fun _ => False) w w' L) : Vars w' := h.below (H.below (Nat.le_refl _) (fun _ h => h.elim))

theorem lib_itoa {n : Int} (h0 : -9223372036854775808 ≤ n) (h1 : n ≤ 9223372036854775807) {w : World} (hv : Vars w) :
    Calls Tryd.prog 47 #[.int .i64 n] w fun e w' => e = .returned (.string ⟨(Lib.itoa n).toArray⟩) ∧ Below w.heap.size w w' :=
  (sh_strconv_Itoa n h0 h1 w hv.tab).mono fun _ _ ⟨he, _, _, hw⟩ => ⟨he, hw ▸ Lib.below_grow _ _ (Nat.le_refl _) _ _⟩
theorem lib_atoi {l : List UInt8} (hl : l.length ≤ 281474976710656) {w : World} (hv : Vars w) :
    Calls Tryd.prog 39 #[.string ⟨l.toArray⟩] w fun e w' => ∃ x, e = .returned (.tuple #[.int .i64 (atoiM l), x]) ∧ Below w.heap.size w w' := by
  have hs : (⟨l.toArray⟩ : ByteArray).size ≤ 281474976710656 := by simpa [ByteArray.size] using hl
  have hd : (⟨l.toArray⟩ : ByteArray).data.toList = l := rfl
  cases h : Lib.atoiAll l with
  | ok v =>
    have e : atoiM l = v := by unfold atoiM; rw [h]
    rw [e]
    refine (sh_strconv_Atoi_ok ⟨l.toArray⟩ (by omega) v h w).mono fun _ _ ⟨he, hw⟩ => ⟨_, he, ?_⟩
    rcases hw with rfl | ⟨t, rfl⟩
    · exact Below.refl _ _
    · exact Lib.bytesWorld_below _ _ _
  | range =>
    have e : atoiM l = Lib.atoiSat l := by unfold atoiM; rw [h]
    rw [e]
    obtain ⟨tp, p, hs2⟩ := hv.rng
    exact (sh_strconv_Atoi_range_var ⟨l.toArray⟩ hs h tp p w hs2).mono fun _ _ ⟨N, he, _, _, hw⟩ => ⟨_, he, hw⟩
  | _ =>
    have e : atoiM l = 0 := by unfold atoiM; rw [h]
    rw [e]
    obtain ⟨tp, p, hs2⟩ := hv.syn
    exact (sh_strconv_Atoi_syntax_var ⟨l.toArray⟩ hs h tp p w hs2).mono fun _ _ ⟨N, he, _, _, hw⟩ => ⟨_, he, hw⟩

theorem split_len (l : List UInt8) : (Lib.split l [32]).length = Lib.countB ⟨l.toArray⟩ ⟨#[32]⟩ + 1 := by
  have h := Lib.splitB_data ⟨#[32]⟩ 0 (Lib.countB ⟨l.toArray⟩ ⟨#[32]⟩) ⟨l.toArray⟩
  have h2 := Lib.splitB_all ⟨#[32]⟩ (by decide) 0 _ ⟨l.toArray⟩ rfl
  have h3 := congrArg List.length h
  rw [List.length_map, h2] at h3
  rw [h3]
  rfl
theorem split_texts (l : List UInt8) : (Lib.splitB ⟨#[32]⟩ 0 (Lib.countB ⟨l.toArray⟩ ⟨#[32]⟩) ⟨l.toArray⟩).map Value.string = texts (Lib.split l [32]) := by
  have h := Lib.splitB_data ⟨#[32]⟩ 0 (Lib.countB ⟨l.toArray⟩ ⟨#[32]⟩) ⟨l.toArray⟩
  have e : Lib.split l [32] = Lib.splitK [32] 0 (Lib.countB ⟨l.toArray⟩ ⟨#[32]⟩) l := rfl
  rw [e]
  unfold texts
  rw [show Lib.splitK [32] 0 (Lib.countB ⟨l.toArray⟩ ⟨#[32]⟩) l = _ from h.symm, List.map_map]
  refine List.map_congr_left fun x _ => ?_
  simp [textV]
theorem lib_split {l : List UInt8} (hl : l.length < 4294967281) {w : World} (hv : Vars w) :
    Calls Tryd.prog 35 #[.string ⟨l.toArray⟩, .string ⟨#[32]⟩] w fun e w' => ∃ g, e = .returned (.slice (some ⟨g, 0, none⟩) (Lib.split l [32]).length (Lib.split l [32]).length) ∧
      St (fun _ => False) w w' [Row 9 1 (.slice (some ⟨g, 0, none⟩) (Lib.split l [32]).length (Lib.split l [32]).length) (Lib.split l [32]).length (texts (Lib.split l [32]))] := by
  obtain ⟨m, hm⟩ := hv.maxl
  have hs : (⟨l.toArray⟩ : ByteArray).size < 4294967281 := by simpa [ByteArray.size] using hl
  refine (sh_strings_Split ⟨l.toArray⟩ ⟨#[32]⟩ m w hs ((World.var?_cell (by kernel_rfl) hm 0).trans rfl) (by decide)).mono ?_
  rintro e w' ⟨rfl, rfl⟩
  rw [split_len]
  refine ⟨_, rfl, ?_⟩
  have H := (St.nil (fun _ => False) w).allocAt rfl ((Lib.splitB ⟨#[32]⟩ 0 (Lib.countB ⟨l.toArray⟩ ⟨#[32]⟩) ⟨l.toArray⟩).map Value.string).toArray 9
  rw [split_texts] at H ⊢
  have hlen : (texts (Lib.split l [32])).length = Lib.countB ⟨l.toArray⟩ ⟨#[32]⟩ + 1 := by rw [← split_len]; simp [texts]
  have := St.blkRow (n := Lib.countB ⟨l.toArray⟩ ⟨#[32]⟩ + 1) (size := 1) H (by simp [hlen]) (by
    have := Lib.countB_le ⟨#[32]⟩ (by decide) _ ⟨l.toArray⟩ (Nat.le_refl _)
    unfold maxLen
    omega)
  simpa using this

end Go.Proofs.YtaafedpjifaghaaDoor

/- The walks of the rogue's texts: words, part, hex, unhex. No condition but that bytes can be read. -/
set_option linter.unusedVariables false
set_option linter.unusedSimpArgs false
namespace Go.Proofs.YtaafedpjifaghaaDoor
open Go.RowKit

def wordCells : List Value := wordsM.flatMap fun x => [textV x.1, textV x.2]
def wordV (x : List UInt8 × List UInt8) : Value := .agg #[textV x.1, textV x.2]
set_option maxRecDepth 100000 in
theorem rogue_words (w : World) : Calls Tryd.prog 37 #[] w fun e w' => e = .returned (.slice (some ⟨w.heap.size, 0, none⟩) 8 8) ∧ w' = w.alloc (.cells wordCells.toArray 77) := by
  go_enter Tryd.func37, Tryd.ntmps37
  go_upto_region 1 with (fail)
  refine wp_region_lit ?_
  refine Great.wpList_runTo rfl _ rfl (wordV (wordsM.getD 0 ([], []))) w (by kernel_rfl) ?_
  refine Great.wpList_runTo rfl _ rfl (wordV (wordsM.getD 1 ([], []))) w (by kernel_rfl) ?_
  refine Great.wpList_runTo rfl _ rfl (wordV (wordsM.getD 2 ([], []))) w (by kernel_rfl) ?_
  refine Great.wpList_runTo rfl _ rfl (wordV (wordsM.getD 3 ([], []))) w (by kernel_rfl) ?_
  refine Great.wpList_runTo rfl _ rfl (wordV (wordsM.getD 4 ([], []))) w (by kernel_rfl) ?_
  refine Great.wpList_runTo rfl _ rfl (wordV (wordsM.getD 5 ([], []))) w (by kernel_rfl) ?_
  refine Great.wpList_runTo rfl _ rfl (wordV (wordsM.getD 6 ([], []))) w (by kernel_rfl) ?_
  refine Great.wpList_runTo rfl _ rfl (wordV (wordsM.getD 7 ([], []))) w (by kernel_rfl) ?_
  refine Great.wpList_runTo rfl _ rfl (.slice (some ⟨w.heap.size, 0, none⟩) 8 8) (w.alloc (.cells wordCells.toArray 77)) (by kernel_rfl) ?_
  refine Great.wpList_runTo rfl _ rfl (.slice (some ⟨w.heap.size, 0, none⟩) 8 8) (w.alloc (.cells wordCells.toArray 77)) (by kernel_rfl) ?_
  go_wp2
  go_ret
  exact ⟨rfl, rfl⟩
def partAt (c : UInt8) : Nat := if c = 97 then 1 else if c = 116 then 2 else 3
theorem rogue_part (b : Nat) (c : UInt8) (w : World) : Calls Tryd.prog 40 #[.pointer (some ⟨b, 0, none⟩), .int .i32 (c.toNat : Nat)] w fun e w' => e = .returned (.pointer (some ⟨b, partAt c, none⟩)) ∧ w' = w := by
  by_cases h1 : c = 97
  · subst h1
    go_enter Tryd.func40, Tryd.ntmps40
    go_wp2
    go_ret
    exact ⟨rfl, rfl⟩
  · by_cases h2 : c = 116
    · subst h2
      go_enter Tryd.func40, Tryd.ntmps40
      go_wp2
      go_ret
      exact ⟨rfl, rfl⟩
    · have e : partAt c = 3 := by unfold partAt; rw [if_neg h1, if_neg h2]
      have z1 : ((c.toNat : Int) == 97) = false := by
        simp only [beq_eq_false_iff_ne, ne_eq]
        intro h
        exact h1 (UInt8.toNat.inj (by have : (97 : UInt8).toNat = 97 := rfl; omega))
      have z2 : ((c.toNat : Int) == 116) = false := by
        simp only [beq_eq_false_iff_ne, ne_eq]
        intro h
        exact h2 (UInt8.toNat.inj (by have : (116 : UInt8).toNat = 116 := rfl; omega))
      rw [e]
      clear h1 h2 e
      go_enter Tryd.func40, Tryd.ntmps40
      go_wp2
      go_ret
      exact ⟨rfl, rfl⟩

end Go.Proofs.YtaafedpjifaghaaDoor

/- The walk of the rogue's hex. Condition: the bytes can be read, and are not more than a block's. -/
set_option linter.unusedVariables false
set_option linter.unusedSimpArgs false
namespace Go.Proofs.YtaafedpjifaghaaDoor
open Go.RowKit

theorem hexOf_snoc (l : List UInt8) (c : UInt8) : hexOf (l ++ [c]) = hexOf l ++ [digit16 (c.toNat / 16), digit16 (c.toNat % 16)] := by simp [hexOf]
theorem hexOf_len (l : List UInt8) : (hexOf l).length = 2 * l.length := by
  induction l with
  | nil => rfl
  | cons c l ih => rw [show hexOf (c :: l) = [digit16 (c.toNat / 16), digit16 (c.toNat % 16)] ++ hexOf l from rfl, List.length_append, ih]; simp; omega
theorem and_fifteen (c : UInt8) : bits BinOp.and IntKind.u8 (c.toNat : Int) 15 = ((c.toNat % 16 : Nat) : Int) := by
  have key : ∀ r : Fin 256, bits BinOp.and IntKind.u8 ((r.val : Nat) : Int) 15 = ((r.val % 16 : Nat) : Int) := by decide +kernel
  exact key ⟨c.toNat, c.toNat_lt⟩
def digitsB : ByteArray := ⟨#[48, 49, 50, 51, 52, 53, 54, 55, 56, 57, 97, 98, 99, 100, 101, 102]⟩
theorem digit_at (n : Nat) (h : n < digitsB.size) : digitsB[n] = digit16 n := by
  revert h
  have key : ∀ n : Fin 16, digitsB[n.val]'(by have : digitsB.size = 16 := rfl; omega) = digit16 n.val := by decide +kernel
  intro h
  exact key ⟨n, by have : digitsB.size = 16 := rfl; omega⟩
theorem came_digit {P : Program} {I : World → Prop} {a : Act} {o : Oper} {w : World} {y : Operand} {t : TypeId} {k : IntKind} {n : Int} (m : Nat) (ho : o.op = .index t (.const (.string digitsB)) y) (hy : a.eval y = .int k n) (hn : n = m) (hm : m < 16) (hu : P.underlying t = some .string) (h : I w) :
    CameTo P I (.int .u8 ((digit16 m).toNat : Nat)) ((execOp a.eval o).run P w) := by
  subst hn
  have e1 : (m : Int) < 16 := by omega
  have hs : digitsB.size = 16 := rfl
  have hd := digit_at m (by omega)
  unfold execOp
  simp only [ho]
  rw [show a.eval (.const (.string digitsB)) = .string digitsB from rfl, hy]
  have hr : (Instr.index t (.string digitsB) (.int k (m : Int))).run P w = .ok (.int .u8 ((digit16 m).toNat : Nat)) w := by
    rw [run_index_string w t digitsB k m hu, dif_pos ⟨by omega, by rw [hs]; exact e1⟩]
    simp only [Int.toNat_natCast, hd]
  rw [Sem.run_bind, hr]
  exact ⟨rfl, h⟩
/-- Bytes of the call's own, as a text. -/
theorem conv_row {S : Nat → Prop} {w0 w : World} {L : List SP} {v : Value} {n : Nat} {l : List UInt8} (H : St S w0 w (Row 5 1 v n (bvs l) :: L)) : (convert 38 9 v).run Tryd.prog w = .ok (.string ⟨l.toArray⟩) w :=
  conv_ro' (own_ro (H.row 0 rfl)).1 (fun _ _ _ => rfl)
set_option maxHeartbeats 2000000 in
set_option maxRecDepth 100000 in
theorem rogue_hex {v : Value} {bs : List UInt8} {w : World} (hv : BytesRO (fun _ => False) w v bs) (hl : bs.length ≤ 128) :
    Calls Tryd.prog 48 #[v] w fun e w' => e = .returned (.string ⟨(hexM bs).toArray⟩) ∧ Below w.heap.size w w' := by
  obtain ⟨ad, cap, rfl, hcap, hcell⟩ := id hv
  by_cases h0 : bs = []
  · subst h0
    have e : hexM [] = [45] := rfl
    rw [e]
    go_enter Tryd.func48, Tryd.ntmps48
    go_wp2
    go_ret
    exact ⟨rfl, Below.refl _ _⟩
  · have e : hexM bs = hexOf bs := by unfold hexM; rw [if_neg h0]
    rw [e]
    have hp : 0 < bs.length := List.length_pos_iff.2 h0
    have z0 : ((bs.length : Int) == 0) = false := by simp; omega
    obtain ⟨b, o, rfl, hb, _, hc⟩ := hcell h0
    have H0 : St (fun _ => False) w w [Row 5 1 (.slice none 0 0) 0 (bvs (hexOf []))] := (St.nil _ w).row_nil _ _
    clear e h0
    go_enter Tryd.func48, Tryd.ntmps48
    go_upto_block 1 with (fail)
    go_loopw [3, 5, 11] (fun x _ j wr => ∃ i : Nat, i ≤ bs.length ∧ j = .int .i64 i ∧ St (fun _ => False) w wr [Row 5 1 x (2 * i) (bvs (hexOf (bs.take i)))]) (fun _ _ j _ => bs.length - (intOf j).toNat)
    case atStart => exact ⟨0, by omega, rfl, H0⟩
    case round =>
      clear H0
      obtain ⟨i, hi, rfl, HL⟩ := hrel
      by_cases hlt : i < bs.length
      · obtain ⟨c, hcx⟩ : ∃ c, bs[i]? = some c := ⟨_, List.getElem?_eq_getElem hlt⟩
        have c0 : wr.cell? ⟨b, o + i, none⟩ = some (.int .u8 (c.toNat : Nat)) := by
          rw [World.cell?_of_block (w := w) (HL.kept.block b hb id), hc i hlt, (List.getElem?_eq_some_iff.1 hcx).2]
          rfl
        have hst := Lib.hid (show hexOf (bs.take (i + 1)) = hexOf (bs.take i) ++ [digit16 (c.toNat / 16), digit16 (c.toNat % 16)] by rw [take_snoc' hcx, hexOf_snoc])
        clear hcx
        go_upto_region 7 with (fail)
        refine wp_script [(0, false), (1, false), (2, false), (3, false), (4, false), (5, false), (6, false), (7, true), (8, true), (9, false)] (Fam fun _ => True) (fun w' => St (fun _ => False) w w' [Row 5 1 u3 (2 * i) (bvs (hexOf (bs.take i)))]) (by kernel_rfl) (by rfl) (by kernel_rfl) (by kernel_rfl) HL.drew ⟨fun _ _ H hb => H.past hb, fun _ _ => trivial⟩ ?_
        have hand := and_fifteen c
        have hc16 : c.toNat / 16 < 16 := by have := c.toNat_lt; omega
        have hm16 : c.toNat % 16 < 16 := Nat.mod_lt _ (by omega)
        iterate 7 first
          | (apply script_pass
             · rfl
             · rfl
             intro K hK
             go_simp
             refine hK _ ?_
             clear hK K)
          | (apply script_step
             · rfl
             · rfl
             · intro I hI w1 h1'
               have h1 := hI.2 _ h1'
               first
                 | (refine came_digit (c.toNat / 16) rfl rfl (by omega) hc16 Tryd.underlying9 h1')
                 | (refine came_digit (c.toNat % 16) rfl rfl rfl hm16 Tryd.underlying9 h1')
                 | (go_simp
                    first
                      | rfl
                      | exact ⟨rfl, h1'⟩
                   )
             intro K hK
             go_simp
             refine hK _ ?_
             clear hK K)
        clear hand hc16 hm16
        refine script_alone rfl rfl ?_
        intro V hV w1 h1
        go_simp
        obtain ⟨gn, hgn⟩ : ∃ g, w1.heap.size = g := ⟨_, rfl⟩
        have H3 : St (fun _ => False) w _ [Blk gn #[.int .u8 ((digit16 (c.toNat / 16)).toNat : Nat), .int .u8 ((digit16 (c.toNat % 16)).toNat : Nat)] 5, _] := h1.allocAt hgn _ 5
        simp only [hgn]
        refine ⟨fun w' => St (fun _ => False) w w' [Blk gn #[.int .u8 ((digit16 (c.toNat / 16)).toNat : Nat), .int .u8 ((digit16 (c.toNat % 16)).toNat : Nat)] 5, Row 5 1 u3 (2 * i) (bvs (hexOf (bs.take i)))], hV _ _ _ (fun _ h => h) (⟨fun _ _ H hb => H.past hb, fun _ _ => trivial⟩) ?_, H3⟩
        intro K hK
        go_simp
        refine hK _ ?_
        clear hK K hV V
        clear H3 h1 hgn w1
        refine script_alone rfl rfl ?_
        intro V hV w1 h1
        have hnw := World.news_of_block (h1.blk 0 rfl)
        refine St.came_row (h1.pick [1, 0]) (.tmp 15) (.tmp 22) 38 rfl Tryd.underlying38 Tryd.info5 (by decide) rfl (bvs [digit16 (c.toNat / 16), digit16 (c.toNat % 16)]) rfl rfl (fun h => by cases h) (fun ad had => by cases had; exact hnw) one_bvs (by omega) ?_
        intro v2 w2 H4
        refine ⟨fun w' => St (fun _ => False) w w' [Row 5 1 v2 (2 * i + 2) (bvs (hexOf (bs.take i)) ++ bvs [digit16 (c.toNat / 16), digit16 (c.toNat % 16)])], hV _ _ _ (fun _ h => h) (⟨fun _ _ H hb => H.past hb, fun _ _ => trivial⟩) ?_, H4.take (l1 := [_])⟩
        intro K hK
        go_simp
        refine hK _ ?_
        clear hK K hV V
        clear H4 hnw h1 w1 w2
        iterate 1 first
          | (apply script_pass
             · rfl
             · rfl
             intro K hK
             go_simp
             refine hK _ ?_
             clear hK K)
          | (apply script_step
             · rfl
             · rfl
             · intro I hI w1 h1'
               have h1 := hI.2 _ h1'
               first
                 | (go_simp
                    first
                      | rfl
                      | exact ⟨rfl, h1'⟩
                   )
             intro K hK
             go_simp
             refine hK _ ?_
             clear hK K)
        refine script_nil ?_
        intro w9 H9
        go_wp2
        go_roundw
        case rel => exact ⟨i + 1, by omega, by go_num, by rw [hst.out, bvs_append]; exact H9⟩
        case measure => simp [intOf]; omega
      · obtain rfl : i = bs.length := by omega
        rw [List.take_length] at HL
        have hcv := conv_row HL
        go_wp2
        go_ret
        exact ⟨rfl, HL.below (Nat.le_refl _) (fun _ h => h.elim)⟩

end Go.Proofs.YtaafedpjifaghaaDoor

/- The walk of the rogue's Text. Conditions: the move's numbers are ints; its bytes can be read; the library's variables hold what its text lays. -/
set_option linter.unusedVariables false
set_option linter.unusedSimpArgs false
namespace Go.Proofs.YtaafedpjifaghaaDoor
open Go.RowKit

theorem word_at (k : Nat) (h : k < 8) : wordCells.toArray[k * 2]? = some (textV (wordsM.getD k ([], [])).1) ∧ wordCells.toArray[k * 2 + 1]? = some (textV (wordsM.getD k ([], [])).2) := by
  have key : ∀ k : Fin 8, wordCells.toArray[k.val * 2]? = some (textV (wordsM.getD k.val ([], [])).1) ∧ wordCells.toArray[k.val * 2 + 1]? = some (textV (wordsM.getD k.val ([], [])).2) := by
    intro k
    match k with
    | 0 => exact ⟨rfl, rfl⟩
    | 1 => exact ⟨rfl, rfl⟩
    | 2 => exact ⟨rfl, rfl⟩
    | 3 => exact ⟨rfl, rfl⟩
    | 4 => exact ⟨rfl, rfl⟩
    | 5 => exact ⟨rfl, rfl⟩
    | 6 => exact ⟨rfl, rfl⟩
    | 7 => exact ⟨rfl, rfl⟩
  exact key ⟨k, h⟩
theorem word_parts (k : Nat) (h : k < 8) : (∀ c ∈ (wordsM.getD k ([], [])).2, c.toNat < 128) ∧ (wordsM.getD k ([], [])).2.length ≤ 3 ∧ (wordsM.getD k ([], [])).1.length ≤ 5 := by
  have key : ∀ k : Fin 8, (∀ c ∈ (wordsM.getD k.val ([], [])).2, c.toNat < 128) ∧ (wordsM.getD k.val ([], [])).2.length ≤ 3 ∧ (wordsM.getD k.val ([], [])).1.length ≤ 5 := by decide +kernel
  exact key ⟨k, h⟩
/-- An iterator goes on. -/
theorem St.iterNext {S : Nat → Prop} {w0 w : World} {L : List SP} {k : Nat} {s : ByteArray} {p : Nat} (H : St S w0 w (ObjAt k (.stringIter s p) :: L)) (p' : Nat) : St S w0 (w.iterAt k s p') (ObjAt k (.stringIter s p') :: L) := by
  obtain ⟨S1, h1, h2⟩ := H.turn 0 rfl
  have hb : ∀ j, j ≠ k → (w.iterAt k s p').heap[j]? = w.heap[j]? := fun j hj => Lib.iterAt_other w k j s p' hj
  refine h2 (S1' := S1) ⟨rfl, rfl, rfl, by simp [World.iterAt], fun j _ hn => hb j (fun e => hn ((h1.2 j).2 e))⟩ ⟨Lib.iterAt_heap w k s p p' h1.1, h1.2⟩ (fun _ a => .inl a)

theorem mv_part (v : Mv) (x : Value) (c : UInt8) : (mvCells v x)[partAt c]? = some (.int .i64 (v.part c)) := by
  unfold partAt Mv.part mvCells
  split
  · rfl
  · split <;> rfl
theorem txt_cat (a b : List UInt8) : (⟨a.toArray⟩ : ByteArray) ++ ⟨b.toArray⟩ = ⟨(a ++ b).toArray⟩ := ByteArray.mk_append_mk ..
theorem txt_space (b : List UInt8) : (⟨#[32]⟩ : ByteArray) ++ ⟨b.toArray⟩ = ⟨(32 :: b).toArray⟩ := txt_cat [32] b
theorem txt_byte {l : List UInt8} {j : Nat} {c : UInt8} (h : l[j]? = some c) (hs : j < (⟨l.toArray⟩ : ByteArray).size) : (⟨l.toArray⟩ : ByteArray)[j]'hs = c := (List.getElem?_eq_some_iff.1 h).2
set_option maxHeartbeats 4000000 in
set_option maxRecDepth 100000 in
theorem rogue_text (v : Mv) {x : Value} {w : World} (hV : Vars w) (hv : BytesRO (fun _ => False) w x v.b) (hbl : v.b.length ≤ 9223372036854775807)
    (hr : (-9223372036854775808 ≤ v.at' ∧ v.at' ≤ 9223372036854775807) ∧ (-9223372036854775808 ≤ v.to ∧ v.to ≤ 9223372036854775807) ∧ (-9223372036854775808 ≤ v.n ∧ v.n ≤ 9223372036854775807)) :
    Calls Tryd.prog 20 #[.agg (mvCells v x)] w fun e w' => e = .returned (.string ⟨(textM v).toArray⟩) ∧ Below w.heap.size w w' := by
  obtain ⟨kind, at', tt, n, bb⟩ := v
  obtain ⟨ad, cap, e, _⟩ := id hv
  simp only at e hbl hr hv
  subst e
  obtain ⟨mb, hmb⟩ : ∃ g, w.heap.size = g := ⟨_, rfl⟩
  have HA : St (fun _ => False) w (w.alloc (.cells (mvCells ⟨kind, at', tt, n, bb⟩ (.slice ad bb.length cap)) 40)) [Blk mb (mvCells ⟨kind, at', tt, n, bb⟩ (.slice ad bb.length cap)) 40] := (St.nil _ w).allocAt hmb (mvCells ⟨kind, at', tt, n, bb⟩ (.slice ad bb.length cap)) 40
  have d0 : (w.alloc (.cells (mvCells ⟨kind, at', tt, n, bb⟩ (.slice ad bb.length cap)) 40)).cell? ⟨mb, 0, none⟩ = some (.int .i64 kind) := HA.cell 0 0 rfl rfl
  have d4 : (w.alloc (.cells (mvCells ⟨kind, at', tt, n, bb⟩ (.slice ad bb.length cap)) 40)).cell? ⟨mb, 4, none⟩ = some (.slice ad bb.length cap) := HA.cell 0 4 rfl rfl
  have hvh := Lib.hid hv
  clear hv
  by_cases hbad : kind < 0 ∨ 7 < kind ∨ 128 < bb.length
  · have hfin := Lib.hid (show textM ⟨kind, at', tt, n, bb⟩ = [] by unfold textM; rw [if_pos hbad])
    by_cases h1 : kind < 0
    · have z1 : decide (kind < 0) = true := by simpa using h1
      clear hbad
      go_enter Tryd.func20, Tryd.ntmps20
      go_wp2
      go_ret
      rw [hfin.out]
      exact ⟨rfl, HA.below (by omega) (fun _ h => h.elim)⟩
    · have z1 : decide (kind < 0) = false := by simpa using h1
      by_cases h2 : 7 < kind
      · have z2 : decide (7 < kind) = true := by simpa using h2
        clear hbad
        go_enter Tryd.func20, Tryd.ntmps20
        go_wp2
        go_ret
        rw [hfin.out]
        exact ⟨rfl, HA.below (by omega) (fun _ h => h.elim)⟩
      · have z2 : decide (7 < kind) = false := by simpa using h2
        have h3 : 128 < bb.length := by omega
        have z3 : decide ((128 : Int) < (bb.length : Int)) = true := by simp; omega
        clear hbad
        go_enter Tryd.func20, Tryd.ntmps20
        go_wp2
        go_ret
        rw [hfin.out]
        exact ⟨rfl, HA.below (by omega) (fun _ h => h.elim)⟩
  · obtain ⟨k, rfl⟩ := Int.eq_ofNat_of_zero_le (show 0 ≤ kind by omega)
    have hk8 : k < 8 := by omega
    have z1 : decide ((k : Int) < 0) = false := by simp
    have z2 : decide ((7 : Int) < (k : Int)) = false := by simp; omega
    have z3 : decide ((128 : Int) < (bb.length : Int)) = false := by simp; omega
    have hki : (k : Int) < 8 := by omega
    have hbb : bb.length ≤ 128 := by omega
    obtain ⟨hw0, hw1⟩ := word_at k hk8
    obtain ⟨hpa, hpl, hnl⟩ := word_parts k hk8
    have hT : textM ⟨k, at', tt, n, bb⟩ = match numsM ⟨k, at', tt, n, bb⟩ (wordsM.getD k ([], [])).2 (wordsM.getD k ([], [])).1 with
      | none => []
      | some s => if (k : Int) = 0 then s ++ 32 :: hexM bb else s := by
      unfold textM
      rw [if_neg hbad]
      rfl
    obtain ⟨nm, hnm⟩ : ∃ x, (wordsM.getD k ([], [])).1 = x := ⟨_, rfl⟩
    obtain ⟨pt, hpt⟩ : ∃ x, (wordsM.getD k ([], [])).2 = x := ⟨_, rfl⟩
    rw [hnm] at hw0 hnl hT
    rw [hpt] at hw1 hpa hpl hT
    unfold textV at hw0 hw1
    have hTh := Lib.hid hT
    clear hbad hT hnm hpt
    go_enter Tryd.func20, Tryd.ntmps20
    go_upto_region 3 with (fail)
    clear d0 d4
    go_cut [3] from 22 to 26 (fun p wx => ∃ gb, p = .pointer (some ⟨gb, 0, none⟩) ∧ St (fun _ => False) w wx [Blk gb #[.string ⟨nm.toArray⟩, .string ⟨pt.toArray⟩] 77, Blk mb (mvCells ⟨k, at', tt, n, bb⟩ (.slice ad bb.length cap)) 40])
    case first =>
      refine wp_plan (.small 1 (.small 2 (.fork 0 5 (.small 3 (.small 4 (.alone 5 (.alone 6 .nil)))) (.alone 0 (.small 3 (.small 4 (.alone 6 .nil))))))) (Fam fun w' => St (fun _ => False) w w' [Blk mb (mvCells ⟨k, at', tt, n, bb⟩ (.slice ad bb.length cap)) 40]) (fun w' => St (fun _ => False) w w' [Blk mb (mvCells ⟨k, at', tt, n, bb⟩ (.slice ad bb.length cap)) 40]) (by kernel_rfl) (by rfl) (by kernel_rfl) (by kernel_rfl) HA.drew (Fam.st (fun _ h => h)) ?_
      iterate 2 first
        | (apply plan_pass
           · rfl
           · rfl
           intro K hK
           go_simp
           refine hK _ ?_
           clear hK K)
        | (apply plan_step
           · rfl
           · rfl
           · intro I hI w1 h1'
             have h1 := hI.2 _ h1'
             have e0 : w1.cell? ⟨mb, 0, none⟩ = some (.int .i64 k) := h1.cell 0 0 rfl rfl
             first
               | (go_simp
                  first
                    | rfl
                    | exact ⟨rfl, h1'⟩
                 )
           intro K hK
           go_simp
           refine hK _ ?_
           clear hK K)
      refine plan_two rfl rfl rfl rfl ?_ ?_
      · skip
        intro V hV w1 h1
        go_simp
        obtain ⟨gw, hgw⟩ : ∃ g, w1.heap.size = g := ⟨_, rfl⟩
        refine (rogue_words w1).mono ?_
        rintro e w2 ⟨rfl, rfl⟩
        have H2 : St (fun _ => False) w (w1.alloc (.cells wordCells.toArray 77)) [Blk gw wordCells.toArray 77, Blk mb (mvCells ⟨k, at', tt, n, bb⟩ (.slice ad bb.length cap)) 40] := h1.allocAt hgw _ _
        rw [hgw]
        refine ⟨_, rfl, fun w' => St (fun _ => False) w w' [Blk gw wordCells.toArray 77, Blk mb (mvCells ⟨k, at', tt, n, bb⟩ (.slice ad bb.length cap)) 40], hV _ _ _ (fun I hI => Fam.mono (fun w' h => St.pick (l := [Blk gw wordCells.toArray 77, Blk mb (mvCells ⟨k, at', tt, n, bb⟩ (.slice ad bb.length cap)) 40]) h [1]) I hI) (Fam.st (B := fun w' => St (fun _ => False) w w' [Blk gw wordCells.toArray 77, Blk mb (mvCells ⟨k, at', tt, n, bb⟩ (.slice ad bb.length cap)) 40]) (fun _ h => h)) ?_, H2⟩
        intro K hK
        go_simp
        refine hK _ ?_
        clear hK K hV V
        clear H2 h1 hgw w1
        iterate 2 first
          | (apply plan_pass
             · rfl
             · rfl
             intro K hK
             go_simp
             refine hK _ ?_
             clear hK K)
          | (apply plan_step
             · rfl
             · rfl
             · intro I hI w1 h1'
               have h1 := hI.2 _ h1'
               have r0 : w1.cell? ⟨gw, k * 2, none⟩ = some (.string ⟨nm.toArray⟩) := cell_blk' (h1.blk 0 rfl) hw0
               have r1 : w1.cell? ⟨gw, k * 2 + 1, none⟩ = some (.string ⟨pt.toArray⟩) := cell_blk' (h1.blk 0 rfl) hw1
               first
                 | (go_simp
                    first
                      | rfl
                      | exact ⟨rfl, h1'⟩
                   )
             intro K hK
             go_simp
             refine hK _ ?_
             clear hK K)
        refine plan_one rfl rfl ?_
        intro V hV w1 h1
        go_simp
        obtain ⟨gb, hgb⟩ : ∃ g, w1.heap.size = g := ⟨_, rfl⟩
        have H3 : St (fun _ => False) w _ [Blk gb #[.string ⟨#[]⟩, .string ⟨#[]⟩] 77, Blk gw wordCells.toArray 77, Blk mb (mvCells ⟨k, at', tt, n, bb⟩ (.slice ad bb.length cap)) 40] := h1.allocAt hgb #[.string ⟨#[]⟩, .string ⟨#[]⟩] 77
        simp only [hgb]
        refine ⟨fun w' => St (fun _ => False) w w' [Blk gb #[.string ⟨#[]⟩, .string ⟨#[]⟩] 77, Blk gw wordCells.toArray 77, Blk mb (mvCells ⟨k, at', tt, n, bb⟩ (.slice ad bb.length cap)) 40], hV _ _ _ (fun I hI => Fam.mono (fun w' h => h) I hI) (Fam.st (fun _ h => h.pick [1, 2])) ?_, H3⟩
        intro K hK
        go_simp
        refine hK _ ?_
        clear hK K hV V
        clear H3 h1 hgb w1
        refine plan_one rfl rfl ?_
        intro V hV w1 h1
        have c0 := h1.cell 0 0 rfl rfl
        have c1 := h1.cell 0 1 rfl rfl
        have f0 := h1.free 0 0 rfl
        have f1 := h1.free 0 1 rfl
        have H3 : St (fun _ => False) w _ [_, Blk gw wordCells.toArray 77, Blk mb (mvCells ⟨k, at', tt, n, bb⟩ (.slice ad bb.length cap)) 40] := h1.set 0 rfl 0 (.string ⟨nm.toArray⟩)
        have H4 : St (fun _ => False) w _ [Blk gb #[.string ⟨nm.toArray⟩, .string ⟨pt.toArray⟩] 77, Blk gw wordCells.toArray 77, Blk mb (mvCells ⟨k, at', tt, n, bb⟩ (.slice ad bb.length cap)) 40] := H3.set 0 rfl 1 (.string ⟨pt.toArray⟩)
        go_simp
        refine ⟨fun w' => St (fun _ => False) w w' [Blk gb #[.string ⟨nm.toArray⟩, .string ⟨pt.toArray⟩] 77, Blk gw wordCells.toArray 77, Blk mb (mvCells ⟨k, at', tt, n, bb⟩ (.slice ad bb.length cap)) 40], hV _ _ _ (fun I hI => Fam.mono (fun w' h => h) I hI) (Fam.st (fun _ h => h.pick [1, 2])) ?_, H4⟩
        intro K hK
        go_simp
        refine hK _ ?_
        clear hK K hV V
        clear H4 H3 c0 c1 f0 f1 h1 w1

        refine plan_nil ?_
        intro w7 H7
        go_wp2
        go_meet
        exact ⟨gb, rfl, H7.pick [0, 2]⟩
      · skip
        intro V hV w1 h1
        go_simp
        obtain ⟨gb, hgb⟩ : ∃ g, w1.heap.size = g := ⟨_, rfl⟩
        have H3 : St (fun _ => False) w _ [Blk gb #[.string ⟨#[]⟩, .string ⟨#[]⟩] 77, Blk mb (mvCells ⟨k, at', tt, n, bb⟩ (.slice ad bb.length cap)) 40] := h1.allocAt hgb #[.string ⟨#[]⟩, .string ⟨#[]⟩] 77
        simp only [hgb]
        refine ⟨fun w' => St (fun _ => False) w w' [Blk gb #[.string ⟨#[]⟩, .string ⟨#[]⟩] 77, Blk mb (mvCells ⟨k, at', tt, n, bb⟩ (.slice ad bb.length cap)) 40], hV _ _ _ (fun I hI => Fam.mono (fun w' h => h) I hI) (Fam.st (fun _ h => h.pick [1])) ?_, H3⟩
        intro K hK
        go_simp
        refine hK _ ?_
        clear hK K hV V
        clear H3 h1 hgb w1
        refine plan_one rfl rfl ?_
        intro V hV w1 h1
        go_simp
        obtain ⟨gw, hgw⟩ : ∃ g, w1.heap.size = g := ⟨_, rfl⟩
        refine (rogue_words w1).mono ?_
        rintro e w2 ⟨rfl, rfl⟩
        have H2 : St (fun _ => False) w (w1.alloc (.cells wordCells.toArray 77)) [Blk gw wordCells.toArray 77, Blk gb #[.string ⟨#[]⟩, .string ⟨#[]⟩] 77, Blk mb (mvCells ⟨k, at', tt, n, bb⟩ (.slice ad bb.length cap)) 40] := h1.allocAt hgw _ _
        rw [hgw]
        refine ⟨_, rfl, fun w' => St (fun _ => False) w w' [Blk gw wordCells.toArray 77, Blk gb #[.string ⟨#[]⟩, .string ⟨#[]⟩] 77, Blk mb (mvCells ⟨k, at', tt, n, bb⟩ (.slice ad bb.length cap)) 40], hV _ _ _ (fun I hI => Fam.mono (fun w' h => St.pick (l := [Blk gw wordCells.toArray 77, Blk mb (mvCells ⟨k, at', tt, n, bb⟩ (.slice ad bb.length cap)) 40]) h [1]) I hI) (Fam.st (B := fun w' => St (fun _ => False) w w' [Blk gw wordCells.toArray 77, Blk mb (mvCells ⟨k, at', tt, n, bb⟩ (.slice ad bb.length cap)) 40]) (fun _ h => h.pick [0, 2])) ?_, H2⟩
        intro K hK
        go_simp
        refine hK _ ?_
        clear hK K hV V
        clear H2 h1 hgw w1
        iterate 2 first
          | (apply plan_pass
             · rfl
             · rfl
             intro K hK
             go_simp
             refine hK _ ?_
             clear hK K)
          | (apply plan_step
             · rfl
             · rfl
             · intro I hI w1 h1'
               have h1 := hI.2 _ h1'
               have r0 : w1.cell? ⟨gw, k * 2, none⟩ = some (.string ⟨nm.toArray⟩) := cell_blk' (h1.blk 0 rfl) hw0
               have r1 : w1.cell? ⟨gw, k * 2 + 1, none⟩ = some (.string ⟨pt.toArray⟩) := cell_blk' (h1.blk 0 rfl) hw1
               first
                 | (go_simp
                    first
                      | rfl
                      | exact ⟨rfl, h1'⟩
                   )
             intro K hK
             go_simp
             refine hK _ ?_
             clear hK K)
        refine plan_one rfl rfl ?_
        intro V hV w1 h1
        have hx1 := h1.pick [1, 0, 2]
        have c0 := hx1.cell 0 0 rfl rfl
        have c1 := hx1.cell 0 1 rfl rfl
        have f0 := hx1.free 0 0 rfl
        have f1 := hx1.free 0 1 rfl
        have H3 : St (fun _ => False) w _ [_, Blk gw wordCells.toArray 77, Blk mb (mvCells ⟨k, at', tt, n, bb⟩ (.slice ad bb.length cap)) 40] := hx1.set 0 rfl 0 (.string ⟨nm.toArray⟩)
        have H4 : St (fun _ => False) w _ [Blk gb #[.string ⟨nm.toArray⟩, .string ⟨pt.toArray⟩] 77, Blk gw wordCells.toArray 77, Blk mb (mvCells ⟨k, at', tt, n, bb⟩ (.slice ad bb.length cap)) 40] := H3.set 0 rfl 1 (.string ⟨pt.toArray⟩)
        go_simp
        refine ⟨fun w' => St (fun _ => False) w w' [Blk gb #[.string ⟨nm.toArray⟩, .string ⟨pt.toArray⟩] 77, Blk gw wordCells.toArray 77, Blk mb (mvCells ⟨k, at', tt, n, bb⟩ (.slice ad bb.length cap)) 40], hV _ _ _ (fun I hI => Fam.mono (fun w' h => h) I hI) (Fam.st (fun _ h => h.pick [1, 2])) ?_, H4⟩
        intro K hK
        go_simp
        refine hK _ ?_
        clear hK K hV V
        clear H4 H3 c0 c1 f0 f1 hx1 h1 w1

        refine plan_nil ?_
        intro w7 H7
        go_wp2
        go_meet
        exact ⟨gb, rfl, H7.pick [0, 2]⟩
    case rest =>
      obtain ⟨gb, rfl, HB⟩ := hcut
      have n0 : wc.cell? ⟨gb, 0, none⟩ = some (.string ⟨nm.toArray⟩) := HB.cell 0 0 rfl rfl
      have n1 : wc.cell? ⟨gb, 1, none⟩ = some (.string ⟨pt.toArray⟩) := HB.cell 0 1 rfl rfl
      obtain ⟨it, hit⟩ : ∃ g, wc.heap.size = g := ⟨_, rfl⟩
      have H1 : St (fun _ => False) w (wc.iter ⟨pt.toArray⟩ 0) [ObjAt it (.stringIter ⟨pt.toArray⟩ 0), Blk gb #[.string ⟨nm.toArray⟩, .string ⟨pt.toArray⟩] 77, Blk mb (mvCells ⟨k, at', tt, n, bb⟩ (.slice ad bb.length cap)) 40] := HB.allocObj hit _
      go_upto_block 1 with (fail)
      obtain ⟨w1, hw1⟩ : ∃ w1, wc.iter ⟨pt.toArray⟩ 0 = w1 := ⟨_, rfl⟩
      rw [hw1] at H1
      rw [hw1]
      try rw [hit]
      clear hw1 hit n0 n1 HB
      go_loopw [4, 6, 7] (fun s _ _ wr => ∃ (j : Nat) (cur : List UInt8), j ≤ pt.length ∧ s = .string ⟨cur.toArray⟩ ∧ cur.length ≤ 5 + 1001 * j ∧ Hid (numsM ⟨k, at', tt, n, bb⟩ (pt.drop j) cur = numsM ⟨k, at', tt, n, bb⟩ pt nm) ∧
        St (fun _ => False) w wr [ObjAt it (.stringIter ⟨pt.toArray⟩ j), Blk gb #[.string ⟨nm.toArray⟩, .string ⟨pt.toArray⟩] 77, Blk mb (mvCells ⟨k, at', tt, n, bb⟩ (.slice ad bb.length cap)) 40]) (fun _ _ _ wr => pt.length - wr.iterPos it)
      case atStart => exact ⟨0, nm, by omega, rfl, by omega, Lib.hid rfl, H1⟩
      case round =>
        clear H1
        obtain ⟨j, cur, hj, rfl, hcl, hnm, HL⟩ := hrel
        obtain ⟨S0, hk, hk'⟩ := HL.sep.get 0 rfl
        have hip := Lib.hid (show wr.iterPos it = j by simp [World.iterPos, hk])
        have hsz : (⟨pt.toArray⟩ : ByteArray).size = pt.length := by simp [ByteArray.size]
        by_cases hlt : j < pt.length
        · obtain ⟨c, hc⟩ : ∃ c, pt[j]? = some c := ⟨_, List.getElem?_eq_getElem hlt⟩
          have hca := hpa c (List.mem_of_getElem? hc)
          have hjs : j < (⟨pt.toArray⟩ : ByteArray).size := by rw [hsz]; exact hlt
          have hb := txt_byte hc hjs
          have hnext : ∀ ty, (Instr.next (.pointer (some ⟨it, 0, none⟩)) true ty).run Tryd.prog wr = .ok (.tuple #[.bool true, .int .i64 j, .int .i32 (c.toNat : Nat)]) (wr.iterAt it ⟨pt.toArray⟩ (j + 1)) := fun ty => by
            have := Lib.run_next_ascii_at (P := Tryd.prog) wr it ⟨pt.toArray⟩ j ty hk hjs (by rw [hb]; exact hca)
            rw [hb] at this
            exact this
          have H2 := HL.iterNext (j + 1)
          have hdrop : pt.drop j = c :: pt.drop (j + 1) := by
            rw [List.drop_eq_getElem_cons hlt, (List.getElem?_eq_some_iff.1 hc).2]
          rw [hdrop] at hnm
          have hnm2 := Lib.hid hnm.out
          clear hnm hdrop hc hb
          go_upto_region 8 with (fail)
          obtain ⟨w2, hw2⟩ : ∃ w2, wr.iterAt it ⟨pt.toArray⟩ (j + 1) = w2 := ⟨_, rfl⟩
          rw [hw2] at H2
          rw [hw2]
          clear hw2 hnext HL hk hk' S0
          have hpart : w2.cell? ⟨mb, partAt c, none⟩ = some (.int .i64 ((⟨k, at', tt, n, bb⟩ : Mv).part c)) := cell_blk' (H2.blk 2 rfl) (mv_part _ _ c)
          have hpb : -9223372036854775808 ≤ (⟨k, at', tt, n, bb⟩ : Mv).part c ∧ (⟨k, at', tt, n, bb⟩ : Mv).part c ≤ 9223372036854775807 := by
            unfold Mv.part
            split
            · exact hr.1
            · split
              · exact hr.2.1
              · exact hr.2.2
          have hstep : numsM ⟨k, at', tt, n, bb⟩ (c :: pt.drop (j + 1)) cur = if (⟨k, at', tt, n, bb⟩ : Mv).part c < 0 then none else numsM ⟨k, at', tt, n, bb⟩ (pt.drop (j + 1)) (cur ++ 32 :: Lib.itoa ((⟨k, at', tt, n, bb⟩ : Mv).part c)) := rfl
          obtain ⟨q, hq⟩ : ∃ q, (⟨k, at', tt, n, bb⟩ : Mv).part c = q := ⟨_, rfl⟩
          rw [hq] at hpart hpb hstep
          have hstep2 := Lib.hid (hstep.symm.trans hnm2.out)
          clear hq hstep hnm2
          have kp := fun w' => rogue_part mb c w'
          by_cases hneg : q < 0
          · have hz0 := Lib.hid (show textM ⟨k, at', tt, n, bb⟩ = [] by
              have := hstep2.out
              rw [if_pos hneg] at this
              rw [hTh.out, ← this])
            clear hstep2
            go_wp2_with (go_at_call 40; go_must (refine (kp _).mono ?_; rintro e w3 ⟨rfl, rfl⟩))
            go_ret
            rw [hz0.out]
            exact ⟨rfl, H2.below (by omega) (fun _ h => h.elim)⟩
          · have hnx := Lib.hid (show numsM ⟨k, at', tt, n, bb⟩ (pt.drop (j + 1)) (cur ++ 32 :: Lib.itoa q) = numsM ⟨k, at', tt, n, bb⟩ pt nm by
              have := hstep2.out
              rw [if_neg hneg] at this
              exact this)
            have hil := Lib.itoa_length_le q hpb.1 hpb.2
            obtain ⟨iq, hiq⟩ : ∃ iq, Lib.itoa q = iq := ⟨_, rfl⟩
            have ki := lib_itoa hpb.1 hpb.2 (hV.st H2)
            rw [hiq] at hil ki hnx
            have z1 : (⟨iq.toArray⟩ : ByteArray).size = iq.length := by simp [ByteArray.size]
            have z2 : (⟨cur.toArray⟩ : ByteArray).size = cur.length := by simp [ByteArray.size]
            have z3 : (⟨(32 :: iq).toArray⟩ : ByteArray).size = iq.length + 1 := by simp [ByteArray.size]
            have hc1 := txt_space iq
            have hc2 := txt_cat cur (32 :: iq)
            clear hstep2 hiq
            have hjl : j ≤ 3 := by omega
            go_wp2_with (first
              | (go_at_call 40; go_must (refine (kp _).mono ?_; rintro e w3 ⟨rfl, rfl⟩))
              | (go_at_call 47; go_must (refine (St.callPast ki H2).mono ?_; rintro e w4 ⟨rfl, H4⟩)))
            go_roundw
            case rel => exact ⟨j + 1, cur ++ 32 :: iq, by omega, rfl, by simp; omega, hnx, H4⟩
            case measure =>
              obtain ⟨S4, hk4, _⟩ := H4.sep.get 0 rfl
              have e4 : w4.iterPos it = j + 1 := by simp [World.iterPos, hk4]
              rw [hip.out, e4]
              omega
        · obtain rfl : j = pt.length := by omega
          have hend : ∀ ty, (Instr.next (.pointer (some ⟨it, 0, none⟩)) true ty).run Tryd.prog wr = .ok (.tuple #[.bool false]) wr := fun ty => Lib.run_next_end_at (P := Tryd.prog) wr it ⟨pt.toArray⟩ pt.length ty hk (by rw [hsz]; omega)
          have hfin := Lib.hid (show textM ⟨k, at', tt, n, bb⟩ = if (k : Int) = 0 then cur ++ 32 :: hexM bb else cur by
            have := hnm.out
            rw [List.drop_length] at this
            rw [hTh.out, ← this]
            rfl)
          have e0 : wr.cell? ⟨mb, 0, none⟩ = some (.int .i64 k) := HL.cell 2 0 rfl rfl
          have e4 : wr.cell? ⟨mb, 4, none⟩ = some (.slice ad bb.length cap) := HL.cell 2 4 rfl rfl
          clear hnm hip hk hk' S0
          by_cases h0 : k = 0
          · subst h0
            have kh := rogue_hex (hvh.out.move HL.kept) hbb
            have hxl : (hexM bb).length ≤ 256 := by
              unfold hexM
              split
              · simp
              · rw [hexOf_len]; omega
            obtain ⟨hx, hhx⟩ : ∃ hx, hexM bb = hx := ⟨_, rfl⟩
            rw [hhx] at kh hxl hfin
            have z1' : (⟨hx.toArray⟩ : ByteArray).size = hx.length := by simp [ByteArray.size]
            have z2' : (⟨cur.toArray⟩ : ByteArray).size = cur.length := by simp [ByteArray.size]
            have z3' : (⟨(32 :: hx).toArray⟩ : ByteArray).size = hx.length + 1 := by simp [ByteArray.size]
            have hc1 := txt_space hx
            have hc2 := txt_cat cur (32 :: hx)
            clear hhx
            go_wp2_with (go_at_call 48; go_must (refine (St.callPast kh HL).mono ?_; rintro e w5 ⟨rfl, H5⟩))
            go_ret
            rw [hfin.out]
            exact ⟨rfl, H5.below (by omega) (fun _ h => h.elim)⟩
          · have z1' : ((k : Int) == 0) = false := by simp; omega
            have hfin2 := Lib.hid (show textM ⟨k, at', tt, n, bb⟩ = cur by rw [hfin.out, if_neg (by omega)])
            clear hfin h0
            go_wp2
            go_ret
            rw [hfin2.out]
            exact ⟨rfl, HL.below (by omega) (fun _ h => h.elim)⟩

end Go.Proofs.YtaafedpjifaghaaDoor
