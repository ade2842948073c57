import Derived.Test.YtaafedpjifaghaaDoorGp2
import Derived.Test.YtaafedpjifaghaaDoorGp3
import Derived.Test.YtaafedpjifaghaaDoorGp5
/- A script's operation that stands alone, told in one step: what it comes to, and how the script goes on from there. Laws over any program. -/
set_option linter.unusedVariables false
set_option linter.unusedSimpArgs false
namespace Go.Proofs.YtaafedpjifaghaaDoor
open Go.RowKit

section
variable {P : Program} {ops : Array Oper} {Q : Act → World → Prop} {rest : List (Nat × Bool)} {C : (World → Prop) → Prop} {a : Act} {I : World → Prop} {i : Nat} {o : Oper}
theorem script_alone (ho : ops[i]? = some o) (hw : Region.wanted o (yielded ops a.tmps) = true)
    (h1 : ∀ V : Value → (World → Prop) → Prop, (∀ v I' (C' : (World → Prop) → Prop), (∀ I, C' I → C I) → C' I' → (∀ K : Act → Prop, (∀ a, Script P ops Q rest C' a I' → K a) → K (a.put o.dst v)) → V v I') → ∀ w, I w → CameV P V ((execOp a.eval o).run P w)) :
    Script P ops Q ((i, true) :: rest) C a I :=
  ⟨o, fun v I' => ∃ C' : (World → Prop) → Prop, (∀ I, C' I → C I) ∧ C' I' ∧ ∀ K : Act → Prop, (∀ a, Script P ops Q rest C' a I' → K a) → K (a.put o.dst v), ho, .inl ⟨hw, h1 _ (fun _ _ C' h2 h3 h4 => ⟨C', h2, h3, h4⟩)⟩, fun v I' hv => by obtain ⟨C', h2, h3, h4⟩ := hv; exact ⟨C', h2, h3, h4 _ (fun _ h => h)⟩⟩
theorem plan_one {rest : Plan} (ho : ops[i]? = some o) (hw : Region.wanted o (yielded ops a.tmps) = true)
    (h1 : ∀ V : Value → (World → Prop) → Prop, (∀ v I' (C' : (World → Prop) → Prop), (∀ I, C' I → C I) → C' I' → (∀ K : Act → Prop, (∀ a, PlanS P ops Q rest C' a I' → K a) → K (a.put o.dst v)) → V v I') → ∀ w, I w → CameV P V ((execOp a.eval o).run P w)) :
    PlanS P ops Q (.alone i rest) C a I :=
  ⟨o, fun v I' => ∃ C' : (World → Prop) → Prop, (∀ I, C' I → C I) ∧ C' I' ∧ ∀ K : Act → Prop, (∀ a, PlanS P ops Q rest C' a I' → K a) → K (a.put o.dst v), ho, .inl ⟨hw, h1 _ (fun _ _ C' h2 h3 h4 => ⟨C', h2, h3, h4⟩)⟩, fun v I' hv => by obtain ⟨C', h2, h3, h4⟩ := hv; exact ⟨C', h2, h3, h4 _ (fun _ h => h)⟩⟩
theorem plan_two {rest pj : Plan} {j : Nat} {o' : Oper} (ho : ops[i]? = some o) (ho' : ops[j]? = some o') (hw : Region.wanted o (yielded ops a.tmps) = true) (hw' : Region.wanted o' (yielded ops a.tmps) = true)
    (h1 : ∀ V : Value → (World → Prop) → Prop, (∀ v I' (C' : (World → Prop) → Prop), (∀ I, C' I → C I) → C' I' → (∀ K : Act → Prop, (∀ a, PlanS P ops Q rest C' a I' → K a) → K (a.put o.dst v)) → V v I') → ∀ w, I w → CameV P V ((execOp a.eval o).run P w))
    (h2 : ∀ V : Value → (World → Prop) → Prop, (∀ v I' (C' : (World → Prop) → Prop), (∀ I, C' I → C I) → C' I' → (∀ K : Act → Prop, (∀ a, PlanS P ops Q pj C' a I' → K a) → K (a.put o'.dst v)) → V v I') → ∀ w, I w → CameV P V ((execOp a.eval o').run P w)) :
    PlanS P ops Q (.fork i j rest pj) C a I :=
  ⟨⟨o, fun v I' => ∃ C' : (World → Prop) → Prop, (∀ I, C' I → C I) ∧ C' I' ∧ ∀ K : Act → Prop, (∀ a, PlanS P ops Q rest C' a I' → K a) → K (a.put o.dst v), ho, .inl ⟨hw, h1 _ (fun _ _ C' h2 h3 h4 => ⟨C', h2, h3, h4⟩)⟩, fun v I' hv => by obtain ⟨C', h2, h3, h4⟩ := hv; exact ⟨C', h2, h3, h4 _ (fun _ h => h)⟩⟩,
    ⟨o', fun v I' => ∃ C' : (World → Prop) → Prop, (∀ I, C' I → C I) ∧ C' I' ∧ ∀ K : Act → Prop, (∀ a, PlanS P ops Q pj C' a I' → K a) → K (a.put o'.dst v), ho', .inl ⟨hw', h2 _ (fun _ _ C' h2 h3 h4 => ⟨C', h2, h3, h4⟩)⟩, fun v I' hv => by obtain ⟨C', h2, h3, h4⟩ := hv; exact ⟨C', h2, h3, h4 _ (fun _ h => h)⟩⟩⟩
/-- 'append' onto a row, as an operation of a script. -/
theorem St.came_row {S : Nat → Prop} {w0 w : World} {L : List SP} {e : TypeId} {size n : Nat} {v : Value} {xs : List Value} (H : St S w0 w (Row e size v n xs :: L)) {o : Oper} {a : Act} (s x : Operand) (t : TypeId)
    (ho : o.op = .call { callee := .builtin .append, args := #[s, x], argTypes := #[t, t] }) {z : Value} {bytes : Nat} (ht : P.underlying t = some (.slice e))
    (hinfo : (P.info? e).map (fun i => (i.zero, i.size, i.bytes)) = some (some z, size, bytes)) (hzs : z.cells.size = size ∧ 0 < size ∧ 0 < bytes)
    (hs : a.eval s = v) {A : Option Addr} {c m : Nat} (news : List Value) (hx : a.eval x = .slice A m c) (hl : news.length = m * size) (hA : A = none → m = 0) (hnews : ∀ ad, A = some ad → ∀ j u, news[j]? = some u → w.cell? (ad.add j) = some u) (h1 : ∀ u ∈ news, u.oneCell' = true)
    (hbytes : (n + m) * bytes ≤ 140737488355328) {V : Value → (World → Prop) → Prop}
    (h : ∀ v' w', St S w0 w' (Row e size v' (n + m) (xs ++ news) :: L) → ∃ I', V v' I' ∧ I' w') : CameV P V ((execOp a.eval o).run P w) := by
  obtain ⟨v', w', hr, h2, h3⟩ := H.run_append 0 rfl (ty := o.type) (c := c) ht hinfo hzs news hl hA hnews h1 hbytes
  unfold execOp
  simp only [ho, resolve, invoke, builtin, Sem.run_bind, Sem.run_pure, Result.andThen_ok, List.map_toArray, List.map_cons, List.map_nil, hs, hx, hr]
  exact h v' w' h2
/-- 'append' onto a row that begins anywhere, as an operation of a script. -/
theorem St.came_off {S : Nat → Prop} {w0 w : World} {L : List SP} {e : TypeId} {size n : Nat} {v : Value} {xs : List Value} (H : St S w0 w (Off e size v n xs :: L)) {o : Oper} {a : Act} (s x : Operand) (t : TypeId)
    (ho : o.op = .call { callee := .builtin .append, args := #[s, x], argTypes := #[t, t] }) {z : Value} {bytes : Nat} (ht : P.underlying t = some (.slice e))
    (hinfo : (P.info? e).map (fun i => (i.zero, i.size, i.bytes)) = some (some z, size, bytes)) (hzs : z.cells.size = size ∧ 0 < size ∧ 0 < bytes)
    (hs : a.eval s = v) {ad : Addr} {c m : Nat} (news : List Value) (hx : a.eval x = .slice (some ad) m c) (hl : news.length = m * size) (hnews : ∀ j u, news[j]? = some u → w.cell? (ad.add j) = some u) (h1 : ∀ u ∈ news, u.oneCell' = true)
    (hbytes : (n + m) * bytes ≤ 140737488355328) {V : Value → (World → Prop) → Prop}
    (h : ∀ v' w', St S w0 w' (Off e size v' (n + m) (xs ++ news) :: L) → ∃ I', V v' I' ∧ I' w') : CameV P V ((execOp a.eval o).run P w) := by
  obtain ⟨v', w', hr, h2, h3⟩ := H.off_append (ty := o.type) (c := c) ht hinfo hzs news hl hnews h1 hbytes
  unfold execOp
  simp only [ho, resolve, invoke, builtin, Sem.run_bind, Sem.run_pure, Result.andThen_ok, List.map_toArray, List.map_cons, List.map_nil, hs, hx, hr]
  exact h v' w' h2
end

/-! A script for the first operations, and the others in one order. -/
section
variable {P : Program} {ops : Array Oper} {md : Region.Mode}
def HeadI (P : Program) (md : Region.Mode) (ops : Array Oper) (C : (World → Prop) → Prop) (n : Nat) (L : Array Bool → Act → (World → Prop) → Prop) : Nat → Array Bool → Act → (World → Prop) → Prop
  | 0, listed, a, I => L listed a I
  | f + 1, listed, a, I => Region.ready md ops listed ≠ [] ∧
    ∀ i ∈ Region.ready md ops listed, i < n ∧ ∃ o V, ops[i]? = some o ∧ StepTo P ops I o V a ∧ ∀ v I', V v I' → C I' ∧ HeadI P md ops C n L f (listed.setIfInBounds i true) (a.put o.dst v) I'
theorem HeadI.any {n g : Nat} {C : (World → Prop) → Prop} {L : Array Bool → Act → (World → Prop) → Prop} {Q' : Exit → Act → World → Prop} (hL : ∀ listed a I w, L listed a I → I w → wpAny P md ops Q' g listed a w) :
    ∀ (f : Nat) (listed : Array Bool) (a : Act) (I : World → Prop) (w : World), I w → HeadI P md ops C n L f listed a I → wpAny P md ops Q' (f + g) listed a w
  | 0, listed, a, I, w, hw, h => by rw [Nat.zero_add]; exact hL _ _ _ _ h hw
  | f + 1, listed, a, I, w, hw, h => by
    rw [show f + 1 + g = (f + g) + 1 by omega]
    refine ⟨fun h0 => absurd h0 h.1, fun i hi => ?_⟩
    obtain ⟨_, o, V, h1, h2, h3⟩ := h.2 i hi
    exact h2.op h1 hw (fun v I' hv w' hw' => HeadI.any hL f _ _ I' w' hw' (h3 v I' hv).2)
theorem HeadI.mono {n : Nat} {C C' : (World → Prop) → Prop} {L : Array Bool → Act → (World → Prop) → Prop} (hC : ∀ I, C' I → C I) : ∀ {f : Nat} {listed : Array Bool} {a : Act} {I : World → Prop}, HeadI P md ops C' n L f listed a I → HeadI P md ops C n L f listed a I
  | 0, _, _, _, h => h
  | f + 1, _, _, _, h => ⟨h.1, fun i hi => by
      obtain ⟨h0, o, V, h1, h2, h3⟩ := h.2 i hi
      exact ⟨h0, o, V, h1, h2, fun v I' hv => ⟨hC _ (h3 v I' hv).1, HeadI.mono hC (h3 v I' hv).2⟩⟩⟩
theorem HeadI.first {n i : Nat} {oi : Oper} {v : Value} {C : (World → Prop) → Prop} {L : Array Bool → Act → (World → Prop) → Prop} (hi : ops[i]? = some oi) (hsel : ∀ (j : Nat) (o : Oper) cs b, ops[j]? = some o → o.op ≠ .select cs b)
    (hs : Region.sinkB md ops n = true) (hc : Region.chainB md ops n = true) (hn : n < ops.size) (hin : i < n) (hdone : ∀ listed a I, L listed a I → ∀ j ∈ Region.ready md ops listed, n ≤ j) :
    ∀ (f : Nat) (listed : Array Bool) (a : Act) (I : World → Prop), C I → HeadInv md ops n listed →
      (∀ j oj, ops[j]? = some oj → j ≠ i → listed.getD j true = false → (∀ e ∈ oj.after, Region.binds md e = true → e.on ≠ i) → oi.apart ops oj = true) →
      i ∈ Region.ready md ops listed → SmallOp P ops C oi v a → HeadI P md ops C n L f (listed.setIfInBounds i true) (a.put oi.dst v) I → HeadI P md ops C n L (f + 1) listed a I := by
  intro f
  induction f with
  | zero =>
    intro listed a I hI inv _ hr hy H
    have hun := (mem_ready.1 hr).1
    refine ⟨fun h => (by rw [h] at hr; cases hr), fun j hj => ?_⟩
    have hjn : j < n := by
      rcases Nat.lt_or_ge j n with h | h
      · exact h
      · exact absurd hj (tail_waits hs hc hn inv _ i rfl hin hun j h)
    refine ⟨hjn, ?_⟩
    by_cases hji : j = i
    · subst hji
      refine ⟨oi, _, hi, hy.step hI, ?_⟩
      rintro v' I' ⟨rfl, rfl⟩
      exact ⟨hI, H⟩
    · have := hdone _ _ _ H j (ready_mono hj hji)
      omega
  | succ f ih =>
    intro listed a I hI inv hfree hr hy H
    have hun := (mem_ready.1 hr).1
    refine ⟨fun h => (by rw [h] at hr; cases hr), fun j hj => ?_⟩
    have hjn : j < n := by
      rcases Nat.lt_or_ge j n with h | h
      · exact h
      · exact absurd hj (tail_waits hs hc hn inv _ i rfl hin hun j h)
    refine ⟨hjn, ?_⟩
    by_cases hji : j = i
    · subst hji
      refine ⟨oi, _, hi, hy.step hI, ?_⟩
      rintro v' I' ⟨rfl, rfl⟩
      exact ⟨hI, H⟩
    · obtain ⟨_, oj, V, hoj, hyj, Hj⟩ := H.2 j (ready_mono hj hji)
      obtain ⟨hjun, oj', hoj', hall⟩ := mem_ready.1 hj
      obtain rfl : oj' = oj := by rw [hoj] at hoj'; exact (Option.some.inj hoj').symm
      have hnot : ∀ e ∈ oj'.after, Region.binds md e = true → e.on ≠ i := fun e he hb heq => by
        have h1 := hall e he hb
        rw [heq, getD_both hun] at h1
        cases h1
      obtain ⟨h1, h2, h3⟩ := Oper.apart_spec (hfree j oj' hoj hji hjun hnot)
      have hyj' : StepTo P ops I oj' V a := hyj.same (execOp_put oj' (fun cs b => hsel j oj' cs b hoj) a oi.dst v h1).symm (wanted_put oj' a oi.dst v h1).symm
      refine ⟨oj', V, hoj, hyj', fun u I' hu => ⟨(Hj u I' hu).1, ?_⟩⟩
      have hyi' : SmallOp P ops C oi v (a.put oj'.dst u) := hy.same (execOp_put oi (fun cs b => hsel i oi cs b hi) a oj'.dst u h3) (wanted_put oi a oj'.dst u h3)
      refine ih _ _ I' (Hj u I' hu).1 (inv.set hj hjn) (fun k ok hk hki hun hno => ?_) (ready_mono hr (Ne.symm hji)) hyi' ?_
      · refine hfree k ok hk hki ?_ hno
        by_cases hjk : j = k
        · subst hjk; exact hjun
        · rw [getD_set_ne true hjk] at hun; exact hun
      · rw [Array.setIfInBounds_comm _ _ hji, ← Act.put_comm a v u h2]
        exact (Hj u I' hu).2
def scriptTB (md : Region.Mode) (ops : Array Oper) (g n : Nat) : List (Nat × Bool) → Array Bool → Bool
  | [], listed => Region.seqB md ops g n listed
  | (i, false) :: rest, listed => decide (i < n) && ((Region.ready md ops listed).contains i && Region.free md ops listed i && scriptTB md ops g n rest (listed.setIfInBounds i true))
  | (i, true) :: rest, listed => decide (i < n) && (decide (Region.ready md ops listed = [i]) && scriptTB md ops g n rest (listed.setIfInBounds i true))
theorem Script.head {Q : Act → World → Prop} {g n : Nat} (hsel : Region.noSelect ops = true) (hs : Region.sinkB md ops n = true) (hc : Region.chainB md ops n = true) (hn : n < ops.size) :
    ∀ (l : List (Nat × Bool)) (C : (World → Prop) → Prop) (listed : Array Bool) (a : Act) (I : World → Prop), C I → HeadInv md ops n listed → scriptTB md ops g n l listed = true → Script P ops Q l C a I →
      HeadI P md ops C n (fun listed' a' I' => Region.seqB md ops g n listed' = true ∧ ∀ w, I' w → Q a' w) l.length listed a I
  | [], _, _, _, _, _, _, hB, h => ⟨hB, h⟩
  | (i, false) :: l, C, listed, a, I, hC, inv, hB, ⟨o, v, h0, hy, h⟩ => by
    simp only [scriptTB, Bool.and_eq_true, decide_eq_true_eq] at hB
    obtain ⟨hin, ⟨hr, hf⟩, hB'⟩ := hB
    have hr' : i ∈ Region.ready md ops listed := by simpa using hr
    exact HeadI.first h0 (Region.noSelect_spec hsel) hs hc hn hin (fun listed' a' I' hL => seqB_ready hL.1) l.length listed a I hC inv (Region.free_spec h0 hf) hr' hy (Script.head hsel hs hc hn l C _ _ I hC (inv.set hr' hin) hB' h)
  | (i, true) :: l, C, listed, a, I, hC, inv, hB, ⟨o, V, h0, hy, h⟩ => by
    simp only [scriptTB, Bool.and_eq_true, decide_eq_true_eq] at hB
    obtain ⟨hin, hr, hB'⟩ := hB
    have hr' : i ∈ Region.ready md ops listed := by rw [hr]; simp
    refine ⟨fun h => (by rw [hr] at h; cases h), fun j hj => ?_⟩
    rw [hr] at hj
    obtain rfl : j = i := by simpa using hj
    refine ⟨hin, o, V, h0, hy, fun v I' hv => ?_⟩
    obtain ⟨C', h1, h2, h3⟩ := h v I' hv
    exact ⟨h1 _ h2, HeadI.mono h1 (Script.head hsel hs hc hn l C' _ _ I' h2 (inv.set hr' hin) hB' h3)⟩
/-- A REGION THAT DRAWS: its first n operations by a script, the others stand in one order. -/
theorem wp_script_tail {id : Nat} {Q : Exit → Act → World → Prop} {a : Act} {w : World} {l : List Oper} (n : Nat) (s : List (Nat × Bool)) (C : (World → Prop) → Prop) (I : World → Prop) (hm : P.follows .mixedOrders = true) (hl : s.length = n) (hs : Region.noSelect l.toArray = true)
    (hB : (decide (n < l.length) && Region.sinkB .any l.toArray n && Region.chainB .any l.toArray n && scriptTB .any l.toArray (l.length - n) n s (Array.replicate l.toArray.size false)) = true) (h0 : I w.drew) (hC : C I)
    (h : Script P l.toArray (fun a w => wpList P l.toArray Q (l.drop n) a w) s C a I) : (Code.region id l.toArray true).wp P Q a w := by
  simp only [Bool.and_eq_true, decide_eq_true_eq] at hB
  obtain ⟨⟨⟨hn, hsk⟩, hc⟩, hB⟩ := hB
  have hn' : n < l.toArray.size := by simpa using hn
  have hdl : (l.drop n).length = l.length - n := by simp
  have inv0 : HeadInv .any l.toArray n (Array.replicate l.toArray.size false) :=
    ⟨by simp, fun j oj _ hl => (by rw [getD_replicate_false] at hl; cases hl), fun t _ ht => getD_in (by simpa using ht) (getD_replicate_false _ _)⟩
  have H := Script.head (P := P) (md := .any) (g := l.length - n) hs hsk hc hn' s C _ a I hC inv0 hB h
  refine wp_region_any hm ?_
  have := HeadI.any (Q' := Q) (g := l.length - n) (fun listed a' I' w' hL hw' => by
    have := wpAny_of_seq (P := P) (md := .any) (Q' := Q) (l.drop n) n listed a' w' (fun j => by simp [List.getElem?_drop]) (by rw [hdl]; exact hL.1) (hL.2 w' hw')
    rwa [hdl] at this) _ _ _ _ _ h0 H
  rw [hl, show n + (l.length - n) = l.toArray.size by simp; omega] at this
  exact this
end
end Go.Proofs.YtaafedpjifaghaaDoor

/- The walks of the rogue: Note, image. Conditions: its blocks lie as its maker lays them. -/
set_option linter.unusedVariables false
set_option linter.unusedSimpArgs false
namespace Go.Proofs.YtaafedpjifaghaaDoor
open Go.RowKit

/-- An image's bytes, in a slice of the call's own. -/
def ImgA (v : Value) (y : List (List UInt8)) : SP := Row 5 1 v (y.length * 128) (bvs y.flatten)
def Imgs (iv : Value) (l : List (List (List UInt8))) : SP := Stack ImgA 38 iv l
/-- The images, opened: their slices' own row, and the slices. -/
def ImgR (iv : Value) (l : List (List (List UInt8))) (vs : List Value) : SP := Off 38 1 iv l.length vs

theorem info_bytes : (Tryd.prog.info? 38).map (fun i => (i.zero, i.size, i.bytes)) = some (some (.slice none 0 0), 1, 24) := by kernel_rfl
set_option maxHeartbeats 2000000 in
set_option maxRecDepth 100000 in
theorem rogue_note {b bs : Nat} {iv : Value} {r : RogM} {w : World} {S : Nat → Prop} (hg : r.Good) (H : Sep w [RogB b bs iv, StoreAt bs r.s, Imgs iv r.imgs] S) :
    Calls Tryd.prog 10 #[.pointer (some ⟨b, 0, none⟩)] w fun e w' => ∃ iv', e = .returned (.int .i64 r.note.imgs.length) ∧ St S w w' [RogB b bs iv', StoreAt bs r.s, Imgs iv' r.note.imgs] := by
  have hroom := hg.room
  obtain ⟨vs, hvs, H0⟩ := Stack.open ((St.refl H).pick [2, 0, 1])
  have H0 : St S w w [ImgR iv r.imgs vs, Pile ImgA vs r.imgs, RogB b bs iv, StoreAt bs r.s] := H0
  have hgs := hg.s
  obtain ⟨m, imgs⟩ := r
  simp only at hroom H0 hvs hgs
  obtain ⟨N, hN⟩ : ∃ N, imgs.length = N := ⟨_, rfl⟩
  rw [hN] at hvs hroom
  go_enter Tryd.func10, Tryd.ntmps10
  go_upto_region 3 with (fail)
  refine wp_script_tail 12 [(0, false), (1, false), (2, false), (3, false), (4, false), (5, false), (6, false), (7, false), (8, false), (9, true), (10, true), (11, true)] (Fam fun w' => St S w w' [RogB b bs iv]) (fun w' => St S w w' [ImgR iv imgs vs, Pile ImgA vs imgs, RogB b bs iv, StoreAt bs m]) (by kernel_rfl) (by rfl) (by kernel_rfl) (by kernel_rfl) H0.drew (Fam.st (fun _ h => h.pick [2])) ?_
  iterate 9 first
    | (apply script_pass
       · rfl
       · rfl
       intro K hK
       go_simp
       refine hK _ ?_
       clear hK K)
    | (apply script_step
       · rfl
       · rfl
       · intro I hI w1 h1'
         have h1 := hI.2 _ h1'
         have c0 : w1.cell? ⟨b, 0, none⟩ = some (.pointer (some ⟨bs, 0, none⟩)) := h1.cell 0 0 rfl rfl
         have c1 : w1.cell? ⟨b, 1, none⟩ = some iv := h1.cell 0 1 rfl rfl
         first
           | (go_simp
              first
                | rfl
                | exact ⟨rfl, h1'⟩
             )
       intro K hK
       go_simp
       refine hK _ ?_
       clear hK K)
  refine script_alone rfl rfl ?_
  intro V hV w1 h1
  go_simp
  obtain ⟨S1, K1, G1⟩ := St.call (l1 := [StoreAt bs m]) (h1.pick [3, 0, 1, 2])
  refine (store_image hgs K1).mono ?_
  rintro e w2 ⟨v1, rfl, H2⟩
  obtain ⟨a1, p1, rfl, _, _⟩ := slice_form' (H2.row 0 rfl)
  have H3 : St S w w2 [ImgA (Value.slice a1 (m.last.length * 128) p1) m.last, ImgR iv imgs vs, Pile ImgA vs imgs, RogB b bs iv, StoreAt bs m] := (G1 _ _ H2).pick [0, 2, 3, 4, 1]
  clear K1 G1
  refine ⟨_, rfl, fun w' => St S w w' [ImgA (Value.slice a1 (m.last.length * 128) p1) m.last, ImgR iv imgs vs, Pile ImgA vs imgs, RogB b bs iv, StoreAt bs m], hV _ _ _ (fun _ h => h) (Fam.st (fun _ h => h.pick [3])) ?_, H3⟩
  intro K hK
  go_simp
  refine hK _ ?_
  clear hK K hV V
  clear H2 H3 h1 w1 w2
  refine script_alone rfl rfl ?_
  intro V hV w1 h1
  go_simp
  obtain ⟨gn, hgn⟩ : ∃ g, w1.heap.size = g := ⟨_, rfl⟩
  have H3 : St S w _ [Blk gn #[(Value.slice a1 (m.last.length * 128) p1)] 38, ImgA (Value.slice a1 (m.last.length * 128) p1) m.last, ImgR iv imgs vs, Pile ImgA vs imgs, RogB b bs iv, StoreAt bs m] := h1.allocAt hgn #[(Value.slice a1 (m.last.length * 128) p1)] 38
  simp only [hgn]
  refine ⟨fun w' => St S w w' [Blk gn #[(Value.slice a1 (m.last.length * 128) p1)] 38, ImgA (Value.slice a1 (m.last.length * 128) p1) m.last, ImgR iv imgs vs, Pile ImgA vs imgs, RogB b bs iv, StoreAt bs m], hV _ _ _ (fun _ h => h) (Fam.st (fun _ h => h.pick [4])) ?_, H3⟩
  intro K hK
  go_simp
  refine hK _ ?_
  clear hK K hV V
  clear H3 h1 hgn w1
  refine script_alone rfl rfl ?_
  intro V hV w1 h1
  have H3 : St S w w1 (Off 38 1 iv imgs.length vs :: [Blk gn #[(Value.slice a1 (m.last.length * 128) p1)] 38, ImgA (Value.slice a1 (m.last.length * 128) p1) m.last, Pile ImgA vs imgs, RogB b bs iv, StoreAt bs m]) := h1.pick [2, 0, 1, 3, 4, 5]
  have hnw := World.news_of_block (h1.blk 0 rfl)
  refine St.came_off H3 (.tmp 10) (.tmp 16) 61 rfl Tryd.underlying61 info_bytes (by decide) rfl [(Value.slice a1 (m.last.length * 128) p1)] rfl rfl hnw (fun u hu => by simp only [List.mem_singleton] at hu; subst hu; rfl) (by omega) ?_
  intro v2 w2 H4
  obtain ⟨S2, H5⟩ := H4.sep.get 0 rfl
  obtain ⟨a2, p2, rfl, _⟩ := Off.shape H5
  refine ⟨fun w' => St S w w' [Off 38 1 (.slice a2 (imgs.length + 1) p2) (imgs.length + 1) (vs ++ [(Value.slice a1 (m.last.length * 128) p1)]), Blk gn #[(Value.slice a1 (m.last.length * 128) p1)] 38, ImgA (Value.slice a1 (m.last.length * 128) p1) m.last, Pile ImgA vs imgs, RogB b bs iv, StoreAt bs m], hV _ _ _ (fun _ h => h) (Fam.st (fun _ h => h.pick [4])) ?_, H4⟩
  intro K hK
  go_simp
  refine hK _ ?_
  clear hK K hV V
  clear H4 H3 H5 hnw h1 w1 w2
  refine script_nil ?_
  intro w3 H3
  simp only [List.drop_succ_cons, List.drop_zero]
  have c1 : w3.cell? ⟨b, 1, none⟩ = some iv := H3.cell 4 1 rfl rfl
  have f1 := H3.free 4 1 rfl
  have H4 : St S w _ [_, _, _, _, RogB b bs (.slice a2 (imgs.length + 1) p2), _] := H3.set 4 rfl 1 (.slice a2 (imgs.length + 1) p2)
  have H5 : St S w _ [RogB b bs (.slice a2 (imgs.length + 1) p2), Off 38 1 (.slice a2 (imgs.length + 1) p2) (imgs.length + 1) (vs ++ [(Value.slice a1 (m.last.length * 128) p1)]), Pile ImgA vs imgs, ImgA (Value.slice a1 (m.last.length * 128) p1) m.last, StoreAt bs m] := H4.pick [4, 0, 3, 2, 5]
  clear H3 H4
  obtain ⟨hp2, ha2⟩ := (by assumption : imgs.length + 1 ≤ p2 ∧ (imgs.length + 1 ≠ 0 → ∃ g o, a2 = some ⟨g, o, none⟩))
  obtain ⟨g2, o2, rfl⟩ := ha2 (by omega)
  clear ha2 H H0 hg
  rw [hN] at hp2 H5
  go_upto_region 4 with (fail)
  by_cases h64 : N + 1 ≤ 64
  · have z1 : decide ((64 : Int) < (N : Int) + 1) = false := by simp; omega
    have hfin := Lib.hid (show RogM.note ⟨m, imgs⟩ = ⟨m, imgs ++ [m.last]⟩ by simp [RogM.note, noteImgs, hN]; omega)
    have d1 := H5.cell 0 1 rfl rfl
    obtain ⟨w5, hw5⟩ : ∃ w5, w3.setCell ⟨b, 1, none⟩ (.slice (some ⟨g2, o2, none⟩) (N + 1) p2) = w5 := ⟨_, rfl⟩
    rw [hw5] at H5 d1
    rw [hw5]
    clear hw5 c1 f1
    go_wp2
    go_ret
    rw [hfin.out]
    refine ⟨by simp [hN], .slice (some ⟨g2, o2, none⟩) (N + 1) p2, ?_⟩
    have H6 : St S w w5 [Pile ImgA (vs ++ [(Value.slice a1 (m.last.length * 128) p1)]) (imgs ++ [m.last]), _, _, _] := Pile.snoc (by rw [hvs, hN]) (H5.pick [2, 3, 0, 1, 4])
    refine St.pick (l := [Imgs _ _, RogB b bs _, StoreAt bs m]) (Stack.mk (vs := vs ++ [(Value.slice a1 (m.last.length * 128) p1)]) ?_) [1, 2, 0]
    rw [show (imgs ++ [m.last]).length = N + 1 by simp [hN]]
    exact H6.pick [2, 0, 1, 3]
  · obtain rfl : N = 64 := by omega
    have hfin := Lib.hid (show RogM.note ⟨m, imgs⟩ = ⟨m, (imgs ++ [m.last]).drop 1⟩ by simp [RogM.note, noteImgs, hN])
    have d1 := H5.cell 0 1 rfl rfl
    have f2 := H5.free 0 1 rfl
    obtain ⟨w5, hw5⟩ : ∃ w5, w3.setCell ⟨b, 1, none⟩ (.slice (some ⟨g2, o2, none⟩) (64 + 1) p2) = w5 := ⟨_, rfl⟩
    rw [hw5] at H5 d1 f2
    rw [hw5]
    clear hw5 c1 f1
    have z2 : ¬ p2 = 1 := by omega
    have z3 : (1 : Int) ≤ (p2 : Int) := by omega
    have H6 : St S w _ [RogB b bs (.slice (some ⟨g2, o2 + 1, none⟩) 64 (p2 - 1)), _, _, _, _] := H5.set 0 rfl 1 (.slice (some ⟨g2, o2 + 1, none⟩) 64 (p2 - 1))
    have c2 := H6.cell 0 1 rfl rfl
    go_wp2
    go_ret
    rw [hfin.out]
    refine ⟨by simp [hN], .slice (some ⟨g2, o2 + 1, none⟩) 64 (p2 - 1), ?_⟩
    have H7 : St S w _ [Pile ImgA (vs ++ [(Value.slice a1 (m.last.length * 128) p1)]) (imgs ++ [m.last]), _, _, _] := Pile.snoc (by rw [hvs, hN]) (H6.pick [2, 3, 0, 1, 4])
    have H8 : St S w _ [Off 38 1 (.slice (some ⟨g2, o2 + 1, none⟩) 64 (p2 - 1)) 64 ((vs ++ [(Value.slice a1 (m.last.length * 128) p1)]).drop 1), _, _, _] := St.off_drop (k := 1) (m := 64) (H7.pick [2, 0, 1, 3]) rfl (by omega)
    refine St.pick (l := [Imgs _ _, RogB b bs _, StoreAt bs m]) (Stack.mk (vs := (vs ++ [(Value.slice a1 (m.last.length * 128) p1)]).drop 1) ?_) [1, 2, 0]
    rw [show ((imgs ++ [m.last]).drop 1).length = 64 by simp [hN]]
    have hcv : ∃ v0 vt, vs ++ [(Value.slice a1 (m.last.length * 128) p1)] = v0 :: vt := by cases vs with | nil => exact ⟨_, _, rfl⟩ | cons x r => exact ⟨_, _, rfl⟩
    have hci : ∃ y0 yt, imgs ++ [m.last] = y0 :: yt := by cases imgs with | nil => exact ⟨_, _, rfl⟩ | cons x r => exact ⟨_, _, rfl⟩
    obtain ⟨v0, vt, ev⟩ := hcv
    obtain ⟨y0, yt, ei⟩ := hci
    rw [ev, ei] at H8
    rw [ev, ei]
    exact (Pile.tail (H8.pick [1, 0, 2, 3])).pick [1, 0, 2, 3]

end Go.Proofs.YtaafedpjifaghaaDoor

/- The walks of the rogue: image, old. Conditions: its blocks lie as its maker lays them. -/
set_option linter.unusedVariables false
set_option linter.unusedSimpArgs false
namespace Go.Proofs.YtaafedpjifaghaaDoor
open Go.RowKit

theorem ix_mod (n : Int) (K : Nat) (hK : 0 < K) : (n.tmod K + K).tmod K = ((n % K).toNat : Int) ∧ -(K : Int) < n.tmod K ∧ n.tmod K < K := by
  have h1 : n.tmod K < K := Int.tmod_lt_of_pos n (by omega)
  have h2 : -(K : Int) < n.tmod K := by
    have := Int.lt_tmod_of_pos n (b := (K : Int)) (by omega)
    omega
  refine ⟨?_, h2, h1⟩
  rw [Int.tmod_eq_emod_of_nonneg (by omega)]
  have h3 : n.tmod K + K = n + K * (1 - n.tdiv K) := by
    have := Int.tmod_add_mul_tdiv n K
    rw [Int.mul_sub, Int.mul_one]
    omega
  rw [h3, Int.add_mul_emod_self_left]
  have := Int.emod_nonneg n (b := (K : Int)) (by omega)
  omega

theorem rogue_image0 {b bs : Nat} {ao : Option Addr} {cap : Nat} (n : Int) {w : World} {L : List SP} {S : Nat → Prop} (H : Sep w (RogB b bs (.slice ao 0 cap) :: L) S) :
    Calls Tryd.prog 53 #[.pointer (some ⟨b, 0, none⟩), .int .i64 n] w fun e w' => e = .returned (.tuple #[.slice none 0 0, .bool false]) ∧ w' = w := by
  have c1 : w.cell? ⟨b, 1, none⟩ = some (.slice ao 0 cap) := (St.refl H).cell 0 1 rfl rfl
  go_enter Tryd.func53, Tryd.ntmps53
  go_wp2
  go_ret2
  exact ⟨rfl, rfl⟩
set_option maxHeartbeats 1000000 in
set_option maxRecDepth 100000 in
theorem rogue_image {b bs : Nat} {iv : Value} {r : RogM} {vs : List Value} (n : Int) {w : World} {L : List SP} {S : Nat → Prop} (h0 : r.imgs ≠ []) (hroom : r.imgs.length ≤ 64) {v : Value} (hv : vs[r.ix n]? = some v) (H : Sep w (RogB b bs iv :: ImgR iv r.imgs vs :: L) S) :
    Calls Tryd.prog 53 #[.pointer (some ⟨b, 0, none⟩), .int .i64 n] w fun e w' => e = .returned (.tuple #[v, .bool true]) ∧ Below w.heap.size w w' := by
  have c1 : w.cell? ⟨b, 1, none⟩ = some iv := (St.refl H).cell 0 1 rfl rfl
  obtain ⟨S1, h1⟩ := H.get 1 rfl
  obtain ⟨ao, cap, rfl, hcap, hao⟩ := Off.shape h1
  have hpos : 0 < r.imgs.length := List.length_pos_iff.2 h0
  obtain ⟨g, o, rfl⟩ := hao (by omega)
  obtain ⟨k1, k2, k3⟩ := ix_mod n r.imgs.length hpos
  have hlt := ix_lt h0 n
  have hix : r.ix n = (n % (r.imgs.length : Int)).toNat := rfl
  rw [← hix] at k1
  have cj := Off.cell h1 hv
  obtain ⟨j, hj⟩ : ∃ j, r.ix n = j := ⟨_, rfl⟩
  rw [hj] at k1 hlt cj
  obtain ⟨K, hK⟩ : ∃ K, r.imgs.length = K := ⟨_, rfl⟩
  obtain ⟨t, ht⟩ : ∃ t, n.tmod (r.imgs.length : Int) = t := ⟨_, rfl⟩
  rw [ht] at k1 k2 k3
  rw [hK] at k1 k2 k3 hlt hroom hpos c1 ht
  have z0 : ((K : Int) == 0) = false := by simp; omega
  have z1 : IntKind.i64.wrap t = t := by rw [IntKind.wrap_i64]; omega
  have z2 : IntKind.i64.wrap (t + K) = t + K := by rw [IntKind.wrap_i64]; omega
  have z3 : IntKind.i64.wrap (j : Int) = (j : Int) := by rw [IntKind.wrap_i64]; omega
  have z4 : (j : Int) < (K : Int) := by omega
  clear h1 H k2 k3 hix hj hv
  go_enter Tryd.func53, Tryd.ntmps53
  go_upto_region 4 with (fail)
  go_region
  go_wp2
  go_ret2
  exact ⟨rfl, (Below.refl _ _).drew⟩

/-- A move, as a value. -/
def mvCells (v : Mv) (x : Value) : Array Value := #[.int .i64 v.kind, .int .i64 v.at', .int .i64 v.to, .int .i64 v.n, x]
theorem among_one {m : StM} {p : Int} (h : m.among p 1) : ∃ k : Nat, p = k ∧ k < m.last.length := by
  unfold StM.among at h
  exact ⟨p.toNat, by omega, by omega⟩
theorem take_one {l : List (List UInt8)} {p : Nat} (h : p < l.length) : (l.drop p).take 1 = [l.getD p []] := by
  rw [List.drop_eq_getElem_cons h, List.take_succ_cons, List.take_zero]
  simp [List.getD, List.getElem?_eq_getElem h]
/-- lay of bytes of the call's own. -/
theorem lay_row {b bs : Nat} {iv v1 : Value} {m : StM} (p : Nat) {n : Nat} {bks : List (List UInt8)} {w0 w : World} {rest : List SP} {S : Nat → Prop} (hg : m.Good) (hf : ∀ x ∈ bks, x.length = 128) (hp : p + bks.length ≤ m.last.length)
    (H : St S w0 w (RogB b bs iv :: StoreAt bs m :: Row 5 1 v1 n (bvs bks.flatten) :: rest)) :
    Calls Tryd.prog 27 #[.pointer (some ⟨b, 0, none⟩), .int .i64 p, v1] w fun e w' => e = .returned (.bool true) ∧ St S w0 w' (RogB b bs iv :: StoreAt bs (m.lays p bks) :: Row 5 1 v1 n (bvs bks.flatten) :: rest) := by
  obtain ⟨S1, K1, hS1, G1⟩ := St.lendAll (l1 := [RogB b bs iv, StoreAt bs m]) (rest := Row 5 1 v1 n (bvs bks.flatten) :: rest) H
  obtain ⟨S2, q1, q2⟩ := hS1 0 _ rfl
  exact (rogue_lay p hg hf hp (ro_row q1 q2) K1).mono fun e w2 ⟨he, h2⟩ => ⟨he, G1 _ _ h2⟩
theorem blocks_part {v : Value} {img : List (List UInt8)} {w0 w : World} {L : List SP} {S : Nat → Prop} (p m : Nat) (hf : ∀ x ∈ img, x.length = 128) (hN : img.length ≤ 4096) (hpm : p + m ≤ img.length) (hm : 0 < m) (hv : BytesRO (fun _ => False) w v img.flatten) (H : St S w0 w L) :
    Calls Tryd.prog 55 #[v, .int .i64 p, .int .i64 m] w fun e w' => ∃ v', e = .returned v' ∧ St S w0 w' (Row 5 1 v' (128 * m) (bvs ((img.drop p).take m).flatten) :: L) :=
  (rogue_blocks p m hf hN hpm hm hv).mono fun _ _ ⟨v', he, h⟩ => ⟨v', he, H.call0 h⟩
theorem in_part {b bs : Nat} {iv : Value} {m : StM} (at' n : Int) {w0 w : World} {L : List SP} {S : Nat → Prop} (hg : m.Good) {r : Bool} (hr : decide (m.among at' n) = r) (H : St S w0 w (RogB b bs iv :: StoreAt bs m :: L)) :
    Calls Tryd.prog 26 #[.pointer (some ⟨b, 0, none⟩), .int .i64 at', .int .i64 n] w fun e w' => e = .returned (.bool r) ∧ St S w0 w' (RogB b bs iv :: StoreAt bs m :: L) :=
  (rogue_in at' n hg H.sep).mono fun _ _ ⟨he, hw⟩ => ⟨by rw [he, hr], hw ▸ H⟩
set_option maxHeartbeats 4000000 in
set_option maxRecDepth 100000 in
theorem rogue_old {b bs : Nat} {iv : Value} {r : RogM} {vs : List Value} (v : Mv) (x : Value) {w : World} {S : Nat → Prop} (hg : r.Good) (hvs : vs.length = r.imgs.length) (hk : v.kind = 3 ∨ v.kind = 4) (H : Sep w [RogB b bs iv, StoreAt bs r.s, ImgR iv r.imgs vs, Pile ImgA vs r.imgs] S) :
    Calls Tryd.prog 29 #[.pointer (some ⟨b, 0, none⟩), .agg (mvCells v x)] w fun e w' => e = .returned (.bool (r.do v).1) ∧ St S w w' [RogB b bs iv, StoreAt bs (r.do v).2.s, ImgR iv r.imgs vs, Pile ImgA vs r.imgs] := by
  have hroom := hg.room
  have hgs := hg.s
  have hcnt := hgs.count
  obtain ⟨mb, hmb⟩ : ∃ g, w.heap.size = g := ⟨_, rfl⟩
  have HA : St S w _ [Blk mb (mvCells v x) 40, RogB b bs iv, StoreAt bs r.s, ImgR iv r.imgs vs, Pile ImgA vs r.imgs] := (St.refl H).allocAt hmb (mvCells v x) 40
  have d3 : (w.alloc (.cells (mvCells v x) 40)).cell? ⟨mb, 3, none⟩ = some (.int .i64 v.n) := HA.cell 0 3 rfl rfl
  by_cases h0 : r.imgs = []
  · have hfin : r.do v = (false, r) := by
      unfold RogM.do
      rcases hk with h | h <;> simp [h, h0]
    rw [hfin]
    obtain ⟨S1, h1⟩ := HA.sep.get 3 rfl
    obtain ⟨ao, cap, e1, _⟩ := Off.shape h1
    rw [h0] at e1
    subst e1
    have ki := rogue_image0 v.n (ao := ao) (cap := cap) (HA.pick [1, 0, 2]).sep
    clear hfin h1
    go_enter Tryd.func29, Tryd.ntmps29
    go_wp2_with (go_at_call 53; go_must (refine ki.mono ?_; rintro e w1 ⟨rfl, rfl⟩))
    go_ret
    exact ⟨rfl, HA.pick [1, 2, 3, 4]⟩
  · obtain ⟨vk, hvk⟩ : ∃ vk, vs[r.ix v.n]? = some vk := ⟨_, List.getElem?_eq_getElem (by rw [hvs]; exact ix_lt h0 v.n)⟩
    have ki := rogue_image v.n h0 hroom hvk (HA.pick [1, 3, 0, 2, 4]).sep
    have hat := img_at h0 v.n
    have hmem := hg.imgs _ (img_mem h0 v.n)
    obtain ⟨hil, hif⟩ := hmem
    have hfl : (r.img v.n).flatten.length = r.s.last.length * 128 := by rw [flat_len hif, hil]
    obtain ⟨y, hy⟩ : ∃ y, r.img v.n = y := ⟨_, rfl⟩
    have hro : ∀ (w' : World) (S1 : Nat → Prop), (Pile ImgA vs r.imgs).on w' S1 → ∃ S2 : Nat → Prop, (Row 5 1 vk (y.length * 128) (bvs y.flatten)).on w' S2 ∧ ∀ j, S2 j → S1 j := fun w' S1 h => Pile.at h hvk (by rw [hat, hy])
    obtain ⟨kind, at', tt, n, bb⟩ := v
    simp only at hk ki d3 hvk hy
    rw [hy] at hat hil hif hfl
    rcases hk with rfl | rfl
    · have d0 : ∀ {w'}, St S w w' [Blk mb (mvCells ⟨3, at', tt, n, bb⟩ x) 40, RogB b bs iv, StoreAt bs r.s, ImgR iv r.imgs vs, Pile ImgA vs r.imgs] → w'.cell? ⟨mb, 0, none⟩ = some (.int .i64 3) := fun h => h.cell 0 0 rfl rfl
      by_cases hin : r.s.among at' 1
      · obtain ⟨p, rfl, hp⟩ := among_one hin
        have hfin := Lib.hid (show r.do ⟨3, p, tt, n, bb⟩ = (true, r.put (r.s.lays p ((y.drop p).take 1))) by
          unfold RogM.do
          simp only [hy]
          rw [take_one (by omega)]
          simp [h0, hin])
        have hd : decide (r.s.among (p : Int) 1) = true := by simpa using hin
        have hw1 : ((y.drop p).take 1).length = 1 := by rw [List.length_take, List.length_drop]; omega
        have hf1 : ∀ x ∈ (y.drop p).take 1, x.length = 128 := fun x hx => hif x (List.mem_of_mem_drop (List.mem_of_mem_take hx))
        go_enter Tryd.func29, Tryd.ntmps29
        go_upto_region 6 with (go_at_call 53; go_must (refine (St.callPast ki HA).mono ?_; rintro e w1 ⟨rfl, H1⟩; clear d3; have d3 := d0 H1))
        refine wp_script [(0, false), (1, false), (2, false), (3, true), (4, false), (5, false), (6, false), (7, false), (8, false), (9, false), (10, false), (11, true), (12, true), (13, false), (14, false)] (Fam fun w' => St S w w' [Blk mb (mvCells ⟨3, p, tt, n, bb⟩ x) 40, RogB b bs iv]) (fun w' => St S w w' [Blk mb (mvCells ⟨3, p, tt, n, bb⟩ x) 40, RogB b bs iv, StoreAt bs r.s, ImgR iv r.imgs vs, Pile ImgA vs r.imgs]) (by kernel_rfl) (by rfl) (by kernel_rfl) (by kernel_rfl) H1.drew (Fam.st (fun _ h => h.pick [0, 1])) ?_
        clear d3
        iterate 3 first
          | (apply script_pass
             · rfl
             · rfl
             intro K hK
             go_simp
             refine hK _ ?_
             clear hK K)
          | (apply script_step
             · rfl
             · rfl
             · intro I hI w1 h1'
               have h1 := hI.2 _ h1'
               have d1 : w1.cell? ⟨mb, 1, none⟩ = some (.int .i64 p) := h1.cell 0 1 rfl rfl
               first
                 | (go_simp
                    first
                      | rfl
                      | exact ⟨rfl, h1'⟩
                   )
             intro K hK
             go_simp
             refine hK _ ?_
             clear hK K)
        refine script_alone rfl rfl ?_
        intro V hV w1 h1
        go_simp
        refine (in_part (p : Int) 1 hgs hd (h1.pick [1, 2, 0, 3, 4])).mono ?_
        rintro e w2 ⟨rfl, H2⟩
        refine ⟨_, rfl, fun w' => St S w w' [Blk mb (mvCells ⟨3, p, tt, n, bb⟩ x) 40, RogB b bs iv, StoreAt bs r.s, ImgR iv r.imgs vs, Pile ImgA vs r.imgs], hV _ _ _ (fun _ h => h) (Fam.st (fun _ h => h.pick [0, 1])) ?_, H2.pick [2, 0, 1, 3, 4]⟩
        intro K hK
        go_simp
        refine hK _ ?_
        clear hK K hV V
        clear H2 h1 w1 w2
        iterate 7 first
          | (apply script_pass
             · rfl
             · rfl
             intro K hK
             go_simp
             refine hK _ ?_
             clear hK K)
          | (apply script_step
             · rfl
             · rfl
             · intro I hI w1 h1'
               have h1 := hI.2 _ h1'
               have d1 : w1.cell? ⟨mb, 1, none⟩ = some (.int .i64 p) := h1.cell 0 1 rfl rfl
               first
                 | (go_simp
                    first
                      | rfl
                      | exact ⟨rfl, h1'⟩
                   )
             intro K hK
             go_simp
             refine hK _ ?_
             clear hK K)
        refine script_alone rfl rfl ?_
        intro V hV w1 h1
        go_simp
        obtain ⟨S1, q1⟩ := h1.sep.get 4 rfl
        obtain ⟨S3, q3, _⟩ := hro _ _ q1
        refine (blocks_part p 1 hif (by omega) (by omega) (by omega) (ro_row q3 (fun _ _ h => h)) h1).mono ?_
        rintro e w2 ⟨v1, rfl, H2⟩
        clear q3 q1
        refine ⟨_, rfl, fun w' => St S w w' [Row 5 1 v1 (128 * 1) (bvs ((y.drop p).take 1).flatten), Blk mb (mvCells ⟨3, p, tt, n, bb⟩ x) 40, RogB b bs iv, StoreAt bs r.s, ImgR iv r.imgs vs, Pile ImgA vs r.imgs], hV _ _ _ (fun _ h => h) (Fam.st (fun _ h => h.pick [1, 2])) ?_, H2⟩
        intro K hK
        go_simp
        refine hK _ ?_
        clear hK K hV V
        clear H2 h1 w1 w2
        refine script_alone rfl rfl ?_
        intro V hV w1 h1
        go_simp
        refine (lay_row p hgs hf1 (by omega) (h1.pick [2, 3, 0, 1, 4, 5])).mono ?_
        rintro e w2 ⟨rfl, H2⟩
        refine ⟨_, rfl, fun w' => St S w w' [RogB b bs iv, StoreAt bs (r.s.lays p ((y.drop p).take 1)), Row 5 1 v1 (128 * 1) (bvs ((y.drop p).take 1).flatten), Blk mb (mvCells ⟨3, p, tt, n, bb⟩ x) 40, ImgR iv r.imgs vs, Pile ImgA vs r.imgs], hV _ _ _ (fun _ h => h) (Fam.st (fun _ h => h.pick [3, 0])) ?_, H2⟩
        intro K hK
        go_simp
        refine hK _ ?_
        clear hK K hV V
        clear H2 h1 w1 w2
        iterate 2 first
          | (apply script_pass
             · rfl
             · rfl
             intro K hK
             go_simp
             refine hK _ ?_
             clear hK K)
          | (apply script_step
             · rfl
             · rfl
             · intro I hI w1 h1'
               have h1 := hI.2 _ h1'
               first
                 | (go_simp
                    first
                      | rfl
                      | exact ⟨rfl, h1'⟩
                   )
             intro K hK
             go_simp
             refine hK _ ?_
             clear hK K)
        refine script_nil ?_
        intro w9 H9
        go_wp2
        go_ret
        rw [hfin.out]
        exact ⟨rfl, H9.pick [0, 1, 4, 5]⟩
      · have hfin := Lib.hid (show r.do ⟨3, at', tt, n, bb⟩ = (false, r) by
          unfold RogM.do
          simp [hin])
        have hd : decide (r.s.among at' 1) = false := by simpa using hin
        go_enter Tryd.func29, Tryd.ntmps29
        go_upto_region 6 with (go_at_call 53; go_must (refine (St.callPast ki HA).mono ?_; rintro e w1 ⟨rfl, H1⟩; clear d3; have d3 := d0 H1))
        have H1' := H1.pick [1, 2, 0, 3, 4]
        clear d3
        refine wp_calm (fun w' => St S w w' [RogB b bs iv, StoreAt bs r.s, Blk mb (mvCells ⟨3, at', tt, n, bb⟩ x) 40, ImgR iv r.imgs vs, Pile ImgA vs r.imgs]) (by kernel_rfl) (by kernel_rfl) (H1'.drew) ?_
        iterate 15 first
          | (apply calm_pass
             · rfl
             intro K hK
             go_simp
             refine hK _ ?_
             clear hK K)
          | (apply calm_step
             · rfl
             · intro w1 h1
               have d1 : w1.cell? ⟨mb, 1, none⟩ = some (.int .i64 at') := h1.cell 2 1 rfl rfl
               first
                 | (go_simp
                    first
                      | rfl
                      | exact ⟨rfl, h1⟩
                      | (go_at_call 26; exact in_part at' 1 hgs hd h1)
                   )
             intro K hK
             go_simp
             refine hK _ ?_
             clear hK K)
        refine calm_nil ?_
        intro w9 H9
        go_wp2
        go_ret
        rw [hfin.out]
        exact ⟨rfl, H9.pick [0, 1, 3, 4]⟩
    · have hfin : r.do ⟨4, at', tt, n, bb⟩ = (true, r.put (r.s.load y.flatten).2) := by
        unfold RogM.do
        simp [h0, hy]
      have hld : (r.s.load y.flatten).1 = true := by unfold StM.load; rw [if_pos (by omega)]
      rw [hfin]
      have hp : (r.put (r.s.load y.flatten).2).s = (r.s.load y.flatten).2 := rfl
      rw [hp]
      clear hfin hp
      have d0 : (w.alloc (.cells (mvCells ⟨4, at', tt, n, bb⟩ x) 40)).cell? ⟨mb, 0, none⟩ = some (.int .i64 4) := HA.cell 0 0 rfl rfl
      have c0 : (w.alloc (.cells (mvCells ⟨4, at', tt, n, bb⟩ x) 40)).cell? ⟨b, 0, none⟩ = some (.pointer (some ⟨bs, 0, none⟩)) := HA.cell 1 0 rfl rfl
      have kl := fun (w' : World) (h : St S w w' [Blk mb (mvCells ⟨4, at', tt, n, bb⟩ x) 40, RogB b bs iv, StoreAt bs r.s, ImgR iv r.imgs vs, Pile ImgA vs r.imgs]) => show Calls Tryd.prog 54 #[.pointer (some ⟨bs, 0, none⟩), vk] w' fun e w2 => e = .returned (.bool true) ∧ St S w w2 [RogB b bs iv, StoreAt bs (r.s.load y.flatten).2, ImgR iv r.imgs vs, Pile ImgA vs r.imgs] by
        obtain ⟨S1, K1, hS1, G1⟩ := St.lendAll (l1 := [StoreAt bs r.s]) (rest := [RogB b bs iv, ImgR iv r.imgs vs, Pile ImgA vs r.imgs]) (h.pick [2, 1, 3, 4])
        obtain ⟨S2, q1, q2⟩ := hS1 2 _ rfl
        obtain ⟨S3, q3, q4⟩ := hro _ _ q1
        have hr := ro_row q3 (S := S1) (fun k hk => q2 k (q4 k hk))
        rw [← hld]
        exact (store_load hgs (by omega) hr K1).mono fun e w2 ⟨he, h2⟩ => ⟨he, (G1 _ _ h2).pick [1, 0, 2, 3]⟩
      go_enter Tryd.func29, Tryd.ntmps29
      go_wp2_with (first
        | (go_at_call 53; go_must (refine (St.callPast ki HA).mono ?_; rintro e w1 ⟨rfl, H1⟩; clear d0 c0 d3; have d0 : w1.cell? ⟨mb, 0, none⟩ = some (.int .i64 4) := H1.cell 0 0 rfl rfl; have c0 : w1.cell? ⟨b, 0, none⟩ = some (.pointer (some ⟨bs, 0, none⟩)) := H1.cell 1 0 rfl rfl))
        | (go_at_call 54; go_must (refine (kl _ H1).mono ?_; rintro e w2 ⟨rfl, H2⟩)))
      go_ret
      exact ⟨rfl, H2⟩

end Go.Proofs.YtaafedpjifaghaaDoor

/- The walk of the rogue: moved, kind 1. Conditions: its blocks lie as its maker lays them. (Printed by gen_rgf.py.) -/
set_option linter.unusedVariables false
set_option linter.unusedSimpArgs false
namespace Go.Proofs.YtaafedpjifaghaaDoor
open Go.RowKit

set_option maxHeartbeats 4000000 in
set_option maxRecDepth 100000 in
theorem rogue_moved1 {b bs : Nat} {iv : Value} {r : RogM} (at' tt n : Int) (bb : List UInt8) (x : Value) {w : World} {S : Nat → Prop} (hgs : r.s.Good) (H : Sep w [RogB b bs iv, StoreAt bs r.s] S) :
    Calls Tryd.prog 30 #[.pointer (some ⟨b, 0, none⟩), .agg (mvCells ⟨1, at', tt, n, bb⟩ x)] w fun e w' => e = .returned (.bool (r.do ⟨1, at', tt, n, bb⟩).1) ∧ St S w w' [RogB b bs iv, StoreAt bs (r.do ⟨1, at', tt, n, bb⟩).2.s] := by
  have hcnt := hgs.count
  have hif := hgs.full
  obtain ⟨mb, hmb⟩ : ∃ g, w.heap.size = g := ⟨_, rfl⟩
  have HA : St S w _ [Blk mb (mvCells ⟨1, at', tt, n, bb⟩ x) 40, RogB b bs iv, StoreAt bs r.s] := (St.refl H).allocAt hmb (mvCells ⟨1, at', tt, n, bb⟩ x) 40
  have c0 : (w.alloc (.cells (mvCells ⟨1, at', tt, n, bb⟩ x) 40)).cell? ⟨b, 0, none⟩ = some (.pointer (some ⟨bs, 0, none⟩)) := HA.cell 1 0 rfl rfl
  obtain ⟨S0, K0, G0⟩ := St.call (l1 := [StoreAt bs r.s]) (HA.pick [2, 0, 1])
  have ki := store_image hgs K0
  by_cases h1 : r.s.among at' 1
  · obtain ⟨p, rfl, hp⟩ := among_one h1
    have hd1 : decide (r.s.among (p : Int) 1) = true := by simpa using h1
    by_cases h2 : r.s.among tt 1
    · obtain ⟨q, rfl, hq⟩ := among_one h2
      have hd2 : decide (r.s.among (q : Int) 1) = true := by simpa using h2
      have eq : (r.s.last.drop q).take 1 = [r.s.blk q] := take_one hq
      have ep : (r.s.last.drop p).take 1 = [r.s.blk p] := take_one hp
      have hf1 : ∀ x ∈ (r.s.last.drop p).take 1, x.length = 128 := fun x hx => hif x (List.mem_of_mem_drop (List.mem_of_mem_take hx))
      have hf2 : ∀ x ∈ (r.s.last.drop q).take 1, x.length = 128 := fun x hx => hif x (List.mem_of_mem_drop (List.mem_of_mem_take hx))
      have hl1 : ((r.s.last.drop p).take 1).length = 1 := by rw [ep]; rfl
      have hl2 : ((r.s.last.drop q).take 1).length = 1 := by rw [eq]; rfl
      have hfin := Lib.hid (show r.do ⟨1, p, q, n, bb⟩ = (true, r.put ((r.s.lays p ((r.s.last.drop q).take 1)).lays q ((r.s.last.drop p).take 1))) by
        unfold RogM.do
        rw [ep, eq]
        simp [h1, h2])
      have hg1 := lays_good p ((r.s.last.drop q).take 1) r.s hgs
      have hll := lays_len p ((r.s.last.drop q).take 1) r.s
      clear h1 h2 ep eq
      go_enter Tryd.func30, Tryd.ntmps30
      go_upto_region 4 with (go_at_call 14; go_must (refine ki.mono ?_; rintro e w1 ⟨vI, rfl, H0⟩; have H1 : St S w w1 [Row 5 1 vI (r.s.last.length * 128) (bvs r.s.last.flatten), Blk mb (mvCells ⟨1, p, q, n, bb⟩ x) 40, RogB b bs iv, StoreAt bs r.s] := (G0 _ _ H0).pick [0, 2, 3, 1]; clear c0; have c0 : w1.cell? ⟨mb, 0, none⟩ = some (.int .i64 1) := H1.cell 1 0 rfl rfl))
      clear c0
      refine wp_script [(0, false), (1, false), (2, false), (3, true), (4, false), (5, false), (6, false), (7, false), (8, true), (9, false), (10, false), (11, false), (12, false), (13, false), (14, false), (15, false), (16, false), (17, true), (18, true), (19, false), (20, false), (21, false), (22, false), (23, false), (24, false), (25, false), (26, false), (27, true), (28, true), (29, false), (30, false)] (Fam fun w' => St S w w' [Blk mb (mvCells ⟨1, p, q, n, bb⟩ x) 40, RogB b bs iv]) (fun w' => St S w w' [Row 5 1 vI (r.s.last.length * 128) (bvs r.s.last.flatten), Blk mb (mvCells ⟨1, p, q, n, bb⟩ x) 40, RogB b bs iv, StoreAt bs r.s]) (by kernel_rfl) (by rfl) (by kernel_rfl) (by kernel_rfl) H1.drew (Fam.st (fun _ h => h.pick [1, 2])) ?_
      iterate 3 first
        | (apply script_pass
           · rfl
           · rfl
           intro K hK
           go_simp
           refine hK _ ?_
           clear hK K)
        | (apply script_step
           · rfl
           · rfl
           · intro I hI w1 h1'
             have h1 := hI.2 _ h1'
             have d1 : w1.cell? ⟨mb, 1, none⟩ = some (.int .i64 p) := h1.cell 0 1 rfl rfl
             have d2 : w1.cell? ⟨mb, 2, none⟩ = some (.int .i64 q) := h1.cell 0 2 rfl rfl
             have d3 : w1.cell? ⟨mb, 3, none⟩ = some (.int .i64 n) := h1.cell 0 3 rfl rfl
             first
               | (go_simp
                  first
                    | rfl
                    | exact ⟨rfl, h1'⟩
                 )
           intro K hK
           go_simp
           refine hK _ ?_
           clear hK K)
      refine script_alone rfl rfl ?_
      intro V hV w1 h1
      go_simp
      refine (in_part (p : Int) 1 hgs hd1 (h1.pick [2, 3, 0, 1])).mono ?_
      rintro e w2 ⟨rfl, H2⟩
      refine ⟨_, rfl, fun w' => St S w w' [Row 5 1 vI (r.s.last.length * 128) (bvs r.s.last.flatten), Blk mb (mvCells ⟨1, p, q, n, bb⟩ x) 40, RogB b bs iv, StoreAt bs r.s], hV _ _ _ (fun _ h => h) (Fam.st (fun _ h => h.pick [1, 2])) ?_, H2.pick [2, 3, 0, 1]⟩
      intro K hK
      go_simp
      refine hK _ ?_
      clear hK K hV V
      clear H2 h1 w1 w2
      iterate 4 first
        | (apply script_pass
           · rfl
           · rfl
           intro K hK
           go_simp
           refine hK _ ?_
           clear hK K)
        | (apply script_step
           · rfl
           · rfl
           · intro I hI w1 h1'
             have h1 := hI.2 _ h1'
             have d1 : w1.cell? ⟨mb, 1, none⟩ = some (.int .i64 p) := h1.cell 0 1 rfl rfl
             have d2 : w1.cell? ⟨mb, 2, none⟩ = some (.int .i64 q) := h1.cell 0 2 rfl rfl
             have d3 : w1.cell? ⟨mb, 3, none⟩ = some (.int .i64 n) := h1.cell 0 3 rfl rfl
             first
               | (go_simp
                  first
                    | rfl
                    | exact ⟨rfl, h1'⟩
                 )
           intro K hK
           go_simp
           refine hK _ ?_
           clear hK K)
      refine script_alone rfl rfl ?_
      intro V hV w1 h1
      go_simp
      refine (in_part (q : Int) 1 hgs hd2 (h1.pick [2, 3, 0, 1])).mono ?_
      rintro e w2 ⟨rfl, H2⟩
      refine ⟨_, rfl, fun w' => St S w w' [Row 5 1 vI (r.s.last.length * 128) (bvs r.s.last.flatten), Blk mb (mvCells ⟨1, p, q, n, bb⟩ x) 40, RogB b bs iv, StoreAt bs r.s], hV _ _ _ (fun _ h => h) (Fam.st (fun _ h => h.pick [1, 2])) ?_, H2.pick [2, 3, 0, 1]⟩
      intro K hK
      go_simp
      refine hK _ ?_
      clear hK K hV V
      clear H2 h1 w1 w2
      iterate 8 first
        | (apply script_pass
           · rfl
           · rfl
           intro K hK
           go_simp
           refine hK _ ?_
           clear hK K)
        | (apply script_step
           · rfl
           · rfl
           · intro I hI w1 h1'
             have h1 := hI.2 _ h1'
             have d1 : w1.cell? ⟨mb, 1, none⟩ = some (.int .i64 p) := h1.cell 0 1 rfl rfl
             have d2 : w1.cell? ⟨mb, 2, none⟩ = some (.int .i64 q) := h1.cell 0 2 rfl rfl
             have d3 : w1.cell? ⟨mb, 3, none⟩ = some (.int .i64 n) := h1.cell 0 3 rfl rfl
             first
               | (go_simp
                  first
                    | rfl
                    | exact ⟨rfl, h1'⟩
                 )
           intro K hK
           go_simp
           refine hK _ ?_
           clear hK K)
      refine script_alone rfl rfl ?_
      intro V hV w1 h1
      go_simp
      obtain ⟨S1, q1⟩ := h1.sep.get 0 rfl
      refine (blocks_part q 1 hif (by omega) (by omega) (by omega) (ro_row q1 (fun _ _ h => h)) h1).mono ?_
      rintro e w2 ⟨v1, rfl, H2⟩
      clear q1
      refine ⟨_, rfl, fun w' => St S w w' [Row 5 1 v1 (128 * 1) (bvs ((r.s.last.drop q).take 1).flatten), Row 5 1 vI (r.s.last.length * 128) (bvs r.s.last.flatten), Blk mb (mvCells ⟨1, p, q, n, bb⟩ x) 40, RogB b bs iv, StoreAt bs r.s], hV _ _ _ (fun _ h => h) (Fam.st (fun _ h => h.pick [2, 3])) ?_, H2⟩
      intro K hK
      go_simp
      refine hK _ ?_
      clear hK K hV V
      clear H2 h1 w1 w2
      refine script_alone rfl rfl ?_
      intro V hV w1 h1
      go_simp
      refine (lay_row p hgs hf2 (by omega) (h1.pick [3, 4, 0, 1, 2])).mono ?_
      rintro e w2 ⟨rfl, H2⟩
      refine ⟨_, rfl, fun w' => St S w w' [Row 5 1 vI (r.s.last.length * 128) (bvs r.s.last.flatten), Blk mb (mvCells ⟨1, p, q, n, bb⟩ x) 40, RogB b bs iv, StoreAt bs (r.s.lays p ((r.s.last.drop q).take 1))], hV _ _ _ (fun _ h => h) (Fam.st (fun _ h => h.pick [1, 2])) ?_, H2.pick [3, 4, 0, 1]⟩
      intro K hK
      go_simp
      refine hK _ ?_
      clear hK K hV V
      clear H2 h1 w1 w2
      iterate 8 first
        | (apply script_pass
           · rfl
           · rfl
           intro K hK
           go_simp
           refine hK _ ?_
           clear hK K)
        | (apply script_step
           · rfl
           · rfl
           · intro I hI w1 h1'
             have h1 := hI.2 _ h1'
             have d1 : w1.cell? ⟨mb, 1, none⟩ = some (.int .i64 p) := h1.cell 0 1 rfl rfl
             have d2 : w1.cell? ⟨mb, 2, none⟩ = some (.int .i64 q) := h1.cell 0 2 rfl rfl
             have d3 : w1.cell? ⟨mb, 3, none⟩ = some (.int .i64 n) := h1.cell 0 3 rfl rfl
             first
               | (go_simp
                  first
                    | rfl
                    | exact ⟨rfl, h1'⟩
                 )
           intro K hK
           go_simp
           refine hK _ ?_
           clear hK K)
      refine script_alone rfl rfl ?_
      intro V hV w1 h1
      go_simp
      obtain ⟨S1, q1⟩ := h1.sep.get 0 rfl
      refine (blocks_part p 1 hif (by omega) (by omega) (by omega) (ro_row q1 (fun _ _ h => h)) h1).mono ?_
      rintro e w2 ⟨v2, rfl, H2⟩
      clear q1
      refine ⟨_, rfl, fun w' => St S w w' [Row 5 1 v2 (128 * 1) (bvs ((r.s.last.drop p).take 1).flatten), Row 5 1 vI (r.s.last.length * 128) (bvs r.s.last.flatten), Blk mb (mvCells ⟨1, p, q, n, bb⟩ x) 40, RogB b bs iv, StoreAt bs (r.s.lays p ((r.s.last.drop q).take 1))], hV _ _ _ (fun _ h => h) (Fam.st (fun _ h => h.pick [2, 3])) ?_, H2⟩
      intro K hK
      go_simp
      refine hK _ ?_
      clear hK K hV V
      clear H2 h1 w1 w2
      refine script_alone rfl rfl ?_
      intro V hV w1 h1
      go_simp
      refine (lay_row q hg1 hf1 (by omega) (h1.pick [3, 4, 0, 1, 2])).mono ?_
      rintro e w2 ⟨rfl, H2⟩
      refine ⟨_, rfl, fun w' => St S w w' [Row 5 1 vI (r.s.last.length * 128) (bvs r.s.last.flatten), Blk mb (mvCells ⟨1, p, q, n, bb⟩ x) 40, RogB b bs iv, StoreAt bs ((r.s.lays p ((r.s.last.drop q).take 1)).lays q ((r.s.last.drop p).take 1))], hV _ _ _ (fun _ h => h) (Fam.st (fun _ h => h.pick [1, 2])) ?_, H2.pick [3, 4, 0, 1]⟩
      intro K hK
      go_simp
      refine hK _ ?_
      clear hK K hV V
      clear H2 h1 w1 w2
      iterate 2 first
        | (apply script_pass
           · rfl
           · rfl
           intro K hK
           go_simp
           refine hK _ ?_
           clear hK K)
        | (apply script_step
           · rfl
           · rfl
           · intro I hI w1 h1'
             have h1 := hI.2 _ h1'
             have d1 : w1.cell? ⟨mb, 1, none⟩ = some (.int .i64 p) := h1.cell 0 1 rfl rfl
             have d2 : w1.cell? ⟨mb, 2, none⟩ = some (.int .i64 q) := h1.cell 0 2 rfl rfl
             have d3 : w1.cell? ⟨mb, 3, none⟩ = some (.int .i64 n) := h1.cell 0 3 rfl rfl
             first
               | (go_simp
                  first
                    | rfl
                    | exact ⟨rfl, h1'⟩
                 )
           intro K hK
           go_simp
           refine hK _ ?_
           clear hK K)
      refine script_nil ?_
      intro w9 H9
      go_wp2
      go_ret
      rw [hfin.out]
      exact ⟨rfl, H9.pick [2, 3]⟩
    · have hd2 : decide (r.s.among tt 1) = false := by simpa using h2
      have hfin := Lib.hid (show r.do ⟨1, p, tt, n, bb⟩ = (false, r) by
        unfold RogM.do
        simp [h2])
      clear h1 h2
      go_enter Tryd.func30, Tryd.ntmps30
      go_upto_region 4 with (go_at_call 14; go_must (refine ki.mono ?_; rintro e w1 ⟨vI, rfl, H0⟩; have H1 : St S w w1 [Row 5 1 vI (r.s.last.length * 128) (bvs r.s.last.flatten), Blk mb (mvCells ⟨1, p, tt, n, bb⟩ x) 40, RogB b bs iv, StoreAt bs r.s] := (G0 _ _ H0).pick [0, 2, 3, 1]; clear c0; have c0 : w1.cell? ⟨mb, 0, none⟩ = some (.int .i64 1) := H1.cell 1 0 rfl rfl))
      clear c0
      have H1' := H1.pick [2, 3, 0, 1]
      refine wp_calm (fun w' => St S w w' [RogB b bs iv, StoreAt bs r.s, Row 5 1 vI (r.s.last.length * 128) (bvs r.s.last.flatten), Blk mb (mvCells ⟨1, p, tt, n, bb⟩ x) 40]) (by kernel_rfl) (by kernel_rfl) (H1'.drew) ?_
      iterate 31 first
        | (apply calm_pass
           · rfl
           intro K hK
           go_simp
           refine hK _ ?_
           clear hK K)
        | (apply calm_step
           · rfl
           · intro w1 h1
             have d1 : w1.cell? ⟨mb, 1, none⟩ = some (.int .i64 p) := h1.cell 3 1 rfl rfl
             have d2 : w1.cell? ⟨mb, 2, none⟩ = some (.int .i64 tt) := h1.cell 3 2 rfl rfl
             have d3 : w1.cell? ⟨mb, 3, none⟩ = some (.int .i64 n) := h1.cell 3 3 rfl rfl
             first
               | (go_simp
                  first
                    | rfl
                    | exact ⟨rfl, h1⟩
                    | (go_at_call 26; with_reducible exact in_part (p : Int) 1 hgs hd1 h1)
                    | (go_at_call 26; with_reducible exact in_part tt 1 hgs hd2 h1)
                 )
           intro K hK
           go_simp
           refine hK _ ?_
           clear hK K)
      refine calm_nil ?_
      intro w9 H9
      go_wp2
      go_ret
      rw [hfin.out]
      exact ⟨rfl, H9.pick [0, 1]⟩
  · have hd1 : decide (r.s.among at' 1) = false := by simpa using h1
    have hfin := Lib.hid (show r.do ⟨1, at', tt, n, bb⟩ = (false, r) by
      unfold RogM.do
      simp [h1])
    clear h1
    go_enter Tryd.func30, Tryd.ntmps30
    go_upto_region 4 with (go_at_call 14; go_must (refine ki.mono ?_; rintro e w1 ⟨vI, rfl, H0⟩; have H1 : St S w w1 [Row 5 1 vI (r.s.last.length * 128) (bvs r.s.last.flatten), Blk mb (mvCells ⟨1, at', tt, n, bb⟩ x) 40, RogB b bs iv, StoreAt bs r.s] := (G0 _ _ H0).pick [0, 2, 3, 1]; clear c0; have c0 : w1.cell? ⟨mb, 0, none⟩ = some (.int .i64 1) := H1.cell 1 0 rfl rfl))
    clear c0
    have H1' := H1.pick [2, 3, 0, 1]
    refine wp_calm (fun w' => St S w w' [RogB b bs iv, StoreAt bs r.s, Row 5 1 vI (r.s.last.length * 128) (bvs r.s.last.flatten), Blk mb (mvCells ⟨1, at', tt, n, bb⟩ x) 40]) (by kernel_rfl) (by kernel_rfl) (H1'.drew) ?_
    iterate 31 first
      | (apply calm_pass
         · rfl
         intro K hK
         go_simp
         refine hK _ ?_
         clear hK K)
      | (apply calm_step
         · rfl
         · intro w1 h1
           have d1 : w1.cell? ⟨mb, 1, none⟩ = some (.int .i64 at') := h1.cell 3 1 rfl rfl
           have d2 : w1.cell? ⟨mb, 2, none⟩ = some (.int .i64 tt) := h1.cell 3 2 rfl rfl
           have d3 : w1.cell? ⟨mb, 3, none⟩ = some (.int .i64 n) := h1.cell 3 3 rfl rfl
           first
             | (go_simp
                first
                  | rfl
                  | exact ⟨rfl, h1⟩
                  | (go_at_call 26; with_reducible exact in_part at' 1 hgs hd1 h1)
               )
         intro K hK
         go_simp
         refine hK _ ?_
         clear hK K)
    refine calm_nil ?_
    intro w9 H9
    go_wp2
    go_ret
    rw [hfin.out]
    exact ⟨rfl, H9.pick [0, 1]⟩
end Go.Proofs.YtaafedpjifaghaaDoor

/- The walk of the rogue: moved, kind 5. Conditions: its blocks lie as its maker lays them. (Printed by gen_rgf.py.) -/
set_option linter.unusedVariables false
set_option linter.unusedSimpArgs false
namespace Go.Proofs.YtaafedpjifaghaaDoor
open Go.RowKit

set_option maxHeartbeats 4000000 in
set_option maxRecDepth 100000 in
theorem rogue_moved5 {b bs : Nat} {iv : Value} {r : RogM} (at' tt n : Int) (bb : List UInt8) (x : Value) {w : World} {S : Nat → Prop} (hgs : r.s.Good) (H : Sep w [RogB b bs iv, StoreAt bs r.s] S) :
    Calls Tryd.prog 30 #[.pointer (some ⟨b, 0, none⟩), .agg (mvCells ⟨5, at', tt, n, bb⟩ x)] w fun e w' => e = .returned (.bool (r.do ⟨5, at', tt, n, bb⟩).1) ∧ St S w w' [RogB b bs iv, StoreAt bs (r.do ⟨5, at', tt, n, bb⟩).2.s] := by
  have hcnt := hgs.count
  have hif := hgs.full
  obtain ⟨mb, hmb⟩ : ∃ g, w.heap.size = g := ⟨_, rfl⟩
  have HA : St S w _ [Blk mb (mvCells ⟨5, at', tt, n, bb⟩ x) 40, RogB b bs iv, StoreAt bs r.s] := (St.refl H).allocAt hmb (mvCells ⟨5, at', tt, n, bb⟩ x) 40
  have c0 : (w.alloc (.cells (mvCells ⟨5, at', tt, n, bb⟩ x) 40)).cell? ⟨b, 0, none⟩ = some (.pointer (some ⟨bs, 0, none⟩)) := HA.cell 1 0 rfl rfl
  obtain ⟨S0, K0, G0⟩ := St.call (l1 := [StoreAt bs r.s]) (HA.pick [2, 0, 1])
  have ki := store_image hgs K0
  by_cases h1 : r.s.among at' 1
  · obtain ⟨p, rfl, hp⟩ := among_one h1
    have hd1 : decide (r.s.among (p : Int) 1) = true := by simpa using h1
    by_cases h2 : 0 ≤ n
    · have hd2 : decide (0 ≤ n) = true := by simpa using h2
      by_cases h3 : n ≤ 1023
      · obtain ⟨q, rfl⟩ := Int.eq_ofNat_of_zero_le h2
        have hd3 : decide ((q : Int) < 1024) = true := by simp; omega
        have hd4 : (q : Int) < 1024 := by omega
        have hq : q < 1024 := by omega
        have ep : (r.s.last.drop p).take 1 = [r.s.blk p] := take_one hp
        have hbl : (r.s.blk p).length = 128 := blk_len hgs h1
        have hfl : [turnBit (r.s.blk p) q].flatten = turnBit (r.s.blk p) q := by simp
        have hfp : [r.s.blk p].flatten = r.s.blk p := by simp
        have hf1 : ∀ x ∈ [turnBit (r.s.blk p) q], x.length = 128 := fun x hx => by rw [List.mem_singleton.1 hx, turn_len, hbl]
        have hfin := Lib.hid (show r.do ⟨5, p, tt, q, bb⟩ = (true, r.put (r.s.lays p [turnBit (r.s.blk p) q])) by
          unfold RogM.do
          simp [h1, h3])
        have hN : p + [turnBit (r.s.blk p) q].length ≤ r.s.last.length := by simp; omega
        clear h1 h2 h3
        go_enter Tryd.func30, Tryd.ntmps30
        go_upto_region 8 with (go_at_call 14; go_must (refine ki.mono ?_; rintro e w1 ⟨vI, rfl, H0⟩; have H1 : St S w w1 [Row 5 1 vI (r.s.last.length * 128) (bvs r.s.last.flatten), Blk mb (mvCells ⟨5, p, tt, q, bb⟩ x) 40, RogB b bs iv, StoreAt bs r.s] := (G0 _ _ H0).pick [0, 2, 3, 1]; clear c0; have c0 : w1.cell? ⟨mb, 0, none⟩ = some (.int .i64 5) := H1.cell 1 0 rfl rfl))
        clear c0
        refine wp_script [(0, false), (1, false), (2, false), (3, true), (4, false), (5, false), (6, false), (7, false), (8, false), (9, false), (10, false), (11, false), (12, false), (13, false), (14, false), (15, false), (16, false), (17, false), (18, false), (19, false), (20, false), (22, false), (23, false), (21, true), (24, true), (25, true), (26, false), (27, false)] (Fam fun w' => St S w w' [Blk mb (mvCells ⟨5, p, tt, q, bb⟩ x) 40, RogB b bs iv]) (fun w' => St S w w' [Row 5 1 vI (r.s.last.length * 128) (bvs r.s.last.flatten), Blk mb (mvCells ⟨5, p, tt, q, bb⟩ x) 40, RogB b bs iv, StoreAt bs r.s]) (by kernel_rfl) (by rfl) (by kernel_rfl) (by kernel_rfl) H1.drew (Fam.st (fun _ h => h.pick [1, 2])) ?_
        iterate 3 first
          | (apply script_pass
             · rfl
             · rfl
             intro K hK
             go_simp
             refine hK _ ?_
             clear hK K)
          | (apply script_step
             · rfl
             · rfl
             · intro I hI w1 h1'
               have h1 := hI.2 _ h1'
               have d1 : w1.cell? ⟨mb, 1, none⟩ = some (.int .i64 p) := h1.cell 0 1 rfl rfl
               have d2 : w1.cell? ⟨mb, 2, none⟩ = some (.int .i64 tt) := h1.cell 0 2 rfl rfl
               have d3 : w1.cell? ⟨mb, 3, none⟩ = some (.int .i64 q) := h1.cell 0 3 rfl rfl
               first
                 | (go_simp
                    first
                      | rfl
                      | exact ⟨rfl, h1'⟩
                   )
             intro K hK
             go_simp
             refine hK _ ?_
             clear hK K)
        refine script_alone rfl rfl ?_
        intro V hV w1 h1
        go_simp
        refine (in_part (p : Int) 1 hgs hd1 (h1.pick [2, 3, 0, 1])).mono ?_
        rintro e w2 ⟨rfl, H2⟩
        refine ⟨_, rfl, fun w' => St S w w' [Row 5 1 vI (r.s.last.length * 128) (bvs r.s.last.flatten), Blk mb (mvCells ⟨5, p, tt, q, bb⟩ x) 40, RogB b bs iv, StoreAt bs r.s], hV _ _ _ (fun _ h => h) (Fam.st (fun _ h => h.pick [1, 2])) ?_, H2.pick [2, 3, 0, 1]⟩
        intro K hK
        go_simp
        refine hK _ ?_
        clear hK K hV V
        clear H2 h1 w1 w2
        iterate 19 first
          | (apply script_pass
             · rfl
             · rfl
             intro K hK
             go_simp
             refine hK _ ?_
             clear hK K)
          | (apply script_step
             · rfl
             · rfl
             · intro I hI w1 h1'
               have h1 := hI.2 _ h1'
               have d1 : w1.cell? ⟨mb, 1, none⟩ = some (.int .i64 p) := h1.cell 0 1 rfl rfl
               have d2 : w1.cell? ⟨mb, 2, none⟩ = some (.int .i64 tt) := h1.cell 0 2 rfl rfl
               have d3 : w1.cell? ⟨mb, 3, none⟩ = some (.int .i64 q) := h1.cell 0 3 rfl rfl
               first
                 | (go_simp
                    first
                      | rfl
                      | exact ⟨rfl, h1'⟩
                   )
             intro K hK
             go_simp
             refine hK _ ?_
             clear hK K)
        refine script_alone rfl rfl ?_
        intro V hV w1 h1
        go_simp
        obtain ⟨S1, q1⟩ := h1.sep.get 0 rfl
        refine (blocks_part p 1 hif (by omega) (by omega) (by omega) (ro_row q1 (fun _ _ h => h)) h1).mono ?_
        rintro e w2 ⟨v1, rfl, H2⟩
        rw [ep, hfp] at H2
        have H3 : St S w w2 [Row 5 1 v1 128 (bvs (r.s.blk p)), Row 5 1 vI (r.s.last.length * 128) (bvs r.s.last.flatten), Blk mb (mvCells ⟨5, p, tt, q, bb⟩ x) 40, RogB b bs iv, StoreAt bs r.s] := H2
        clear q1
        refine ⟨_, rfl, fun w' => St S w w' [Row 5 1 v1 128 (bvs (r.s.blk p)), Row 5 1 vI (r.s.last.length * 128) (bvs r.s.last.flatten), Blk mb (mvCells ⟨5, p, tt, q, bb⟩ x) 40, RogB b bs iv, StoreAt bs r.s], hV _ _ _ (fun _ h => h) (Fam.st (fun _ h => h.pick [2, 3])) ?_, H3⟩
        intro K hK
        go_simp
        refine hK _ ?_
        clear hK K hV V
        clear H2 H3 h1 w1 w2
        refine script_alone rfl rfl ?_
        intro V hV w1 h1
        go_simp
        obtain ⟨S1, K1, G1⟩ := St.call (l1 := [_]) h1
        refine (rogue_turned q hq hbl K1).mono ?_
        rintro e w2 ⟨rfl, H2⟩
        refine ⟨_, rfl, fun w' => St S w w' [Row 5 1 v1 128 (bvs (turnBit (r.s.blk p) q)), Row 5 1 vI (r.s.last.length * 128) (bvs r.s.last.flatten), Blk mb (mvCells ⟨5, p, tt, q, bb⟩ x) 40, RogB b bs iv, StoreAt bs r.s], hV _ _ _ (fun _ h => h) (Fam.st (fun _ h => h.pick [2, 3])) ?_, G1 _ _ H2⟩
        intro K hK
        go_simp
        refine hK _ ?_
        clear hK K hV V
        clear G1 K1 H2 h1 S1 w1 w2
        refine script_alone rfl rfl ?_
        intro V hV w1 h1
        go_simp
        refine (lay_row p hgs hf1 hN (n := 128) (v1 := v1) (rest := [Row 5 1 vI (r.s.last.length * 128) (bvs r.s.last.flatten), Blk mb (mvCells ⟨5, p, tt, q, bb⟩ x) 40]) (by rw [hfl]; exact h1.pick [3, 4, 0, 1, 2])).mono ?_
        rintro e w2 ⟨rfl, H5⟩
        have H4 : St S w w2 [RogB b bs iv, StoreAt bs (r.s.lays p [turnBit (r.s.blk p) q]), Row 5 1 v1 128 (bvs [turnBit (r.s.blk p) q].flatten), Row 5 1 vI (r.s.last.length * 128) (bvs r.s.last.flatten), Blk mb (mvCells ⟨5, p, tt, q, bb⟩ x) 40] := H5
        refine ⟨_, rfl, fun w' => St S w w' [Row 5 1 vI (r.s.last.length * 128) (bvs r.s.last.flatten), Blk mb (mvCells ⟨5, p, tt, q, bb⟩ x) 40, RogB b bs iv, StoreAt bs (r.s.lays p [turnBit (r.s.blk p) q])], hV _ _ _ (fun _ h => h) (Fam.st (fun _ h => h.pick [1, 2])) ?_, H4.pick [3, 4, 0, 1]⟩
        intro K hK
        go_simp
        refine hK _ ?_
        clear hK K hV V
        clear H4 H5 h1 w1 w2
        iterate 2 first
          | (apply script_pass
             · rfl
             · rfl
             intro K hK
             go_simp
             refine hK _ ?_
             clear hK K)
          | (apply script_step
             · rfl
             · rfl
             · intro I hI w1 h1'
               have h1 := hI.2 _ h1'
               have d1 : w1.cell? ⟨mb, 1, none⟩ = some (.int .i64 p) := h1.cell 0 1 rfl rfl
               have d2 : w1.cell? ⟨mb, 2, none⟩ = some (.int .i64 tt) := h1.cell 0 2 rfl rfl
               have d3 : w1.cell? ⟨mb, 3, none⟩ = some (.int .i64 q) := h1.cell 0 3 rfl rfl
               first
                 | (go_simp
                    first
                      | rfl
                      | exact ⟨rfl, h1'⟩
                   )
             intro K hK
             go_simp
             refine hK _ ?_
             clear hK K)
        refine script_nil ?_
        intro w9 H9
        go_wp2
        go_ret
        rw [hfin.out]
        exact ⟨rfl, H9.pick [2, 3]⟩
      · have hd3 : decide (n < 1024) = false := by simp; omega
        have hfin := Lib.hid (show r.do ⟨5, p, tt, n, bb⟩ = (false, r) by
          unfold RogM.do
          simp [h3])
        clear h1 h2 h3
        go_enter Tryd.func30, Tryd.ntmps30
        go_upto_region 8 with (go_at_call 14; go_must (refine ki.mono ?_; rintro e w1 ⟨vI, rfl, H0⟩; have H1 : St S w w1 [Row 5 1 vI (r.s.last.length * 128) (bvs r.s.last.flatten), Blk mb (mvCells ⟨5, p, tt, n, bb⟩ x) 40, RogB b bs iv, StoreAt bs r.s] := (G0 _ _ H0).pick [0, 2, 3, 1]; clear c0; have c0 : w1.cell? ⟨mb, 0, none⟩ = some (.int .i64 5) := H1.cell 1 0 rfl rfl))
        clear c0
        have H1' := H1.pick [2, 3, 0, 1]
        refine wp_calm (fun w' => St S w w' [RogB b bs iv, StoreAt bs r.s, Row 5 1 vI (r.s.last.length * 128) (bvs r.s.last.flatten), Blk mb (mvCells ⟨5, p, tt, n, bb⟩ x) 40]) (by kernel_rfl) (by kernel_rfl) (H1'.drew) ?_
        iterate 28 first
          | (apply calm_pass
             · rfl
             intro K hK
             go_simp
             refine hK _ ?_
             clear hK K)
          | (apply calm_step
             · rfl
             · intro w1 h1
               have d1 : w1.cell? ⟨mb, 1, none⟩ = some (.int .i64 p) := h1.cell 3 1 rfl rfl
               have d2 : w1.cell? ⟨mb, 2, none⟩ = some (.int .i64 tt) := h1.cell 3 2 rfl rfl
               have d3 : w1.cell? ⟨mb, 3, none⟩ = some (.int .i64 n) := h1.cell 3 3 rfl rfl
               first
                 | (go_simp
                    first
                      | rfl
                      | exact ⟨rfl, h1⟩
                      | (go_at_call 26; with_reducible exact in_part (p : Int) 1 hgs hd1 h1)
                   )
             intro K hK
             go_simp
             refine hK _ ?_
             clear hK K)
        refine calm_nil ?_
        intro w9 H9
        go_wp2
        go_ret
        rw [hfin.out]
        exact ⟨rfl, H9.pick [0, 1]⟩
    · have hd2 : decide (0 ≤ n) = false := by simpa using h2
      have hfin := Lib.hid (show r.do ⟨5, p, tt, n, bb⟩ = (false, r) by
        unfold RogM.do
        simp [h2])
      clear h1 h2
      go_enter Tryd.func30, Tryd.ntmps30
      go_upto_region 8 with (go_at_call 14; go_must (refine ki.mono ?_; rintro e w1 ⟨vI, rfl, H0⟩; have H1 : St S w w1 [Row 5 1 vI (r.s.last.length * 128) (bvs r.s.last.flatten), Blk mb (mvCells ⟨5, p, tt, n, bb⟩ x) 40, RogB b bs iv, StoreAt bs r.s] := (G0 _ _ H0).pick [0, 2, 3, 1]; clear c0; have c0 : w1.cell? ⟨mb, 0, none⟩ = some (.int .i64 5) := H1.cell 1 0 rfl rfl))
      clear c0
      have H1' := H1.pick [2, 3, 0, 1]
      refine wp_calm (fun w' => St S w w' [RogB b bs iv, StoreAt bs r.s, Row 5 1 vI (r.s.last.length * 128) (bvs r.s.last.flatten), Blk mb (mvCells ⟨5, p, tt, n, bb⟩ x) 40]) (by kernel_rfl) (by kernel_rfl) (H1'.drew) ?_
      iterate 28 first
        | (apply calm_pass
           · rfl
           intro K hK
           go_simp
           refine hK _ ?_
           clear hK K)
        | (apply calm_step
           · rfl
           · intro w1 h1
             have d1 : w1.cell? ⟨mb, 1, none⟩ = some (.int .i64 p) := h1.cell 3 1 rfl rfl
             have d2 : w1.cell? ⟨mb, 2, none⟩ = some (.int .i64 tt) := h1.cell 3 2 rfl rfl
             have d3 : w1.cell? ⟨mb, 3, none⟩ = some (.int .i64 n) := h1.cell 3 3 rfl rfl
             first
               | (go_simp
                  first
                    | rfl
                    | exact ⟨rfl, h1⟩
                    | (go_at_call 26; with_reducible exact in_part (p : Int) 1 hgs hd1 h1)
                 )
           intro K hK
           go_simp
           refine hK _ ?_
           clear hK K)
      refine calm_nil ?_
      intro w9 H9
      go_wp2
      go_ret
      rw [hfin.out]
      exact ⟨rfl, H9.pick [0, 1]⟩
  · have hd1 : decide (r.s.among at' 1) = false := by simpa using h1
    have hfin := Lib.hid (show r.do ⟨5, at', tt, n, bb⟩ = (false, r) by
      unfold RogM.do
      simp [h1])
    clear h1
    go_enter Tryd.func30, Tryd.ntmps30
    go_upto_region 8 with (go_at_call 14; go_must (refine ki.mono ?_; rintro e w1 ⟨vI, rfl, H0⟩; have H1 : St S w w1 [Row 5 1 vI (r.s.last.length * 128) (bvs r.s.last.flatten), Blk mb (mvCells ⟨5, at', tt, n, bb⟩ x) 40, RogB b bs iv, StoreAt bs r.s] := (G0 _ _ H0).pick [0, 2, 3, 1]; clear c0; have c0 : w1.cell? ⟨mb, 0, none⟩ = some (.int .i64 5) := H1.cell 1 0 rfl rfl))
    clear c0
    have H1' := H1.pick [2, 3, 0, 1]
    refine wp_calm (fun w' => St S w w' [RogB b bs iv, StoreAt bs r.s, Row 5 1 vI (r.s.last.length * 128) (bvs r.s.last.flatten), Blk mb (mvCells ⟨5, at', tt, n, bb⟩ x) 40]) (by kernel_rfl) (by kernel_rfl) (H1'.drew) ?_
    iterate 28 first
      | (apply calm_pass
         · rfl
         intro K hK
         go_simp
         refine hK _ ?_
         clear hK K)
      | (apply calm_step
         · rfl
         · intro w1 h1
           have d1 : w1.cell? ⟨mb, 1, none⟩ = some (.int .i64 at') := h1.cell 3 1 rfl rfl
           have d2 : w1.cell? ⟨mb, 2, none⟩ = some (.int .i64 tt) := h1.cell 3 2 rfl rfl
           have d3 : w1.cell? ⟨mb, 3, none⟩ = some (.int .i64 n) := h1.cell 3 3 rfl rfl
           first
             | (go_simp
                first
                  | rfl
                  | exact ⟨rfl, h1⟩
                  | (go_at_call 26; with_reducible exact in_part at' 1 hgs hd1 h1)
               )
         intro K hK
         go_simp
         refine hK _ ?_
         clear hK K)
    refine calm_nil ?_
    intro w9 H9
    go_wp2
    go_ret
    rw [hfin.out]
    exact ⟨rfl, H9.pick [0, 1]⟩
end Go.Proofs.YtaafedpjifaghaaDoor
