/- append onto a row of the call's own, up to what Go's growth itself allows. Laws over any program. -/
import Derived.Test.YtoffcoegghigoaaApp
import Derived.Deep.DeepAppendWide
namespace Go.Proofs.Ytoffcoegghigoaa
open Go.RowKit

section
variable {P : Program} {S : Nat → Prop} {w0 w : World} {l : List SP}
theorem append_at_wide {base : Nat} {t ty e : TypeId} {i : TypeInfo} {z : Value} (ht : P.underlying t = some (.slice e)) (hi : P.info? e = some i) (hz : i.zero = some z) (hzs : z.cells.size = i.size) (hsz : 0 < i.size)
    {v : Value} {n : Nat} {xs : List Value} (hown : w.ownsRow base e i.size v n xs) {a : Addr} {m c : Nat} {news : List Value} (hl : news.length = m * i.size) (hnews : ∀ j u, news[j]? = some u → w.cell? (a.add j) = some u)
    (h1 : ∀ u ∈ news, u.oneCell' = true) (hm : 0 < m) (h63 : n + m ≤ maxLen) (hb : ((n + m) + (n + m) / 4 + 192) * i.bytes ≤ 281474976710656) (hbase : base ≤ w.heap.size) :
    ∃ v' w', (Builtin.append_ #[t, t] ty #[v, .slice (some a) m c]).run P w = .ok v' w' ∧ w'.ownsRow base e i.size v' (n + m) (xs ++ news) ∧ w.grownBy w' v.ownBlock ∧ (v'.ownBlock = v.ownBlock ∨ v'.ownBlock = some w.heap.size) := by
  obtain ⟨v', w', hr, h2, h3, _⟩ := run_append_own_wide w base t ty e i z i.size i.bytes ht hi hz rfl rfl hzs hsz v n xs hown a m c news hl hnews h1 h63 hb hbase
  refine ⟨v', w', hr, h2, h3, ?_⟩
  have hsmall : n + m ≤ 9223372036854775807 := by simp only [maxLen] at h63; omega
  rcases hown.2 with ⟨rfl, rfl⟩ | ⟨g, cap, cur, rfl, hbg, hg, hnc, hcm, hcs, htake⟩
  · have hr2 := run_append_nil (P := P) w t ty e i z ht hi hz a m c news hl hnews hm (by omega) (by
      simp only [Nat.zero_add] at hb
      exact Nat.le_trans (Nat.mul_le_mul_right _ (by omega)) hb)
    have e1 := hr.symm.trans hr2
    injection e1 with e1 e2
    rw [e1]
    exact .inr rfl
  · by_cases hroom : n + m ≤ cap
    · have hr2 := run_append_room (P := P) w t ty e i ht hi g n cap cur hg a m c news hl hnews h1 hroom (by rw [hl, hcs, ← Nat.add_mul]; exact Nat.mul_le_mul_right _ hroom)
      have e1 := hr.symm.trans hr2
      injection e1 with e1 e2
      rw [e1]
      exact .inl rfl
    · have hr2 := run_append_grow (P := P) w t ty e i z ht hi hz ⟨g, 0, none⟩ n cap xs hown.1 (hown.cells (g := g) rfl) a m c news hl hnews (by omega) (by omega) (growslice_fits_wide (by omega) hb)
      have e1 := hr.symm.trans hr2
      injection e1 with e1 e2
      rw [e1]
      exact .inr rfl
/-- As St.list_app, with room for what Go's growth allows. -/
theorem St.list_appw (H : St S w0 w l) (i : Nat) {e : TypeId} {size : Nat} {v : Value} {n : Nat} {xs : List Value} (hi : l[i]? = some (Row e size v n xs))
    {ops : Array Oper} {rest : List Oper} {o : Oper} {a : Act} {Q : Exit → Act → World → Prop} (hgd : o.guard = none) (s x : Operand) (t : TypeId)
    (ho : o.op = .call { callee := .builtin .append, args := #[s, x], argTypes := #[t, t] }) {z : Value} {bytes : Nat} (ht : P.underlying t = some (.slice e))
    (hinfo : (P.info? e).map (fun i => (i.zero, i.size, i.bytes)) = some (some z, size, bytes)) (hzs : z.cells.size = size ∧ 0 < size ∧ 0 < bytes)
    (hs : a.eval s = v) {ad : Addr} {c m : Nat} (news : List Value) (hx : a.eval x = .slice (some ad) m c) (hl : news.length = m * size) (hnews : ∀ j u, news[j]? = some u → w.cell? (ad.add j) = some u) (h1 : ∀ u ∈ news, u.oneCell' = true)
    (hm : 0 < m) (hbytes : ((n + m) + (n + m) / 4 + 192) * bytes ≤ 281474976710656)
    (h : ∀ g cap w', St S w0 w' (l.set i (Row e size (.slice (some ⟨g, 0, none⟩) (n + m) cap) (n + m) (xs ++ news))) → w.heap.size ≤ w'.heap.size → wpList P ops Q rest (a.put o.dst (.slice (some ⟨g, 0, none⟩) (n + m) cap)) w') :
    wpList P ops Q (o :: rest) a w := by
  obtain ⟨ti, hti, hz, rfl, rfl⟩ := info_parts hinfo
  have hle : n + m ≤ 281474976710656 := by
    have := Nat.le_mul_of_pos_right ((n + m) + (n + m) / 4 + 192) hzs.2.2
    omega
  obtain ⟨v', w', hr, h2, h3, h4⟩ := append_at_wide (ty := o.type) (c := c) ht hti hz hzs.1 hzs.2.1 (H.row i hi) hl hnews h1 hm (by unfold maxLen; omega) hbytes (Nat.zero_le _)
  obtain ⟨ao, cap, rfl, _, hg⟩ := slice_form' h2
  obtain ⟨g, rfl⟩ := hg (by omega)
  have H2 := H.grown' i hi h2 h3 h4
  refine wpList_plain hgd fun _ hK => ?_
  unfold Oper.wp execOp
  simp only [ho, resolve, invoke, builtin, Sem.run_bind, Sem.run_pure, Result.andThen_ok, List.map_toArray, List.map_cons, List.map_nil, hs, hx, hr]
  exact hK _ _ (h g cap w' H2 h3.size)
end
end Go.Proofs.Ytoffcoegghigoaa
