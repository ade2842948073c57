/- The insertion sort at items by clock's order. Condition: times within bounds. -/
import Derived.Test.YtoffcoegghigoaaClkF
namespace Go.Proofs.Ytoffcoegghigoaa
open Go.RowKit

def Itm.mild (x : Itm) : Prop := -1099511627776 ≤ x.time ∧ x.time ≤ 1099511627776
set_option maxHeartbeats 1000000 in
set_option maxRecDepth 100000 in
theorem clk_cmp (x y : Itm) (hx : x.mild) (hy : y.mild) (w : World) : Calls Try.prog 67 #[itmV x, itmV y] w fun e w' => e = .returned (.int .i64 (x.time - y.time)) ∧ Below w.heap.size w w' := by
  obtain ⟨xk, xy, xt, xv⟩ := x
  obtain ⟨yk, yy, yt, yv⟩ := y
  unfold Itm.mild at hx hy
  simp only at hx hy
  have hw : IntKind.i64.wrap (xt - yt) = xt - yt := by rw [IntKind.wrap_i64]; omega
  have H : St (fun _ => False) w _ [_] := (St.nil (fun _ => False) w).allocAt rfl #[.int .i64 xk, textV xy, .int .i64 xt, .int .i64 xv] 85
  have H2 : St (fun _ => False) w _ [_, _] := H.allocAt (B := w.heap.size + 1) (Array.size_push _) #[.int .i64 yk, textV yy, .int .i64 yt, .int .i64 yv] 85
  unfold textV at H2
  unfold itmV textV
  simp only
  go_enter Try.func67, Try.ntmps67
  go_upto_region 1 with (fail)
  obtain ⟨b, hb⟩ : ∃ b, w.heap.size = b := ⟨_, rfl⟩
  obtain ⟨w2, hw2⟩ : ∃ w2, (w.alloc (.cells #[.int .i64 xk, .string ⟨xy.toArray⟩, .int .i64 xt, .int .i64 xv] 85)).alloc (.cells #[.int .i64 yk, .string ⟨yy.toArray⟩, .int .i64 yt, .int .i64 yv] 85) = w2 := ⟨_, rfl⟩
  rw [hw2, hb] at H2
  rw [hw2]
  simp only [hb]
  have c0 := H2.cell 0 2 rfl rfl
  have c1 := H2.cell 1 2 rfl rfl
  have hbl := H2.below (B := w.heap.size) (Nat.le_refl _) (fun _ h => h.elim)
  clear hw2 hb H H2
  go_wp2
  go_ret
  exact ⟨rfl, hbl⟩

def cmpV : Value := .func (.func 67) #[] #[]
theorem St.setItm {S : Nat → Prop} {w0 w : World} {l : List SP} (H : St S w0 w l) (i : Nat) {g : Nat} {L : List Itm} {R : List Value} {t : TypeId} (hi : l[i]? = some (Blk g (itms L ++ R).toArray t)) (k : Nat) (hk : k < L.length) (x : Itm) :
    St S w0 (w.setCells g (k * 4) (itmC x).toList) (l.set i (Blk g (itms (L.set k x) ++ R).toArray t)) := by
  have hlen := itms_len L
  have h2 := St.setCells i (itmC x).toList (k * 4) (itms L ++ R) w l H hi (by simp only [List.length_append]; show k * 4 + 4 ≤ _; omega)
  rw [itms_set R x hk] at h2
  exact h2


def insR : List Itm → Itm → List Itm
  | [], x => [x]
  | y :: r, x => if x.time < y.time then y :: insR r x else x :: y :: r
def isr (l : List Itm) : List Itm := l.foldl insR []
theorem isr_snoc (l : List Itm) (x : Itm) : isr (l ++ [x]) = insR (isr l) x := by simp [isr]
theorem insR_len : ∀ (r : List Itm) (x : Itm), (insR r x).length = r.length + 1
  | [], x => rfl
  | y :: r, x => by unfold insR; split <;> simp [insR_len r x]
theorem isr_len (l : List Itm) : (isr l).length = l.length := by
  have key : ∀ (l r : List Itm), (l.foldl insR r).length = r.length + l.length := by
    intro l
    induction l with
    | nil => intro r; rfl
    | cons x l ih => intro r; rw [List.foldl_cons, ih, insR_len]; simp; omega
  have := key l []
  unfold isr
  simpa using this
theorem insR_all {p : Itm → Prop} : ∀ (r : List Itm) (x : Itm), (∀ z ∈ r, p z) → p x → ∀ z ∈ insR r x, p z
  | [], x, _, hx => by intro z hz; obtain rfl := List.mem_singleton.1 hz; exact hx
  | y :: r, x, hr, hx => by
    unfold insR
    split
    · intro z hz
      rcases List.mem_cons.1 hz with rfl | hz
      · exact hr _ (by simp)
      · exact insR_all r x (fun z h => hr z (by simp [h])) hx z hz
    · intro z hz
      rcases List.mem_cons.1 hz with rfl | hz
      · exact hx
      · exact hr z hz
theorem isr_all {p : Itm → Prop} {l : List Itm} (h : ∀ z ∈ l, p z) : ∀ z ∈ isr l, p z := by
  have key : ∀ (l r : List Itm), (∀ z ∈ l, p z) → (∀ z ∈ r, p z) → ∀ z ∈ l.foldl insR r, p z := by
    intro l
    induction l with
    | nil => exact fun r _ hr => hr
    | cons x l ih => exact fun r hl hr => ih _ (fun z hz => hl z (by simp [hz])) (insR_all r x hr (hl x (by simp)))
  exact key l [] h (by simp)
/-- The part from a to i sorted. -/
def srt (L : List Itm) (a i : Nat) : List Itm := L.take a ++ ((isr ((L.drop a).take (i - a))).reverse ++ L.drop i)
theorem srt_one {L : List Itm} {a : Nat} (h : a < L.length) : srt L a (a + 1) = L := by
  unfold srt
  rw [show a + 1 - a = 1 by omega]
  have e : L.drop a = L[a] :: L.drop (a + 1) := List.drop_eq_getElem_cons h
  rw [e, List.take_succ_cons, List.take_zero]
  show L.take a ++ ([L[a]] ++ L.drop (a + 1)) = L
  rw [List.singleton_append, ← e, List.take_append_drop]
theorem srt_none {L : List Itm} {a : Nat} : srt L a a = L := by
  unfold srt
  rw [Nat.sub_self, List.take_zero]
  exact List.take_append_drop a L
theorem srt_len {L : List Itm} {a i : Nat} (h1 : a ≤ i) (h2 : i ≤ L.length) : (srt L a i).length = L.length := by
  unfold srt
  simp only [List.length_append, List.length_reverse, isr_len, List.length_take, List.length_drop]
  omega

section
attribute [local go_sem ↓] run_storeItm
set_option maxHeartbeats 8000000 in
set_option maxRecDepth 100000 in
theorem ins_sort {g n cap a b : Nat} {L : List Itm} {R : List Value} {w : World} {S : Nat → Prop} (hn : L.length = n) (hnb : n ≤ 3518437208880) (hm : ∀ z ∈ L, z.mild) (hab : a ≤ b) (hb : b ≤ n) (H : Sep w [Blk g (itms L ++ R).toArray 85] S) :
    Calls Try.prog 93 #[.slice (some ⟨g, 0, none⟩) n cap, .int .i64 a, .int .i64 b, cmpV] w fun e w' => e = .returned (.tuple #[]) ∧ St S w w' [Blk g (itms (srt L a b) ++ R).toArray 85] := by
  have H0 := St.refl H
  unfold cmpV
  by_cases hab2 : a = b
  · subst hab2
    rw [srt_none]
    go_enter Try.func93, Try.ntmps93
    go_upto_block 1 with (fail)
    go_loopw [8] (fun s8 wr => s8 = .int .i64 ((a : Int) + 1) ∧ St S w wr [Blk g (itms L ++ R).toArray 85]) (fun _ _ => 0)
    case atStart => exact ⟨by go_num, H0⟩
    case round =>
      obtain ⟨rfl, HL⟩ := hrel
      have hlt : ¬ (a : Int) + 1 < (a : Int) := by omega
      go_wp2
      go_end0
      exact ⟨rfl, HL⟩
  · have hab3 : a < b := by omega
    have hs1 := srt_one (L := L) (a := a) (by omega)
    go_enter Try.func93, Try.ntmps93
    go_upto_block 1 with (fail)
    go_loopw [8, 9] (fun s8 _ wr => ∃ (i : Nat), a < i ∧ i ≤ b ∧ s8 = .int .i64 i ∧ St S w wr [Blk g (itms (srt L a i) ++ R).toArray 85]) (fun s8 _ _ => b - (intOf s8).toNat)
    case atStart => exact ⟨a + 1, by omega, by omega, by go_num, by rw [hs1]; exact H0⟩
    case round =>
      clear H0
      obtain ⟨i, hai, hib, rfl, HL⟩ := hrel
      by_cases hlt : i < b
      · obtain ⟨x, hx⟩ : ∃ x, L[i]? = some x := ⟨_, List.getElem?_eq_getElem (by omega)⟩
        have hxm := hm x (List.mem_of_getElem? hx)
        obtain ⟨r0, hr0⟩ : ∃ r0, isr ((L.drop a).take (i - a)) = r0 := ⟨_, rfl⟩
        have hr0l : r0.length = i - a := by rw [← hr0, isr_len, List.length_take, List.length_drop]; omega
        have hr0m : ∀ z ∈ r0, z.mild := by rw [← hr0]; exact isr_all (fun z hz => hm z (List.mem_of_mem_drop (List.mem_of_mem_take hz)))
        have hnext := Lib.hid (show srt L a (i + 1) = L.take a ++ ((insR r0 x).reverse ++ L.drop (i + 1)) by
          unfold srt
          rw [show i + 1 - a = (i - a) + 1 by omega, take_snoc' (l := L.drop a) (x := x) (by rw [List.getElem?_drop, show a + (i - a) = i by omega]; exact hx), isr_snoc, hr0])
        have hd : L.drop i = x :: L.drop (i + 1) := by
          rw [List.drop_eq_getElem_cons (by omega)]
          rw [List.getElem?_eq_getElem (by omega)] at hx
          rw [Option.some.inj hx]
        have hAl : (L.take a).length = a := by rw [List.length_take]; omega
        have hDl : (L.drop (i + 1)).length = n - (i + 1) := by rw [List.length_drop, hn]
        have HL2 : St S w wr [Blk g (itms (L.take a ++ (r0.reverse ++ x :: ([] ++ L.drop (i + 1)))) ++ R).toArray 85] := by
          have e : srt L a i = L.take a ++ (r0.reverse ++ x :: ([] ++ L.drop (i + 1))) := by unfold srt; rw [hr0, hd]; rfl
          rw [← e]
          exact HL
        obtain ⟨A, hA⟩ : ∃ A, L.take a = A := ⟨_, rfl⟩
        obtain ⟨D, hD⟩ : ∃ D, L.drop (i + 1) = D := ⟨_, rfl⟩
        rw [hA] at hAl HL2 hnext
        rw [hD] at hDl HL2 hnext
        clear hx hr0 hd hA hD HL
        go_upto_block 3 with (fail)
        go_loopw [9] (fun s9 wr => ∃ (r q : List Itm), s9 = .int .i64 ((a + r.length : Nat) : Int) ∧ a + r.length + q.length = i ∧ (∀ z ∈ r, z.mild) ∧ Hid (insR r0 x = q.reverse ++ insR r x) ∧ St S w wr [Blk g (itms (A ++ (r.reverse ++ x :: (q ++ D))) ++ R).toArray 85]) (fun s9 _ => (intOf s9).toNat)
        case atStart => exact ⟨r0, [], by rw [hr0l, show a + (i - a) = i by omega], by simp; omega, hr0m, Lib.hid rfl, HL2⟩
        case round =>
          clear HL2 hr0m hr0l
          obtain ⟨r, q, rfl, hrq, hrm, hI, HM⟩ := hrel
          obtain ⟨j, hj⟩ : ∃ j, a + r.length = j := ⟨_, rfl⟩
          rw [hj] at hrq
          simp only [hj]
          cases r with
          | nil =>
            obtain rfl : j = a := by simpa using hj.symm
            have z1 : decide ((j : Int) < (j : Int)) = false := by simp
            have z2 : decide (j < j) = false := by simp
            clear hj
            go_upto_region 4 with (fail)
            refine wp_calm (fun w' => St S w w' [Blk g (itms (A ++ (List.reverse [] ++ x :: (q ++ D))) ++ R).toArray 85]) (by kernel_rfl) (by kernel_rfl) (HM.drew) ?_
            iterate 17 first
              | (apply calm_pass
                 · rfl
                 intro K hK
                 go_simp
                 refine hK _ ?_
                 clear hK K)
              | (apply calm_step
                 · rfl
                 · intro w1 h1
                   first
                     | (go_simp
                        first
                          | rfl
                          | exact ⟨rfl, h1⟩
                       )
                 intro K hK
                 go_simp
                 refine hK _ ?_
                 clear hK K)
            refine calm_nil ?_
            intro w2 H2
            go_wp2
            go_roundw
            case rel =>
              refine ⟨i + 1, by omega, by omega, by go_num, ?_⟩
              rw [hnext.out, hI.out]
              simpa [insR] using H2
            case measure => simp [intOf]; omega
          | cons y r =>
            obtain ⟨m, hm'⟩ : ∃ m, a + r.length = m := ⟨_, rfl⟩
            have hjm : j = m + 1 := by simp at hj; omega
            have ham : a ≤ m := by omega
            have hAr : (A ++ r.reverse).length = m := by simp; omega
            have hTe : A ++ ((y :: r).reverse ++ x :: (q ++ D)) = (A ++ r.reverse) ++ (y :: x :: (q ++ D)) := by simp
            rw [hTe] at HM
            have hT2 : ((A ++ r.reverse) ++ (y :: x :: (q ++ D))).length = n := by
              simp only [List.length_append, List.length_cons] at hAr ⊢
              omega
            have hTx : ((A ++ r.reverse) ++ (y :: x :: (q ++ D)))[j]? = some x := by rw [List.getElem?_append_right (by omega), hAr, hjm]; simp
            have hTy : ((A ++ r.reverse) ++ (y :: x :: (q ++ D)))[m]? = some y := by rw [List.getElem?_append_right (by omega), hAr]; simp
            have hswap : (((A ++ r.reverse) ++ (y :: x :: (q ++ D))).set j y).set m x = (A ++ r.reverse) ++ (x :: y :: (q ++ D)) := by
              rw [List.set_append_right _ _ (by omega), hAr, hjm, show m + 1 - m = 1 by omega, List.set_append_right _ _ (by omega), hAr, Nat.sub_self]
              rfl
            have hym := hrm y (by simp)
            have hrm2 : ∀ z ∈ r, z.mild := fun z hz => hrm z (by simp [hz])
            have hwj : IntKind.i64.wrap ((j : Int) - 1) = (m : Int) := by rw [IntKind.wrap_i64]; omega
            have hjn : (j : Int) < (n : Int) := by omega
            have hmn : (m : Int) < (n : Int) := by omega
            have hjn' : j < n := by omega
            have hmn' : m < n := by omega
            have z1 : decide ((a : Int) < (j : Int)) = true := by simp; omega
            have z2 : decide (a < j) = true := by simp; omega
            have hIc : x.time < y.time → Hid (insR r0 x = (y :: q).reverse ++ insR r x) := fun h => Lib.hid (by rw [hI.out, insR, if_pos h]; simp)
            have hIs : ¬ x.time < y.time → Hid (srt L a (i + 1) = (A ++ r.reverse) ++ (y :: x :: (q ++ D))) := fun h => Lib.hid (by rw [hnext.out, hI.out, insR, if_neg h]; simp)
            have kc := clk_cmp x y hxm hym
            have hrq2 : m + (q.length + 1) = i := by omega
            obtain ⟨B, hB⟩ : ∃ B, A ++ r.reverse = B := ⟨_, rfl⟩
            rw [hB] at HM hT2 hTx hTy hswap hIs
            have hBh := Lib.hid hB
            have hmh := Lib.hid hm'
            clear hB hAr hTe hI hnext hj hm' hrm
            have hjmh := Lib.hid hjm
            clear hjm
            obtain ⟨xk, xy, xt, xv⟩ := x
            obtain ⟨yk, yy, yt, yv⟩ := y
            unfold itmV textV at kc
            simp only at kc hIc hIs
            obtain ⟨T, hT⟩ : ∃ T, B ++ (⟨yk, yy, yt, yv⟩ :: ⟨xk, xy, xt, xv⟩ :: (q ++ D)) = T := ⟨_, rfl⟩
            rw [hT] at HM hT2 hTx hTy hswap hIs
            have hTh := Lib.hid hT
            clear hT
            go_upto_region 4 with (fail)
            refine wp_calm (fun w' => St S w w' [Blk g (itms T ++ R).toArray 85]) (by kernel_rfl) (by kernel_rfl) (HM.drew) ?_
            iterate 17 first
              | (apply calm_pass
                 · rfl
                 intro K hK
                 go_simp
                 refine hK _ ?_
                 clear hK K)
              | (apply calm_step
                 · rfl
                 · intro w1 h1
                   obtain ⟨q0, q1, q2, q3⟩ := blk_itms (h1.blk 0 rfl) hTx
                   obtain ⟨p0, p1, p2, p3⟩ := blk_itms (h1.blk 0 rfl) hTy
                   unfold textV at q1 p1
                   simp only at q0 q1 q2 q3 p0 p1 p2 p3
                   first
                     | (go_simp
                        first
                          | rfl
                          | exact ⟨rfl, h1⟩
                          | (go_at_call 67; with_reducible exact St.callPast (kc w1) h1)
                       )
                 intro K hK
                 go_simp
                 refine hK _ ?_
                 clear hK K)
            refine calm_nil ?_
            intro w2 H2
            by_cases hlt2 : xt < yt
            · have hIc2 := hIc hlt2
              clear hIc hIs kc
              have e1 : decide (xt < yt) = true := by simpa using hlt2
              have e3 : xt - yt < 0 := by omega
              clear hlt2 e1
              obtain ⟨q0, q1, q2, q3⟩ := blk_itms (H2.drew.blk 0 rfl) hTx
              obtain ⟨p0, p1, p2, p3⟩ := blk_itms (H2.drew.blk 0 rfl) hTy
              unfold textV at q1 p1
              simp only at q0 q1 q2 q3 p0 p1 p2 p3
              have m1 : mayCells w2 g (j * 4) 4 = true := mayCells_blk (H2.blk 0 rfl) (by
                have := itms_len T
                simp only [List.size_toArray, List.length_append]
                omega)
              have H3 : St S w _ [Blk g (itms (T.set j ⟨yk, yy, yt, yv⟩) ++ R).toArray 85] := H2.drew.setItm 0 rfl j (by omega) ⟨yk, yy, yt, yv⟩
              have m2 : mayCells (w2.drew.setCells g (j * 4) (itmC ⟨yk, yy, yt, yv⟩).toList) g (m * 4) 4 = true := mayCells_blk (H3.blk 0 rfl) (by
                have := itms_len (T.set j ⟨yk, yy, yt, yv⟩)
                simp only [List.size_toArray, List.length_append, List.length_set] at this ⊢
                omega)
              have H4 : St S w _ [Blk g (itms ((T.set j ⟨yk, yy, yt, yv⟩).set m ⟨xk, xy, xt, xv⟩) ++ R).toArray 85] := H3.setItm 0 rfl m (by rw [List.length_set]; omega) ⟨xk, xy, xt, xv⟩
              rw [hswap] at H4
              have H4h := Lib.hid H4
              clear H4 H3 HM
              have m2' : mayCells (w2.drew.setCells g (j * 4) [.int .i64 yk, .string ⟨yy.toArray⟩, .int .i64 yt, .int .i64 yv]) g (m * 4) 4 = true := m2
              clear m2
              have a1 : allOne #[.int .i64 yk, .string ⟨yy.toArray⟩, .int .i64 yt, .int .i64 yv] = true := by simp [allOne, Value.oneCell']
              have a2 : allOne #[.int .i64 xk, .string ⟨xy.toArray⟩, .int .i64 xt, .int .i64 xv] = true := by simp [allOne, Value.oneCell']
              go_upto_region 6 with (fail)
              go_region
              clear q0 q1 q2 q3 p0 p1 p2 p3 m1 m2' a1 a2
              go_wp2
              go_roundw
              case rel =>
                refine ⟨r, ⟨yk, yy, yt, yv⟩ :: q, by rw [hmh.out], by rw [hmh.out]; simpa using hrq2, hrm2, hIc2, ?_⟩
                have H5 := H4h.out
                rw [← hBh.out, List.append_assoc] at H5
                exact H5
              case measure => simp [intOf]; omega
            · have hIs2 := hIs hlt2
              clear hIc hIs kc
              have e3 : ¬ (xt - yt < 0) := by omega
              clear hlt2
              go_wp2
              go_roundw
              case rel =>
                refine ⟨i + 1, by omega, by omega, by go_num, ?_⟩
                rw [hIs2.out]
                exact H2
              case measure => simp [intOf]; omega
      · obtain rfl : i = b := by omega
        go_wp2
        go_end0
        exact ⟨rfl, HL⟩
end
end Go.Proofs.Ytoffcoegghigoaa
