/- The walks of the ring over a store: run, Write, Read. Conditions: the store's blocks lie as its maker lays them, the bytes can be read. -/
import Derived.Test.YtbikjhmdpgoofabRingA
import Derived.Test.YtbikjhmdpgoofabStoreF
import Derived.Test.YtbikjhmdpgoofabCalm
namespace Go.Proofs.Ytbikjhmdpgoofab
open Go.RowKit

theorem box_keep {S : Nat → Prop} {w w' : World} {b : Nat} {x y : Value} {t : TypeId} {r : List SP} (H : St S w w' (Blk b #[x, y] t :: r)) :
    w'.cell? ⟨b, 0, none⟩ = some x ∧ w'.cell? ⟨b, 1, none⟩ = some y ∧ St S w w' (Blk b #[x, y] t :: r) := ⟨H.cell 0 0 rfl rfl, H.cell 0 1 rfl rfl, H⟩
/-- A call that leaves all that was there alone, in the midst of a call. -/
theorem St.callPast {S : Nat → Prop} {w w' : World} {L : List SP} {P : Program} {fid : Nat} {args : Array Value} {p : Ending → Prop} (hc : Calls P fid args w' fun e w2 => p e ∧ Below w'.heap.size w' w2) (H : St S w w' L) :
    Calls P fid args w' fun e w2 => p e ∧ St S w w2 L := hc.mono fun _ _ h => ⟨h.1, H.past h.2⟩
theorem St.callSame {S : Nat → Prop} {w w' : World} {L : List SP} {P : Program} {fid : Nat} {args : Array Value} {p : Ending → Prop} (hc : Calls P fid args w' fun e w2 => p e ∧ w' = w2) (H : St S w w' L) :
    Calls P fid args w' fun e w2 => p e ∧ St S w w2 L := hc.mono fun _ _ h => ⟨h.1, h.2 ▸ H⟩
theorem St.callSame' {S : Nat → Prop} {w w' : World} {L : List SP} {P : Program} {fid : Nat} {args : Array Value} {p : Ending → Prop} (hc : Calls P fid args w' fun e w2 => p e ∧ w2 = w') (H : St S w w' L) :
    Calls P fid args w' fun e w2 => p e ∧ St S w w2 L := hc.mono fun _ _ h => ⟨h.1, h.2 ▸ H⟩
theorem store_len_at {S : Nat → Prop} {w w' : World} {X : SP} {b : Nat} {m : StM} (H : St S w w' [X, StoreAt b m]) :
    Calls Try.prog 50 #[.pointer (some ⟨b, 0, none⟩)] w' fun e w2 => e = .returned (.int .i64 m.last.length) ∧ St S w w2 [X, StoreAt b m] := St.callSame (store_len (H.pick [1, 0]).sep) H
def runE (f l v n cnt : Int) : Int := if rightI f l cnt && placeI v && (startI f l v n == v) then 0 else 2

theorem ring_run_nil (f l v n : Int) (w : World) : Calls Try.prog 63 #[.pointer none, ringV f l, .int .i64 v, .int .i64 n] w fun e w' => e = .returned (.int .i64 1) ∧ Below w.heap.size w w' := by
  have H := (St.nil (fun _ => False) w).allocAt rfl #[.int .i64 f, .int .i64 l] 23
  unfold ringV
  go_enter Try.func63, Try.ntmps63
  go_wp2
  go_ret
  exact ⟨rfl, H.below (Nat.le_refl _) (fun _ h => h.elim)⟩

set_option maxHeartbeats 2000000 in
theorem ring_run {b : Nat} {m : StM} (f l v n : Int) {w : World} {S : Nat → Prop} (H : Sep w [StoreAt b m] S) :
    Calls Try.prog 63 #[.pointer (some ⟨b, 0, none⟩), ringV f l, .int .i64 v, .int .i64 n] w fun e w' => e = .returned (.int .i64 (runE f l v n m.last.length)) ∧ St S w w' [StoreAt b m] := by
  have H0 : St S w _ [_, StoreAt b m] := (St.refl H).allocAt rfl #[.int .i64 f, .int .i64 l] 23
  obtain ⟨r, hr⟩ : ∃ r, rightI f l m.last.length = r := ⟨_, rfl⟩
  obtain ⟨p, hp⟩ : ∃ p, placeI v = p := ⟨_, rfl⟩
  obtain ⟨q, hq⟩ : ∃ q, startI f l v n = q := ⟨_, rfl⟩
  have hfin : runE f l v n m.last.length = if r && p && (q == v) then 0 else 2 := by simp [runE, hr, hp, hq]
  obtain ⟨res, hres⟩ : ∃ res : Int, (if r && p && (q == v) then 0 else 2) = res := ⟨_, rfl⟩
  rw [hfin, hres]
  have hr2 := Lib.hid hres
  clear hfin H hres
  unfold ringV
  go_enter Try.func63, Try.ntmps63
  go_wp2_with fail
  obtain ⟨wa, hwa⟩ : ∃ wa, w.alloc (.cells #[.int .i64 f, .int .i64 l] 23) = wa := ⟨_, rfl⟩
  rw [hwa] at H0 ⊢
  have c0 := H0.cell 0 0 rfl rfl
  have c1 := H0.cell 0 1 rfl rfl
  have kr := fun w1 => ring_right f l m.last.length w1
  have kp := fun w1 => ring_place v w1
  have kq := fun w1 => ring_start f l v n w1
  simp only [hr] at kr
  simp only [hp] at kp
  simp only [hq] at kq
  cases r
  · refine wp_calm (fun w' => St S w w' [Blk w.heap.size #[.int .i64 f, .int .i64 l] 23, StoreAt b m]) (by kernel_rfl) (by kernel_rfl) H0.drew ?_
    iterate 19 first
      | (apply calm_step
         · rfl
         · intro w1 h1
           have d0 := h1.cell 0 0 rfl rfl
           have d1 := h1.cell 0 1 rfl rfl
           go_simp
           first
             | rfl
             | exact ⟨rfl, h1⟩
             | exact store_len_at h1
             | exact St.callPast (kr w1) h1
             | exact St.callSame' (kp w1) h1
             | exact St.callPast (kq w1) h1
         intro K hK
         go_simp
         refine hK _ ?_
         clear hK K)
      | (apply calm_pass
         · rfl
         intro K hK
         go_simp
         refine hK _ ?_
         clear hK K)
    refine calm_nil ?_
    intro w2 H2
    go_wp2
    go_ret
    exact ⟨by rw [← hr2.out]; rfl, H2.tail⟩
  · cases p
    · refine wp_calm (fun w' => St S w w' [Blk w.heap.size #[.int .i64 f, .int .i64 l] 23, StoreAt b m]) (by kernel_rfl) (by kernel_rfl) H0.drew ?_
      iterate 19 first
        | (apply calm_step
           · rfl
           · intro w1 h1
             have d0 := h1.cell 0 0 rfl rfl
             have d1 := h1.cell 0 1 rfl rfl
             go_simp
             first
               | rfl
               | exact ⟨rfl, h1⟩
               | exact store_len_at h1
               | exact St.callPast (kr w1) h1
               | exact St.callSame' (kp w1) h1
               | exact St.callPast (kq w1) h1
           intro K hK
           go_simp
           refine hK _ ?_
           clear hK K)
        | (apply calm_pass
           · rfl
           intro K hK
           go_simp
           refine hK _ ?_
           clear hK K)
      refine calm_nil ?_
      intro w2 H2
      go_wp2
      go_ret
      exact ⟨by rw [← hr2.out]; rfl, H2.tail⟩
    · refine wp_calm (fun w' => St S w w' [Blk w.heap.size #[.int .i64 f, .int .i64 l] 23, StoreAt b m]) (by kernel_rfl) (by kernel_rfl) H0.drew ?_
      iterate 19 first
        | (apply calm_step
           · rfl
           · intro w1 h1
             have d0 := h1.cell 0 0 rfl rfl
             have d1 := h1.cell 0 1 rfl rfl
             go_simp
             first
               | rfl
               | exact ⟨rfl, h1⟩
               | exact store_len_at h1
               | exact St.callPast (kr w1) h1
               | exact St.callSame' (kp w1) h1
               | exact St.callPast (kq w1) h1
           intro K hK
           go_simp
           refine hK _ ?_
           clear hK K)
        | (apply calm_pass
           · rfl
           intro K hK
           go_simp
           refine hK _ ?_
           clear hK K)
      refine calm_nil ?_
      intro w2 H2
      by_cases h5 : q = v
      · subst h5
        go_wp2
        go_ret
        exact ⟨by rw [← hr2.out]; simp, H2.tail⟩
      · have h6 : (q == v) = false := by simpa using h5
        go_wp2
        go_ret
        exact ⟨by rw [← hr2.out]; simp [h6], H2.tail⟩

end Go.Proofs.Ytbikjhmdpgoofab
