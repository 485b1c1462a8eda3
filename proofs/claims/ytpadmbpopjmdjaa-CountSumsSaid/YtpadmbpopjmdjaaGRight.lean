/-
  count.right: what it computes, and the walk.
-/
import Derived.Test.YtpadmbpopjmdjaaGMap
import Derived.Test.YtpadmbpopjmdjaaGTotalS
import Derived.Test.YtpadmbpopjmdjaaWWords
import Derived.Test.YtpadmbpopjmdjaaWMore
import Derived.Test.YtpadmbpopjmdjaaWGuard
import Derived.Outline
import Derived.Deep.LoopGhost
import Derived.Carry
namespace Go.Proofs.Ytpadmbpopjmdjaa.G
open Go.RowKit Go.Maps Go.Proofs.YtpadmbpopjmdjaaW.PrintWords Go.Proofs.YtpadmbpopjmdjaaW.PrintLast Go.Proofs.YtpadmbpopjmdjaaW.PrintMore
attribute [local go_sem] max2_int min2_int max_two min_two max_three min_three max_four min_four

theorem zeroB (w : World) : (zeroValue 4).run Try.prog w = .ok (.bool false) w := by kernel_rfl

/-- Are the variables of l from 1 to next - 1, none among S, none twice? -/
def rightFrom (next : Int) : (Int → Bool) → List Int → Bool
  | _, [] => true
  | S, x :: l => if vabs x ≤ 0 then false else if next ≤ vabs x then false else if S (vabs x) = true then false else rightFrom next (fun z => if z = vabs x then true else S z) l

/-- OK or ErrLit. -/
def resE (b : Bool) : Int := if b = true then 0 else 140
/-- What count.right answers. -/
def rightE (l : List Int) (next : Int) : Int := if next < 1 then 1 else if 65537 < next then 1 else if 4096 < l.length then 1 else resE (rightFrom next (fun _ => false) l)

theorem right_arg (A0 : Option Addr) (c0 : Nat) (l : List Int) (next : Int) (w : World) (hm : l.length < 140737488355328) (h : next < 1 ∨ 65537 < next ∨ 4096 < l.length) :
    Calls Try.prog 27 #[.slice A0 l.length c0, .int .i64 next] w fun e w' => e = .returned (.int .i64 1) ∧ Below w.heap.size w w' := by
  by_cases h1 : next < 1
  · clear h
    go_enter Try.func27, Try.ntmps27
    go_wp2
    go_ret
    exact ⟨rfl, Below.refl _ _⟩
  · by_cases h2 : 65537 < next
    · clear h
      go_enter Try.func27, Try.ntmps27
      go_wp2
      go_ret
      exact ⟨rfl, Below.refl _ _⟩
    · have h3 : 4096 < l.length := by omega
      clear h
      go_enter Try.func27, Try.ntmps27
      go_wp2
      go_ret
      exact ⟨rfl, Below.refl _ _⟩

set_option maxHeartbeats 400000 in
theorem right_calls_in (A0 : Option Addr) (c0 : Nat) (l : List Int) (next : Int) (w : World) (hr : Kd.C (Kd.int .i64) w A0 l.length l) (hc : l.length ≤ c0) (hm : l.length < 140737488355328) (hl : ∀ x ∈ l, (Lit.int .i64 x).wf = true) (h1 : ¬ next < 1) (h2 : ¬ 65537 < next) (h3 : ¬ 4096 < l.length) :
    Calls Try.prog 27 #[.slice A0 l.length c0, .int .i64 next] w fun e w' => e = .returned (.int .i64 (resE (rightFrom next (fun _ => false) l))) ∧ Below w.heap.size w w' := by
  have HR0 := Aside0.mk hr
  have HC0 := Aside0.mk hc
  have HM := Aside0.mk hm
  have HL := Aside0.mk hl
  clear hr hc hl hm
  obtain ⟨r, hres⟩ : ∃ r, rightFrom next (fun _ => false) l = r := ⟨_, rfl⟩
  rw [hres]
  have HRES := Aside0.mk hres
  clear hres
  have hmm := @run_makeMap Try.prog
  go_enter Try.func27, Try.ntmps27
  go_wp2
  go_loopg [23] l.length (fun kq v23 wr => ∃ (i n : Nat) (S : Int → Bool), i ≤ l.length ∧ v23 = .int .i64 i ∧ Aside0 (n ≤ i ∧ kq + i = l.length) ∧ Aside0 (BMap Try.prog 3 4 wr w.heap.size n S) ∧ Aside0 (Below w.heap.size w wr) ∧ Aside0 (rightFrom next S (l.drop i) = r))
  case atStart => exact ⟨0, 0, _, by omega, rfl, ⟨by omega, by omega⟩, ⟨BMap.made _ _ _ w⟩, ⟨(Below.refl w.heap.size w).alloc (Nat.le_refl _) _⟩, HRES⟩
  case round =>
    obtain ⟨i, n, S, hi, rfl, HN, HB, HW, HA⟩ := hrel
    by_cases hlt : i < l.length
    · have hd := drop_rd hlt
      have h := HA.out
      rw [hd] at h
      obtain ⟨x, hx⟩ : ∃ x, l.getD i 0 = x := ⟨_, rfl⟩
      rw [hx] at h
      have hxw : (Lit.int .i64 x).wf = true := HL.out x (by rw [← hx]; simp [List.getD_eq_getElem?_getD, hlt])
      have hvw := vabs_wf hxw
      obtain ⟨ad, e0, hcell⟩ := Kd.at_int HR0.out (i : Int) (by omega) (by omega)
      cases e0
      rw [show rd l (i : Int) = x from by simpa [rd] using hx] at hcell
      rw [Int.toNat_natCast] at hcell
      replace hcell := (HW.out.cell (World.block_lt_of_cell? w _ hcell)).trans hcell
      simp only [rightFrom] at h
      clear hd
      obtain ⟨v, hv⟩ : ∃ v, vabs x = v := ⟨_, rfl⟩
      rw [hv] at h hvw
      obtain ⟨nx, hnx⟩ : ∃ nx, wrap64 (-x) = nx := ⟨_, rfl⟩
      have hmx : (if x < nx then nx else x) = v := by rw [← hv, ← hnx]; rfl
      clear hx
      by_cases c1 : v ≤ 0
      · rw [if_pos c1] at h
        have HR := Aside0.mk h
        clear h
        go_wp2
        go_ret
        exact ⟨by rw [← HR.out]; rfl, HW.out⟩
      · rw [if_neg c1] at h
        by_cases c2 : next ≤ v
        · rw [if_pos c2] at h
          have HR := Aside0.mk h
          clear h
          go_wp2
          go_ret
          exact ⟨by rw [← HR.out]; rfl, HW.out⟩
        · rw [if_neg c2] at h
          obtain ⟨s, hs⟩ : ∃ s, S v = s := ⟨_, rfl⟩
          rw [hs] at h
          cases s with
          | true =>
            rw [if_pos rfl] at h
            have HR := Aside0.mk h
            clear h
            go_wp2_with (first | ((with_reducible refine gate_dst (N := 41) rfl ?_); (try (refine gate_guard (by rfl) ?_; dsimp only)); refine wpList_look_bool _ rfl _ _ 65 rfl 3 4 Try.underlying3 Try.underlying65 Try.underlying4 (zeroB _) w.heap.size n S rfl HB.out v rfl hvw ?_; rw [hs]))
            go_ret
            exact ⟨by rw [← HR.out]; rfl, HW.out⟩
          | false =>
            rw [if_neg (by simp)] at h
            have HR := Aside0.mk h
            have HS := Aside0.mk hs
            clear h hs
            have hn : n < maxLen := by have := HN.out; have := HM.out; unfold maxLen; omega
            have hm := HM.out
            go_wp2_with (first | ((with_reducible refine gate_dst (N := 41) rfl ?_); (try (refine gate_guard (by rfl) ?_; dsimp only)); refine wpList_look_bool _ rfl _ _ 65 rfl 3 4 Try.underlying3 Try.underlying65 Try.underlying4 (zeroB _) w.heap.size n S rfl HB.out v rfl hvw ?_; rw [HS.out]) | (at_mapUpdate; refine wpList_put_bool _ rfl _ _ _ 65 rfl 3 4 Try.underlying3 Try.underlying65 Try.underlying4 w.heap.size n S rfl HB.out hn v rfl hvw true rfl ?_; intro w2 hb2 hg2; have HB2 := Aside0.mk hb2; have HW2 := Aside0.mk (HW.out.grown hg2 HW.out.size (fun k hk => by cases hk; exact Nat.le_refl _)); clear hb2 hg2))
            go_roundg (gk - 1)
            case measure => have := HN.out; omega
            case rel => exact ⟨i + 1, n + 1, _, by omega, by go_num, ⟨by have := HN.out; omega, by have := HN.out; omega⟩, HB2, HW2, HR⟩
    · have h := HA.out
      have hi2 : i = l.length := by omega
      rw [hi2, List.drop_length] at h
      have HR := Aside0.mk (show true = r from h)
      clear h hi2
      go_wp2
      go_ret
      exact ⟨by rw [← HR.out]; rfl, HW.out⟩

theorem right_calls (A0 : Option Addr) (c0 : Nat) (l : List Int) (next : Int) (w : World) (hr : Kd.C (Kd.int .i64) w A0 l.length l) (hc : l.length ≤ c0) (hm : l.length < 140737488355328) (hl : ∀ x ∈ l, (Lit.int .i64 x).wf = true) :
    Calls Try.prog 27 #[.slice A0 l.length c0, .int .i64 next] w fun e w' => e = .returned (.int .i64 (rightE l next)) ∧ Below w.heap.size w w' := by
  unfold rightE
  by_cases h1 : next < 1
  · rw [if_pos h1]
    exact right_arg A0 c0 l next w hm (.inl h1)
  rw [if_neg h1]
  by_cases h2 : 65537 < next
  · rw [if_pos h2]
    exact right_arg A0 c0 l next w hm (.inr (.inl h2))
  rw [if_neg h2]
  by_cases h3 : 4096 < l.length
  · rw [if_pos h3]
    exact right_arg A0 c0 l next w hm (.inr (.inr h3))
  rw [if_neg h3]
  exact right_calls_in A0 c0 l next w hr hc hm hl h1 h2 h3

#print axioms right_calls

end Go.Proofs.Ytpadmbpopjmdjaa.G
