/-
  count's closures (row, row's, put's) and slices.IndexFunc, slices.DeleteFunc over them: the walks.
-/
import Derived.Test.YtpadmbpopjmdjaaGTotalM
import Derived.Test.YtpadmbpopjmdjaaGTotalS
import Derived.Test.YtpadmbpopjmdjaaWGuard
import Derived.Lib.SliceRun
import Derived.Outline
import Derived.Deep.DeepMust
import Derived.Deep.LoopGhost
import Derived.WalkKit
namespace Go.Proofs.Ytpadmbpopjmdjaa.G
set_option linter.unusedVariables false
set_option linter.unusedSimpArgs false
open Go.RowKit Go.Proofs.YtpadmbpopjmdjaaW.PrintWords Go.Proofs.YtpadmbpopjmdjaaW.PrintLast Go.Proofs.YtpadmbpopjmdjaaW.PrintMore
attribute [local go_sem] max2_int min2_int max_two min_two max_three min_three max_four min_four

/-- The register of a row of m registers from b on; 0 where there is none. -/
def regs (b m j : Int) : Int := if j < 1 then 0 else if m < j then 0 else wrap64 (wrap64 (b + j) - 1)

set_option maxHeartbeats 400000 in
theorem row_calls (b m : Int) (w : World) :
    Calls Try.prog 29 #[.int .i64 b, .int .i64 m] w fun e w' => ∃ p q, e = .returned (.func (.func 49) #[] #[.pointer (some ⟨q, 0, none⟩), .pointer (some ⟨p, 0, none⟩)]) ∧ w.heap.size ≤ p ∧ w.heap.size ≤ q ∧
      w'.heap[p]? = some (.cells #[.int .i64 b] 3 (0, 0)) ∧ w'.heap[q]? = some (.cells #[.int .i64 m] 3 (0, 0)) ∧ Below w.heap.size w w' := by
  go_enter Try.func29, Try.ntmps29
  go_wp2
  go_ret
  refine ⟨w.heap.size, w.heap.size + 1, rfl, Nat.le_refl _, by omega, ?_, ?_, ((Below.refl _ _).alloc (Nat.le_refl _) _).alloc (by simp) _⟩
  · have := blk_new w (.cells #[.int .i64 b] 3 (0, 0))
    exact blk_below this (below_alloc (Below.refl _ _) _)
  · have := blk_new (w.alloc (.cells #[.int .i64 b] 3 (0, 0))) (.cells #[.int .i64 m] 3 (0, 0))
    simpa using this

set_option maxHeartbeats 400000 in
theorem row1_calls (b m j : Int) (p q : Nat) (w : World) (hb : w.heap[p]? = some (.cells #[.int .i64 b] 3 (0, 0))) (hm : w.heap[q]? = some (.cells #[.int .i64 m] 3 (0, 0))) :
    Calls Try.prog 49 #[.int .i64 j, .pointer (some ⟨q, 0, none⟩), .pointer (some ⟨p, 0, none⟩)] w fun e w' => e = .returned (.int .i64 (regs b m j)) ∧ w = w' := by
  have h1 := blk_cell hb 0
  have h2 := blk_cell hm 0
  clear hb hm
  unfold regs
  by_cases c1 : j < 1
  · rw [if_pos c1]
    go_enter Try.func49, Try.ntmps49
    go_wp2
    go_ret
    exact ⟨rfl, rfl⟩
  · rw [if_neg c1]
    by_cases c2 : m < j
    · rw [if_pos c2]
      go_enter Try.func49, Try.ntmps49
      go_wp2
      go_ret
      exact ⟨rfl, rfl⟩
    · rw [if_neg c2]
      obtain ⟨r, hr⟩ : ∃ r, wrap64 (wrap64 (b + j) - 1) = r := ⟨_, rfl⟩
      rw [hr]
      go_enter Try.func49, Try.ntmps49
      go_wp2
      go_ret
      exact ⟨by first | rfl | rw [← hr], rfl⟩

set_option maxHeartbeats 400000 in
theorem put1_calls (x : Int) (w : World) :
    Calls Try.prog 48 #[.int .i64 x] w fun e w' => e = .returned (.bool (x == 0)) ∧ w = w' := by
  go_enter Try.func48, Try.ntmps48
  go_wp2
  go_ret
  exact ⟨rfl, rfl⟩

/-- No element is 0. -/
def NoZ (xs : List Int) : Prop := ∀ j, j < xs.length → xs.getD j 0 ≠ 0
/-- The first 0 stands at i. -/
def FirstZ (xs : List Int) (i : Nat) : Prop := i < xs.length ∧ xs.getD i 0 = 0 ∧ ∀ j, j < i → xs.getD j 0 ≠ 0

set_option maxHeartbeats 800000 in
theorem index_put (B : Option Addr) (cb : Nat) (xs : List Int) (r : Int) (w : World) (hr : (Kd.int .i64).C w B xs.length xs) (hl : xs.length ≤ 1000000) (h : (NoZ xs ∧ r = -1) ∨ ∃ i : Nat, FirstZ xs i ∧ r = i) :
    Calls Try.prog 50 #[.slice B xs.length cb, .func (.func 48) #[] #[]] w fun e w' => e = .returned (.int .i64 r) ∧ w = w' := by
  have HR := Aside0.mk hr
  have HH := Aside0.mk h
  clear hr h
  go_enter Try.func50, Try.ntmps50
  go_wp2
  go_loopg [8] xs.length (fun kq v8 wr => ∃ i : Nat, i ≤ xs.length ∧ v8 = .int .i64 i ∧ Aside0 (kq + i = xs.length) ∧ Aside0 (∀ j, j < i → xs.getD j 0 ≠ 0) ∧ Aside0 (w = wr))
  case atStart => exact ⟨0, by omega, rfl, ⟨by omega⟩, ⟨fun j hj => by omega⟩, ⟨rfl⟩⟩
  case round =>
    obtain ⟨i, hi, rfl, HN, HZ, HW⟩ := hrel
    by_cases hlt : i < xs.length
    · obtain ⟨ad, e0, hcell⟩ := Kd.at_int (by have := HR.out; rwa [HW.out] at this) (i : Int) (by omega) (by omega)
      cases e0
      obtain ⟨x, hx⟩ : ∃ x, xs.getD i 0 = x := ⟨_, rfl⟩
      rw [show rd xs (i : Int) = x from by simpa [rd] using hx, Int.toNat_natCast] at hcell
      have HX := Aside0.mk hx
      clear hx
      obtain ⟨b, hb⟩ : ∃ b, (x == 0) = b := ⟨_, rfl⟩
      have HC := Aside0.mk (fun W => put1_calls x W)
      rw [hb] at HC
      have HB := Aside0.mk hb
      clear hb
      cases b with
      | true =>
        go_wp2_with ((go_at_call 48; refine (HC.out _).mono ?_; rintro e w1 ⟨rfl, rfl⟩))
        go_ret
        have h0 : xs.getD i 0 = 0 := by rw [HX.out]; simpa using HB.out
        refine ⟨?_, HW.out⟩
        rcases HH.out with ⟨h, _⟩ | ⟨k, ⟨hk, hk0, hkz⟩, rfl⟩
        · exact (h i hlt h0).elim
        · have : k = i := by
            rcases Nat.lt_trichotomy k i with h | h | h
            · exact (HZ.out k h hk0).elim
            · exact h
            · exact (hkz i h h0).elim
          rw [this]
          rfl
      | false =>
        go_wp2_with ((go_at_call 48; refine (HC.out _).mono ?_; rintro e w1 ⟨rfl, rfl⟩))
        go_roundg (gk - 1)
        case measure => have := HN.out; omega
        case rel => exact ⟨i + 1, by omega, by go_num, ⟨by have := HN.out; omega⟩, ⟨fun j hj => by
          by_cases e : j = i
          · subst e; rw [HX.out]; simpa using HB.out
          · exact HZ.out j (by omega)⟩, HW⟩
    · have hii : i = xs.length := by omega
      have H1 := Aside0.mk (show ∀ j, j < xs.length → xs.getD j 0 ≠ 0 from by rw [← hii]; exact HZ.out)
      clear hii
      go_wp2
      go_ret
      refine ⟨?_, HW.out⟩
      rcases HH.out with ⟨_, rfl⟩ | ⟨k, ⟨hk, hk0, _⟩, rfl⟩
      · rfl
      · exact (H1.out k hk hk0).elim

set_option maxHeartbeats 400000 in
/-- slices.DeleteFunc where nothing is struck. -/
theorem del_none (B : Option Addr) (cb : Nat) (xs : List Int) (w : World) (hr : (Kd.int .i64).C w B xs.length xs) (hl : xs.length ≤ 1000000) (h : NoZ xs) :
    Calls Try.prog 47 #[.slice B xs.length cb, .func (.func 48) #[] #[]] w fun e w' => e = .returned (.slice B xs.length cb) ∧ w = w' := by
  have HC := Aside0.mk (index_put B cb xs (-1) w hr hl (.inl ⟨h, rfl⟩))
  clear hr h
  go_enter Try.func47, Try.ntmps47
  go_wp2_with ((go_at_call 50; refine HC.out.mono ?_; rintro e w1 ⟨rfl, rfl⟩))
  go_ret
  exact ⟨rfl, rfl⟩

theorem zeroI (w : World) : (zeroValue 3).run Try.prog w = .ok (.int .i64 0) w := by kernel_rfl

/-- A row of three ints: what a store makes of it. -/
theorem three_set1 {w : World} {g : Nat} {a b c : Int} (h : w.heap[g]? = some (.cells #[.int .i64 a, .int .i64 b, .int .i64 c] 3 (0, 0))) (x : Int) : (w.setCell ⟨g, 1, none⟩ (.int .i64 x)).heap[g]? = some (.cells #[.int .i64 a, .int .i64 x, .int .i64 c] 3 (0, 0)) := by
  rw [blk_set h 1 (.int .i64 x)]
  rfl
theorem three_set2 {w : World} {g : Nat} {a b c : Int} (h : w.heap[g]? = some (.cells #[.int .i64 a, .int .i64 b, .int .i64 c] 3 (0, 0))) (x : Int) : (w.setCell ⟨g, 2, none⟩ (.int .i64 x)).heap[g]? = some (.cells #[.int .i64 a, .int .i64 b, .int .i64 x] 3 (0, 0)) := by
  rw [blk_set h 2 (.int .i64 x)]
  rfl

set_option maxHeartbeats 800000 in
/-- slices.DeleteFunc where the middle one of three is struck. -/
theorem del_mid (g : Nat) (a b : Int) (w : World) (hb : w.heap[g]? = some (.cells #[.int .i64 a, .int .i64 0, .int .i64 b] 3 (0, 0))) (ha : a ≠ 0) (hb0 : b ≠ 0) :
    Calls Try.prog 47 #[.slice (some ⟨g, 0, none⟩) 3 3, .func (.func 48) #[] #[]] w fun e w' => e = .returned (.slice (some ⟨g, 0, none⟩) 2 3) ∧ w' = (w.setCell ⟨g, 1, none⟩ (.int .i64 b)).setCell ⟨g, 2, none⟩ (.int .i64 0) := by
  have c0 := blk_cell hb 0
  have c1 := blk_cell hb 1
  have c2 := blk_cell hb 2
  have f1 := blk_frozen hb 1
  have hR : (Kd.int .i64).C w (some ⟨g, 0, none⟩) [a, 0, b].length [a, 0, b] := by
    refine Kd.C_of_reads (h1 := fun _ => rfl) (d := (0 : Int)) ?_
    refine ⟨by simp, by simp, fun _ => ⟨⟨g, 0, none⟩, rfl, fun j hj => ?_⟩⟩
    match j, hj with
    | 0, _ => rw [add_plain]; exact c0
    | 1, _ => rw [add_plain]; exact c1
    | 2, _ => rw [add_plain]; exact c2
    | j + 3, hj => exact absurd hj (by simp)
  have HC := Aside0.mk (index_put (some ⟨g, 0, none⟩) 3 [a, 0, b] 1 w hR (by simp) (.inr ⟨1, ⟨by simp, rfl, fun j hj => by obtain rfl : j = 0 := (by omega); simpa using ha⟩, rfl⟩))
  have HP := Aside0.mk (fun W => put1_calls b W)
  have hb0' : (b == 0) = false := by simpa using hb0
  rw [hb0'] at HP
  have h3 := three_set1 hb b
  have H3 := Aside0.mk h3
  have hcl : ∀ ty, (Builtin.clear_ #[22] ty #[.slice (some ⟨g, 2, none⟩) 1 1]).run Try.prog (w.setCell ⟨g, 1, none⟩ (.int .i64 b)) = .ok (.tuple #[]) ((w.setCell ⟨g, 1, none⟩ (.int .i64 b)).setCells g 2 [.int .i64 0]) :=
    fun ty => Lib.run_clear_slice _ 22 3 ty (.int .i64 0) Try.underlying22 zeroI rfl rfl g 2 1 1 (by omega) (fun j hj => by obtain rfl : j = 0 := (by omega); rw [show (2 : Nat) + 0 = 2 from rfl, blk_cell h3 2]; rfl) (fun j hj => by obtain rfl : j = 0 := (by omega); exact blk_frozen h3 2)
  obtain ⟨i0, hi, hz0, hz1, hz2⟩ := info_parts infoT3
  have hrun1 := cut_to (P := Try.prog) 22 3 .i64 Try.underlying22 hi (some ⟨g, 0, none⟩) 3 3 2 (by omega) (by omega) (by omega)
  have hrun2 := cut_from (P := Try.prog) 22 3 .i64 Try.underlying22 hi 1 hz1 (some ⟨g, 0, none⟩) 3 3 2 (by omega) (by omega)
  clear hb ha hb0 hb0' hR h3 c0 hi hz0 hz1 hz2
  go_enter Try.func47, Try.ntmps47
  go_wp2_with ((go_at_call 50; refine HC.out.mono ?_; rintro e w1 ⟨rfl, rfl⟩))
  go_loopg [5, 6] 1 (fun kq v5 v6 wr => (kq = 1 ∧ v5 = .int .i64 1 ∧ v6 = .int .i64 2 ∧ w = wr) ∨ (kq = 0 ∧ v5 = .int .i64 2 ∧ v6 = .int .i64 3 ∧ w.setCell ⟨g, 1, none⟩ (.int .i64 b) = wr))
  case atStart => exact .inl ⟨rfl, rfl, rfl, rfl⟩
  case round =>
    rcases hrel with ⟨hk, rfl, rfl, rfl⟩ | ⟨hk, rfl, rfl, rfl⟩
    · go_wp2_with ((go_at_call 48; refine (HP.out _).mono ?_; rintro e w1 ⟨rfl, rfl⟩))
      go_roundg 0
      case measure => omega
      case rel => exact .inr ⟨rfl, rfl, rfl, rfl⟩
    · go_wp2_with (simp only [hcl])
      go_ret
      exact ⟨rfl, rfl⟩

end Go.Proofs.Ytpadmbpopjmdjaa.G
