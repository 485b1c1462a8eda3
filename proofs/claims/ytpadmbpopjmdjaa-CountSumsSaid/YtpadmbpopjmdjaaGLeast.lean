/-
  count.Least: the walk.
-/
import Derived.Test.YtpadmbpopjmdjaaGPutM
import Derived.Test.YtpadmbpopjmdjaaGLeastS
import Derived.Deep.RegionHeld3
import Derived.Deep.RegionWith
import Derived.StillTailTactics
import Derived.IntWalk
namespace Go.Proofs.Ytpadmbpopjmdjaa.G
set_option linter.unusedVariables false
set_option linter.unusedSimpArgs false
open Go.RowKit Go.Proofs.YtpadmbpopjmdjaaW.PrintWords Go.Proofs.YtpadmbpopjmdjaaW.PrintLast Go.Proofs.YtpadmbpopjmdjaaW.PrintMore
attribute [local go_sem] max2_int min2_int max_two min_two max_three min_three max_four min_four

/-- What a call of Least leaves. -/
def LeastPost (r : List (List Int) × Int × Int) (w : World) (e : Ending) (w' : World) : Prop :=
  ∃ v, e = .returned (.tuple #[v, .int .i64 r.2.1, .int .i64 r.2.2]) ∧ KRows.R 22 w' w.heap.size (fun k => w.heap.size ≤ k) v r.1 ∧ Below w.heap.size w w'

/-- One row alone, that is a row of rows. -/
theorem one_row {w : World} {B : Nat} {A : Option Addr} {c : Nat} {xs : List Int} (h : (Kd.int .i64).R 3 w B (fun k => B ≤ k) (.slice A xs.length c) xs) (hB : B ≤ w.heap.size) :
    KRows.R 22 (w.alloc (.cells #[.slice A xs.length c] 22)) B (fun k => B ≤ k) (.slice (some ⟨w.heap.size, 0, none⟩) 1 1) [xs] := by
  refine ⟨fun k hk => by simp [Value.ownBlock] at hk; omega, [.slice A xs.length c], ⟨rfl, .inr ⟨w.heap.size, 1, #[.slice A xs.length c], rfl, hB, blk_new w _, Nat.le_refl _, by unfold maxLen; omega, rfl, rfl⟩⟩, rfl, fun j p hj => ?_⟩
  match j, hj with
  | 0, hj =>
    obtain rfl : xs = p := by simpa using hj
    refine ⟨_, rfl, ?_⟩
    refine Kd.R_mono (Kd.R_alloc (Kd.R_bound h) _) (fun k hk => ⟨hk.1, ?_⟩)
    have := hk.2.2.1
    simp [Value.ownBlock]
    omega
  | j + 1, hj => simp at hj

set_option maxHeartbeats 400000 in
theorem least_err (A0 : Option Addr) (c0 : Nat) (l : List Int) (k next : Int) (w : World) (r : Int) (hr0 : ∀ W, Below w.heap.size w W → Calls Try.prog 27 #[.slice A0 l.length c0, .int .i64 next] W fun e w' => e = .returned (.int .i64 r) ∧ Below W.heap.size W w') (hr : (r != 0) = true) :
    Calls Try.prog 13 #[.slice A0 l.length c0, .int .i64 k, .int .i64 next] w (LeastPost ([], 0, r) w) := by
  have HC := Aside0.mk hr0
  clear hr0
  go_enter Try.func13, Try.ntmps13
  go_wp2_with ((go_at_call 27; refine (HC.out _ (Below.refl _ _)).mono ?_; rintro e w1 ⟨rfl, hd⟩; have HD := Aside0.mk hd; clear hd))
  go_ret3
  exact ⟨_, rfl, Kd.R_nil _ _ _ _ _, HD.out⟩

set_option maxHeartbeats 400000 in
theorem least_zero (A0 : Option Addr) (c0 : Nat) (l : List Int) (k next : Int) (w : World) (hr0 : ∀ W, Below w.heap.size w W → Calls Try.prog 27 #[.slice A0 l.length c0, .int .i64 next] W fun e w' => e = .returned (.int .i64 0) ∧ Below W.heap.size W w') (hk : k ≤ 0) :
    Calls Try.prog 13 #[.slice A0 l.length c0, .int .i64 k, .int .i64 next] w (LeastPost ([], next, 0) w) := by
  have HC := Aside0.mk hr0
  clear hr0
  go_enter Try.func13, Try.ntmps13
  go_wp2_with ((go_at_call 27; refine (HC.out _ (Below.refl _ _)).mono ?_; rintro e w1 ⟨rfl, hd⟩; have HD := Aside0.mk hd; clear hd))
  go_ret3
  exact ⟨_, rfl, Kd.R_nil _ _ _ _ _, HD.out⟩

set_option maxHeartbeats 400000 in
theorem least_big (A0 : Option Addr) (c0 : Nat) (l : List Int) (k next : Int) (w : World) (hr0 : ∀ W, Below w.heap.size w W → Calls Try.prog 27 #[.slice A0 l.length c0, .int .i64 next] W fun e w' => e = .returned (.int .i64 0) ∧ Below W.heap.size W w') (hl : l.length ≤ 4096) (hk : ¬ k ≤ 0) (hk2 : (l.length : Int) < k) :
    Calls Try.prog 13 #[.slice A0 l.length c0, .int .i64 k, .int .i64 next] w (LeastPost ([[]], next, 0) w) := by
  have HC := Aside0.mk hr0
  clear hr0
  go_enter Try.func13, Try.ntmps13
  go_wp2_with ((go_at_call 27; refine (HC.out _ (Below.refl _ _)).mono ?_; rintro e w1 ⟨rfl, hd⟩; have HD := Aside0.mk hd; clear hd))
  have hd1 := HD.out
  go_ret3
  refine ⟨_, rfl, ?_, (hd1.alloc hd1.size _).alloc (by have := hd1.size; simp; omega) _⟩
  have h1 : (Kd.int .i64).R 3 (w1.alloc (.cells #[] 3)) w.heap.size (fun k => w.heap.size ≤ k) (.slice (some ⟨w1.heap.size, 0, none⟩) 0 0) [] :=
    Kd.R_of_own (own_lit_of (enc := Value.int .i64) w1 w.heap.size 3 [] hd1.size (by simp)) (fun k hk => by have := hd1.size; simp [Value.ownBlock] at hk; omega)
  have h2 := one_row (w := w1.alloc (.cells #[] 3)) (B := w.heap.size) (A := some ⟨w1.heap.size, 0, none⟩) (c := 0) (xs := []) h1 (by have := hd1.size; simp; omega)
  simpa using h2

theorem sq_bound {a b : Nat} (ha : a ≤ 4096) (hb : b ≤ 4096) : a * b ≤ 16777216 := Nat.le_trans (Nat.mul_le_mul ha hb) (by decide)

/-- The number of registers, as the code reckons it. -/
theorem regs_eq {n k : Nat} (hl : n ≤ 4096) (hk : 1 ≤ k) (hk2 : k ≤ n) : wrap64 (wrap64 ((wrap64 ((k : Int) * ((k : Int) - 1))).tdiv 2) + wrap64 ((k : Int) * ((n : Int) - (k : Int) + 1))) = ((sm k n : Nat) : Int) := by
  obtain ⟨d, rfl⟩ : ∃ d, n = k + d := ⟨n - k, by omega⟩
  have h := sm_closed (k := k) d
  obtain ⟨a, ha⟩ : ∃ a, k * k = a := ⟨_, rfl⟩
  obtain ⟨b, hb⟩ : ∃ b, k * d = b := ⟨_, rfl⟩
  have h1 : a ≤ 16777216 := by rw [← ha]; exact sq_bound (by omega) (by omega)
  have h2 : b ≤ 16777216 := by rw [← hb]; exact sq_bound (by omega) (by omega)
  have h3 : k ≤ a := by rw [← ha]; exact Nat.le_mul_of_pos_left _ (by omega)
  rw [ha, Nat.mul_assoc, Nat.mul_add, ha, hb] at h
  have e1 : (k : Int) * ((k : Int) - 1) = (a : Int) - k := by rw [Int.mul_sub, Int.mul_one, ← ha]; simp
  have e2 : (k : Int) * (((k + d : Nat) : Int) - (k : Int) + 1) = (b : Int) + k := by
    rw [show ((k + d : Nat) : Int) - (k : Int) + 1 = (d : Int) + 1 from by omega, Int.mul_add, Int.mul_one, ← hb]; simp
  rw [e1, e2, show wrap64 ((a : Int) - k) = (a : Int) - k from by unfold wrap64; omega, show wrap64 ((b : Int) + k) = (b : Int) + k from by unfold wrap64; omega, Int.tdiv_eq_ediv_of_nonneg (by omega)]
  unfold wrap64
  omega

set_option maxRecDepth 100000 in
set_option maxHeartbeats 1000000 in
theorem least_bound (A0 : Option Addr) (c0 : Nat) (l : List Int) (k : Nat) (next : Int) (w : World) (hr0 : ∀ W, Below w.heap.size w W → Calls Try.prog 27 #[.slice A0 l.length c0, .int .i64 next] W fun e w' => e = .returned (.int .i64 0) ∧ Below W.heap.size W w') (hl : l.length ≤ 4096) (hk : 1 ≤ k) (hk2 : k ≤ l.length) (hn1 : 1 ≤ next) (hn2 : next ≤ 65537)
    (R : Nat) (hR : sm k l.length = R) (hRb : R ≤ 16777216) (hb : 65536 < next + (R : Int) - 1 ∨ 65536 < 2 * (R : Int) - l.length + 1) :
    Calls Try.prog 13 #[.slice A0 l.length c0, .int .i64 k, .int .i64 next] w (LeastPost ([], 0, 2) w) := by
  have HC := Aside0.mk hr0
  have hreg := regs_eq hl hk hk2
  rw [hR] at hreg
  clear hr0 hR
  by_cases h1 : 65536 < next + (R : Int) - 1
  · clear hb
    go_enter Try.func13, Try.ntmps13
    go_wp2_with ((go_at_call 27; refine (HC.out _ (Below.refl _ _)).mono ?_; rintro e w1 ⟨rfl, hd⟩; have HD := Aside0.mk hd; clear hd))
    go_ret3
    exact ⟨_, rfl, Kd.R_nil _ _ _ _ _, HD.out⟩
  · have h2 : 65536 < 2 * (R : Int) - l.length + 1 := hb.resolve_left h1
    clear hb
    go_enter Try.func13, Try.ntmps13
    go_wp2_with ((go_at_call 27; refine (HC.out _ (Below.refl _ _)).mono ?_; rintro e w1 ⟨rfl, hd⟩; have HD := Aside0.mk hd; clear hd))
    go_ret3
    exact ⟨_, rfl, Kd.R_nil _ _ _ _ _, HD.out⟩

end Go.Proofs.Ytpadmbpopjmdjaa.G
