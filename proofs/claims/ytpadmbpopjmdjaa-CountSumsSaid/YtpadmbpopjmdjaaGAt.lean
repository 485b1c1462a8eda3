/-
  total.at and total.Total's closure 'not': the walks.
-/
import Derived.Test.YtpadmbpopjmdjaaGTotalM
import Derived.Test.YtpadmbpopjmdjaaGCountS
import Derived.Test.YtpadmbpopjmdjaaWGuard
import Derived.Outline
import Derived.Deep.DeepMust
import Derived.WalkKit
namespace Go.Proofs.Ytpadmbpopjmdjaa.G
open Go.RowKit Go.Proofs.YtpadmbpopjmdjaaW.PrintWords Go.Proofs.YtpadmbpopjmdjaaW.PrintLast Go.Proofs.YtpadmbpopjmdjaaW.PrintMore

theorem add_zero' (a : Addr) : a.add 0 = a := by unfold Addr.add; simp

set_option maxHeartbeats 400000 in
theorem at_calls (A : Option Addr) (c0 : Nat) (l : List Int) (n : Int) (w : World) (hc : l.length ≤ c0) (hn : n ≤ 140737488355328) :
    Calls Try.prog 36 #[.slice A l.length c0, .int .i64 n] w fun e w' => ∃ A1 c1, e = .returned (.slice A1 (atL l n).length c1) ∧ w = w' ∧ (atL l n).length ≤ c1 ∧ ∀ W, (Kd.int .i64).C W A l.length l → (Kd.int .i64).C W A1 (atL l n).length (atL l n) := by
  by_cases h0 : n < 0
  · go_enter Try.func36, Try.ntmps36
    go_wp2
    go_ret
    have e : atL l n = [] := by unfold atL; rw [if_neg (by omega)]
    exact ⟨none, 0, by rw [e]; rfl, rfl, by rw [e]; exact Nat.le_refl _, fun W _ => by rw [e]; exact Kd.C_nil _ _⟩
  · by_cases h1 : n < l.length
    · obtain ⟨m, rfl⟩ := Int.eq_ofNat_of_zero_le (show 0 ≤ n by omega)
      have hm1 : m < l.length := by omega
      obtain ⟨i0, hi, hz0, hz1, hz2⟩ := info_parts infoT3
      have hrun := cut_mid (P := Try.prog) 22 3 .i64 .i64 Try.underlying22 hi 1 hz1 A l.length c0 (m : Int) ((m : Int) + 1) (by omega) (by omega) (by omega) hc
      have e : atL l (m : Int) = (l.take (m + 1)).drop m := by
        unfold atL
        rw [if_pos ⟨by omega, h1⟩, Int.toNat_natCast]
        apply List.ext_getElem?
        intro j
        rw [List.getElem?_drop, List.getElem?_take]
        cases j with
        | zero => simp [List.getD_eq_getElem?_getD, hm1]
        | succ j => simp
      have elen : (atL l (m : Int)).length = 1 := by unfold atL; rw [if_pos ⟨by omega, h1⟩]; rfl
      have hC : ∀ W, (Kd.int .i64).C W A l.length l → (Kd.int .i64).C W (if c0 = m then A else A.map (·.add (m * (Kd.int .i64).sz))) (atL l (m : Int)).length (atL l (m : Int)) := fun W hW => by
        rw [e]; exact Kd.C_mid hW (by omega) (by omega) hc
      rw [show ((m : Int) + 1).toNat = m + 1 from by omega, Int.toNat_natCast, show m + 1 - m = 1 from by omega] at hrun
      obtain ⟨A1, hA1⟩ : ∃ A1, (if c0 = m then A else A.map (·.add (m * 1))) = A1 := ⟨_, rfl⟩
      rw [show m * (Kd.int .i64).sz = m * 1 from rfl, hA1] at hC
      rw [hA1] at hrun
      rw [elen]
      rw [elen] at hC
      have HC := Aside0.mk hC
      clear hC e elen hA1 hi hz0 hz1 hz2
      go_enter Try.func36, Try.ntmps36
      go_wp2
      go_ret
      exact ⟨A1, c0 - m, rfl, rfl, by omega, HC.out⟩
    · go_enter Try.func36, Try.ntmps36
      go_wp2
      go_ret
      have e : atL l n = [] := by unfold atL; rw [if_neg (by omega)]
      exact ⟨none, 0, by rw [e]; rfl, rfl, by rw [e]; exact Nat.le_refl _, fun W _ => by rw [e]; exact Kd.C_nil _ _⟩

set_option maxHeartbeats 400000 in
theorem not_calls (A : Option Addr) (c0 : Nat) (l : List Int) (w : World) (hr : (Kd.int .i64).C w A l.length l) :
    Calls Try.prog 34 #[.slice A l.length c0] w fun e w' => ∃ v, e = .returned v ∧ (Kd.int .i64).R 3 w' w.heap.size (fun _ => True) v (notL l) ∧ Below w.heap.size w w' := by
  cases l with
  | nil =>
    go_enter Try.func34, Try.ntmps34
    go_wp2
    go_ret
    exact ⟨_, rfl, Kd.R_nil _ _ _ _ _, Below.refl _ _⟩
  | cons x r =>
    obtain ⟨ad, e0, hcell⟩ := Kd.at_int hr 0 (by omega) (by simp)
    subst e0
    simp only [Int.toNat_zero, rd, List.getD_cons_zero, add_zero'] at hcell
    obtain ⟨nn, hnn⟩ : ∃ nn, (x :: r).length = nn := ⟨_, rfl⟩
    have h0 : 0 < nn := by rw [← hnn]; simp
    rw [hnn]
    show Calls Try.prog 34 #[.slice (some ad) nn c0] w fun e w' => ∃ v, e = .returned v ∧ (Kd.int .i64).R 3 w' w.heap.size (fun _ => True) v [wrap64 (-x)] ∧ Below w.heap.size w w'
    clear hr hnn
    go_enter Try.func34, Try.ntmps34
    go_wp2
    go_ret
    exact ⟨.slice (some ⟨w.heap.size, 0, none⟩) 1 1, rfl, Kd.R_of_own (own_lit_of (enc := Value.int .i64) w w.heap.size 3 [wrap64 (-x)] (Nat.le_refl _) (by simp)) (fun _ _ => trivial), below_alloc (Below.refl _ _) _⟩

#print axioms at_calls
#print axioms not_calls

end Go.Proofs.Ytpadmbpopjmdjaa.G
