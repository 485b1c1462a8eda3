/-
  cnf.Check, as the print wants it.
-/
import Derived.Test.YtdkfhpgbiohhoaaGCheck
import Derived.Test.YtdkfhpgbiohhoaaGGive
namespace Go.Proofs.Ytdkfhpgbiohhoaa.G
set_option linter.unusedVariables false
open Go.RowKit Go.Proofs.YtdkfhpgbiohhoaaW.PrintWords Go.Proofs.YtdkfhpgbiohhoaaW.PrintLast Go.Proofs.YtdkfhpgbiohhoaaW.PrintMore

def cnf_Check.f (n : Int) (L : List (List Int)) : Option Int := if (0 ≤ n ∧ n ≤ 65536) ∧ L.length ≤ 65536 ∧ L.all (fun l => decide (l.length ≤ 1000000) && wfL l) = true then some (checkB n L) else none
theorem cnf_Check.calls (a0_0 : Int) (A0_1 : Option Addr) (c0_1 : Nat) (l0_1 : List (List Int)) (r : Int) (w : World) (hr0_1 : Kd.C (Kd.slice 3 (Kd.int .i64)) w A0_1 l0_1.length l0_1) (hc0_1 : l0_1.length ≤ c0_1) (h : cnf_Check.f a0_0 l0_1 = some r) :
    Calls Try.prog 20 #[.agg #[.int .i64 a0_0, .slice A0_1 l0_1.length c0_1]] w fun e w' => e = .returned (.int .i64 r) ∧ Below w.heap.size w w' := by
  unfold cnf_Check.f at h
  split at h
  · rename_i hc
    injection h with h
    subst h
    have hall := List.all_eq_true.1 hc.2.2
    refine check_calls a0_0 A0_1 c0_1 l0_1 w hr0_1 hc0_1 (fun l hl => ?_) hc.2.1 (by omega) (fun l hl => ?_)
    · have := hall l hl
      simp only [Bool.and_eq_true, decide_eq_true_eq] at this
      exact this.1
    · have := hall l hl
      simp only [Bool.and_eq_true, decide_eq_true_eq] at this
      exact wfL_mem this.2
  · cases h

#print axioms cnf_Check.calls

end Go.Proofs.Ytdkfhpgbiohhoaa.G
