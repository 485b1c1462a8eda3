/-
  cnf.Holds and cnf.Check, as the print wants them (chapter 16).
-/
import Derived.Test.YtpadmbpopjmdjaaGCheck
import Derived.Test.YtpadmbpopjmdjaaGLeastC
namespace Go.Proofs.Ytpadmbpopjmdjaa.G
set_option linter.unusedVariables false
open Go.RowKit Go.Proofs.YtpadmbpopjmdjaaW.PrintWords Go.Proofs.YtpadmbpopjmdjaaW.PrintLast Go.Proofs.YtpadmbpopjmdjaaW.PrintMore

def cnf_Holds.f (l : List Int) (a : List Bool) : Option Bool := if l.length ≤ 1000000 ∧ wfL l = true then some (holdsB l a) else none
theorem cnf_Holds.calls (A0 : Option Addr) (c0 : Nat) (l0 : List Int) (A1 : Option Addr) (c1 : Nat) (l1 : List Bool) (r : Bool) (w : World) (hr0 : Kd.C (Kd.int .i64) w A0 l0.length l0) (hc0 : l0.length ≤ c0) (hr1 : Kd.C Kd.bool w A1 l1.length l1) (hc1 : l1.length ≤ c1) (h : cnf_Holds.f l0 l1 = some r) :
    Calls Try.prog 23 #[.slice A0 l0.length c0, .slice A1 l1.length c1] w fun e w' => e = .returned (.bool r) ∧ Below w.heap.size w w' := by
  unfold cnf_Holds.f at h
  split at h
  · rename_i hc
    injection h with h
    subst h
    exact holds_calls A1 c1 l1 A0 c0 l0 w hr1 hc1 hr0 (by omega) (wfL_mem hc.2)
  · cases h

def cnf_Check.f (n : Int) (L : List (List Int)) : Option Int := if (0 ≤ n ∧ n ≤ 65536) ∧ L.length ≤ 65536 ∧ L.all (fun l => decide (l.length ≤ 1000000) && wfL l) = true then some (checkB n L) else none
theorem cnf_Check.calls (a0_0 : Int) (A0_1 : Option Addr) (c0_1 : Nat) (l0_1 : List (List Int)) (r : Int) (w : World) (hr0_1 : Kd.C (Kd.slice 3 (Kd.int .i64)) w A0_1 l0_1.length l0_1) (hc0_1 : l0_1.length ≤ c0_1) (h : cnf_Check.f a0_0 l0_1 = some r) :
    Calls Try.prog 25 #[.agg #[.int .i64 a0_0, .slice A0_1 l0_1.length c0_1]] w fun e w' => e = .returned (.int .i64 r) ∧ Below w.heap.size w w' := by
  unfold cnf_Check.f at h
  split at h
  · rename_i hc
    injection h with h
    subst h
    have hall := List.all_eq_true.1 hc.2.2
    refine check_calls a0_0 A0_1 c0_1 l0_1 w hr0_1 hc0_1 (fun l hl => ?_) hc.2.1 (by omega) (fun l hl => ?_)
    · have := hall l hl
      simp only [Bool.and_eq_true, decide_eq_true_eq] at this
      exact this.1
    · have := hall l hl
      simp only [Bool.and_eq_true, decide_eq_true_eq] at this
      exact wfL_mem this.2
  · cases h

#print axioms cnf_Check.calls

end Go.Proofs.Ytpadmbpopjmdjaa.G
