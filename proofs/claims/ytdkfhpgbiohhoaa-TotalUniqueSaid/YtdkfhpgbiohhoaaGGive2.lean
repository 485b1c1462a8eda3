/-
  cnf.Holds, as the print wants it.
-/
import Derived.Test.YtdkfhpgbiohhoaaGHolds
import Derived.Test.YtdkfhpgbiohhoaaGGive
namespace Go.Proofs.Ytdkfhpgbiohhoaa.G
set_option linter.unusedVariables false
open Go.RowKit Go.Proofs.YtdkfhpgbiohhoaaW.PrintWords Go.Proofs.YtdkfhpgbiohhoaaW.PrintLast Go.Proofs.YtdkfhpgbiohhoaaW.PrintMore

def cnf_Holds.f (l : List Int) (a : List Bool) : Option Bool := if l.length ≤ 1000000 ∧ wfL l = true then some (holdsB l a) else none
theorem cnf_Holds.calls (A0 : Option Addr) (c0 : Nat) (l0 : List Int) (A1 : Option Addr) (c1 : Nat) (l1 : List Bool) (r : Bool) (w : World) (hr0 : Kd.C (Kd.int .i64) w A0 l0.length l0) (hc0 : l0.length ≤ c0) (hr1 : Kd.C Kd.bool w A1 l1.length l1) (hc1 : l1.length ≤ c1) (h : cnf_Holds.f l0 l1 = some r) :
    Calls Try.prog 29 #[.slice A0 l0.length c0, .slice A1 l1.length c1] w fun e w' => e = .returned (.bool r) ∧ Below w.heap.size w w' := by
  unfold cnf_Holds.f at h
  split at h
  · rename_i hc
    injection h with h
    subst h
    exact holds_calls A1 c1 l1 A0 c0 l0 w hr1 hc1 hr0 (by omega) (wfL_mem hc.2)
  · cases h

#print axioms cnf_Holds.calls

end Go.Proofs.Ytdkfhpgbiohhoaa.G
