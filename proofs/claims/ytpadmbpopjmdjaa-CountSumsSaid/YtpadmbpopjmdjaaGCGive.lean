/-
  count.Least and count.Most, as the print wants them.
-/
import Derived.Test.YtpadmbpopjmdjaaGMost
namespace Go.Proofs.Ytpadmbpopjmdjaa.G
set_option linter.unusedVariables false
open Go.RowKit Go.Proofs.YtpadmbpopjmdjaaW.PrintWords Go.Proofs.YtpadmbpopjmdjaaW.PrintLast Go.Proofs.YtpadmbpopjmdjaaW.PrintMore

def count_Least.f (l : List Int) (k next : Int) : Option (List (List Int) × Int × Int) := if l.length ≤ 5000 ∧ wfL l = true then some (leastOf l k next) else none
def count_Most.f (l : List Int) (k next : Int) : Option (List (List Int) × Int × Int) := if l.length ≤ 5000 ∧ wfL l = true then some (mostOf l k next) else none

theorem count_Least.calls (A0 : Option Addr) (c0 : Nat) (l0 : List Int) (a1 : Int) (a2 : Int) (r1 : List (List Int)) (r2 : Int) (r3 : Int) (w : World) (hr0 : Kd.C (Kd.int .i64) w A0 l0.length l0) (hc0 : l0.length ≤ c0) (h : count_Least.f l0 a1 a2 = some (r1, r2, r3)) :
    Calls Try.prog 13 #[.slice A0 l0.length c0, .int .i64 a1, .int .i64 a2] w fun e w' => ∃ v0_, e = .returned (.tuple #[v0_, .int .i64 r2, .int .i64 r3]) ∧ Kd.N (Kd.slice 3 (Kd.int .i64)) 22 w' w.heap.size (fun k_ => (w.heap.size ≤ k_)) v0_ r1 ∧ Below w.heap.size w w' := by
  unfold count_Least.f at h
  split at h
  · rename_i hc
    injection h with h
    have hh := least_calls A0 c0 l0 a1 a2 w hr0 hc0 (by omega) (wfL_mem hc.2)
    rw [h] at hh
    exact hh.mono (fun e w' ⟨v, he, hv, hb⟩ => ⟨v, he, Kd.R_N hv, hb⟩)
  · cases h

theorem count_Most.calls (A0 : Option Addr) (c0 : Nat) (l0 : List Int) (a1 : Int) (a2 : Int) (r1 : List (List Int)) (r2 : Int) (r3 : Int) (w : World) (hr0 : Kd.C (Kd.int .i64) w A0 l0.length l0) (hc0 : l0.length ≤ c0) (h : count_Most.f l0 a1 a2 = some (r1, r2, r3)) :
    Calls Try.prog 16 #[.slice A0 l0.length c0, .int .i64 a1, .int .i64 a2] w fun e w' => ∃ v0_, e = .returned (.tuple #[v0_, .int .i64 r2, .int .i64 r3]) ∧ Kd.N (Kd.slice 3 (Kd.int .i64)) 22 w' w.heap.size (fun k_ => (w.heap.size ≤ k_)) v0_ r1 ∧ Below w.heap.size w w' := by
  unfold count_Most.f at h
  split at h
  · rename_i hc
    injection h with h
    have hh := most_calls A0 c0 l0 a1 a2 w hr0 hc0 (by omega) (wfL_mem hc.2)
    rw [h] at hh
    exact hh.mono (fun e w' ⟨v, he, hv, hb⟩ => ⟨v, he, Kd.R_N hv, hb⟩)
  · cases h

#print axioms count_Least.calls
#print axioms count_Most.calls

end Go.Proofs.Ytpadmbpopjmdjaa.G
