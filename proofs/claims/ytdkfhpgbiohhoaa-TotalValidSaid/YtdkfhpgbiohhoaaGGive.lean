/-
  total.Total and the reference's, as the print wants them.
-/
import Derived.Test.YtdkfhpgbiohhoaaGRefTotal
namespace Go.Proofs.Ytdkfhpgbiohhoaa.G
open Go.RowKit Go.Proofs.YtdkfhpgbiohhoaaW.PrintWords Go.Proofs.YtdkfhpgbiohhoaaW.PrintLast Go.Proofs.YtdkfhpgbiohhoaaW.PrintMore

/-- All in Go's range? -/
def wfL (l : List Int) : Bool := l.all (fun x => (Lit.int .i64 x).wf)
theorem wfL_mem {l : List Int} (h : wfL l = true) : ∀ x ∈ l, (Lit.int .i64 x).wf = true := by simpa [wfL] using h

def total_Total.f (l : List Int) (most next : Int) : Option (List Int × List (List Int) × Int × Int) := if l.length ≤ 40 ∧ wfL l = true then some (totalOf l most next) else none
def chalklineref15_Total.f (l : List Int) (most next : Int) : Option (List Int × List (List Int) × Int × Int) := if l.length ≤ 40 ∧ wfL l = true then some (totalOf l most next) else none

theorem total_Total.calls (A0 : Option Addr) (c0 : Nat) (l0 : List Int) (a1 : Int) (a2 : Int) (r1 : List Int) (r2 : List (List Int)) (r3 : Int) (r4 : Int) (w : World) (hr0 : Kd.C (Kd.int .i64) w A0 l0.length l0) (hc0 : l0.length ≤ c0) (h : total_Total.f l0 a1 a2 = some (r1, r2, r3, r4)) :
    Calls Try.prog 11 #[.slice A0 l0.length c0, .int .i64 a1, .int .i64 a2] w fun e w' => ∃ v0_ v1_, e = .returned (.tuple #[v0_, v1_, .int .i64 r3, .int .i64 r4]) ∧ Kd.R (Kd.int .i64) 3 w' w.heap.size (fun k_ => (w.heap.size ≤ k_)) v0_ r1 ∧
      Kd.N (Kd.slice 3 (Kd.int .i64)) 22 w' w.heap.size (fun k_ => (w.heap.size ≤ k_) ∧ some k_ ≠ (v0_ : Value).ownBlock) v1_ r2 ∧ Below w.heap.size w w' := by
  unfold total_Total.f at h
  split at h
  · rename_i hc
    injection h with h
    have hh := total_calls A0 c0 l0 a1 a2 w hc.1 hc0 hr0 (wfL_mem hc.2)
    rw [h] at hh
    exact hh
  · cases h

theorem chalklineref15_Total.calls (A0 : Option Addr) (c0 : Nat) (l0 : List Int) (a1 : Int) (a2 : Int) (r1 : List Int) (r2 : List (List Int)) (r3 : Int) (r4 : Int) (w : World) (hr0 : Kd.C (Kd.int .i64) w A0 l0.length l0) (hc0 : l0.length ≤ c0) (h : chalklineref15_Total.f l0 a1 a2 = some (r1, r2, r3, r4)) :
    Calls Try.prog 12 #[.slice A0 l0.length c0, .int .i64 a1, .int .i64 a2] w fun e w' => ∃ v0_ v1_, e = .returned (.tuple #[v0_, v1_, .int .i64 r3, .int .i64 r4]) ∧ Kd.R (Kd.int .i64) 3 w' w.heap.size (fun k_ => (w.heap.size ≤ k_)) v0_ r1 ∧
      Kd.N (Kd.slice 3 (Kd.int .i64)) 22 w' w.heap.size (fun k_ => (w.heap.size ≤ k_) ∧ some k_ ≠ (v0_ : Value).ownBlock) v1_ r2 ∧ Below w.heap.size w w' := by
  unfold chalklineref15_Total.f at h
  split at h
  · rename_i hc
    injection h with h
    have hh := rtotal_calls A0 c0 l0 a1 a2 w hc.1 hc0 hr0 (wfL_mem hc.2)
    rw [h] at hh
    exact hh
  · cases h

#print axioms total_Total.calls
#print axioms chalklineref15_Total.calls

end Go.Proofs.Ytdkfhpgbiohhoaa.G
