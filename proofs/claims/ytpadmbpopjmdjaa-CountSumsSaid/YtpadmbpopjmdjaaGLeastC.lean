/-
  count.Least: its contract, whole; and in the print's form.
-/
import Derived.Test.YtpadmbpopjmdjaaGLeast2
namespace Go.Proofs.Ytpadmbpopjmdjaa.G
set_option linter.unusedVariables false
open Go.RowKit Go.Proofs.YtpadmbpopjmdjaaW.PrintWords Go.Proofs.YtpadmbpopjmdjaaW.PrintLast Go.Proofs.YtpadmbpopjmdjaaW.PrintMore

theorem least_calls (A0 : Option Addr) (c0 : Nat) (l : List Int) (k next : Int) (w : World) (hr : Kd.C (Kd.int .i64) w A0 l.length l) (hc : l.length ≤ c0) (hm : l.length < 140737488355328) (hl : ∀ x ∈ l, (Lit.int .i64 x).wf = true) :
    Calls Try.prog 13 #[.slice A0 l.length c0, .int .i64 k, .int .i64 next] w (LeastPost (leastOf l k next) w) := by
  have hr0 : ∀ W, Below w.heap.size w W → Calls Try.prog 27 #[.slice A0 l.length c0, .int .i64 next] W fun e w' => e = .returned (.int .i64 (rightE l next)) ∧ Below W.heap.size W w' :=
    fun W hW => right_calls A0 c0 l next W (Kd.C_below hr hW) hc hm hl
  unfold leastOf
  by_cases h0 : rightE l next = 0
  · rw [if_neg (by simpa using h0)]
    rw [h0] at hr0
    obtain ⟨hn1, hn2, hl1, _⟩ := rightE_ok h0
    by_cases h1 : k ≤ 0
    · rw [if_pos h1]
      exact least_zero A0 c0 l k next w hr0 h1
    rw [if_neg h1]
    by_cases h2 : (l.length : Int) < k
    · rw [if_pos h2]
      exact least_big A0 c0 l k next w hr0 hl1 h1 h2
    rw [if_neg h2]
    obtain ⟨K, rfl⟩ : ∃ K : Nat, k = K := ⟨k.toNat, by omega⟩
    rw [Int.toNat_natCast]
    have hsb : sm K l.length ≤ 16777216 := Nat.le_trans (sm_le K l.length) (sq_bound hl1 (by omega))
    by_cases h3 : 65536 < next + (sm K l.length : Int) - 1
    · rw [if_pos h3]
      exact least_bound A0 c0 l K next w hr0 hl1 (by omega) (by omega) hn1 hn2 _ rfl hsb (.inl h3)
    rw [if_neg h3]
    by_cases h4 : 65536 < 2 * (sm K l.length : Int) - l.length + 1
    · rw [if_pos h4]
      exact least_bound A0 c0 l K next w hr0 hl1 (by omega) (by omega) hn1 hn2 _ rfl hsb (.inr h4)
    rw [if_neg h4]
    exact least_rows A0 c0 l K next w hr hc hr0 hl1 (by omega) (by omega) hn1 hn2 (fun x hx => by have := rightE_mem h0 hl x hx; omega) _ rfl h3 h4
  · rw [if_pos h0]
    exact least_err A0 c0 l k next w _ hr0 (by simpa using h0)

/-- All in Go's range? -/
def wfL (l : List Int) : Bool := l.all (fun x => (Lit.int .i64 x).wf)
theorem wfL_mem {l : List Int} (h : wfL l = true) : ∀ x ∈ l, (Lit.int .i64 x).wf = true := by simpa [wfL] using h

#print axioms least_calls

end Go.Proofs.Ytpadmbpopjmdjaa.G
