/-
  What total.apart and its like compute, in plain Lean.
-/
import Derived.RowKit
namespace Go.Proofs.Ytpadmbpopjmdjaa.G
open Go.RowKit

/-- max(x, -x), as Go has it. -/
def vabs (x : Int) : Int := if x < wrap64 (-x) then wrap64 (-x) else x

/-- Are the variables of l from 0 to next - 1, none among S, none twice? -/
def apartFrom (next : Int) : (Int → Bool) → List Int → Bool
  | _, [] => true
  | S, x :: l => if vabs x < 0 then false else if next ≤ vabs x then false else if S (vabs x) = true then false else apartFrom next (fun z => if z = vabs x then true else S z) l

def apartB (l : List Int) (next : Int) : Bool := apartFrom next (fun z => if z = 0 then true else false) l

theorem vabs_wf {x : Int} (h : (Lit.int .i64 x).wf = true) : (Lit.int .i64 (vabs x)).wf = true := by
  have hmin : IntKind.i64.min = -9223372036854775808 := rfl
  have hmax : IntKind.i64.max = 9223372036854775807 := rfl
  simp only [Lit.wf, Bool.and_eq_true, decide_eq_true_eq] at h ⊢
  unfold vabs wrap64
  split <;> omega

theorem drop_rd {l : List Int} {i : Nat} (h : i < l.length) : l.drop i = l.getD i 0 :: l.drop (i + 1) := by
  rw [List.drop_eq_getElem_cons h]
  simp [List.getD_eq_getElem?_getD, h]

end Go.Proofs.Ytpadmbpopjmdjaa.G
