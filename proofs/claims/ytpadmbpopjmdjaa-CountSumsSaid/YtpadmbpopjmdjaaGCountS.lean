/-
  What total.Total's closure 'count' computes, in plain Lean, and bounds on it.
-/
import Derived.RowKit
namespace Go.Proofs.Ytpadmbpopjmdjaa.G
open Go.RowKit

/-- The one element at n, or none. -/
def atL (l : List Int) (n : Int) : List Int := if 0 ≤ n ∧ n < l.length then [l.getD n.toNat 0] else []
/-- The negation of the one element. -/
def notL : List Int → List Int
  | [] => []
  | x :: _ => [wrap64 (-x)]
theorem atL_len (l : List Int) (n : Int) : (atL l n).length ≤ 1 := by unfold atL; split <;> simp
theorem notL_len (l : List Int) : (notL l).length ≤ 1 := by cases l <;> simp [notL]

/-- What is carried along: the next variable, is it full, the clauses. -/
structure TS where
  next : Int
  full : Bool
  cs : List (List Int)

def upC (a b outs : List Int) (i k : Nat) : List Int := notL (atL a ((i : Int) - 1)) ++ notL (atL b ((k : Int) - 1)) ++ atL outs ((i : Int) + k - 1)
def downC (a b outs : List Int) (i k : Nat) : List Int := atL a i ++ atL b k ++ notL (atL outs ((i : Int) + k))
/-- The clauses for i and k. -/
def pairC (a b outs : List Int) (many i k : Nat) : List (List Int) := (if 0 < i + k ∧ i + k ≤ many then [upC a b outs i k] else []) ++ (if i + k < many then [downC a b outs i k] else [])
def rowTo (a b outs : List Int) (many i k : Nat) : List (List Int) := (List.range k).flatMap (pairC a b outs many i)
def mergeTo (a b outs : List Int) (many i : Nat) : List (List Int) := (List.range i).flatMap (fun j => rowTo a b outs many j (b.length + 1))

theorem rowTo_zero (a b outs : List Int) (many i : Nat) : rowTo a b outs many i 0 = [] := rfl
theorem rowTo_succ (a b outs : List Int) (many i k : Nat) : rowTo a b outs many i (k + 1) = rowTo a b outs many i k ++ pairC a b outs many i k := by simp [rowTo, List.range_succ]
theorem mergeTo_zero (a b outs : List Int) (many : Nat) : mergeTo a b outs many 0 = [] := rfl
theorem mergeTo_succ (a b outs : List Int) (many i : Nat) : mergeTo a b outs many (i + 1) = mergeTo a b outs many i ++ rowTo a b outs many i (b.length + 1) := by simp [mergeTo, List.range_succ]

theorem pairC_len (a b outs : List Int) (many i k : Nat) : (pairC a b outs many i k).length ≤ 2 := by
  unfold pairC
  split <;> split <;> simp
theorem rowTo_len (a b outs : List Int) (many i k : Nat) : (rowTo a b outs many i k).length ≤ 2 * k := by
  induction k with
  | zero => simp [rowTo_zero]
  | succ k ih =>
    rw [rowTo_succ, List.length_append]
    have := pairC_len a b outs many i k
    omega
theorem mergeTo_len (a b outs : List Int) (many i : Nat) : (mergeTo a b outs many i).length ≤ 2 * (b.length + 1) * i := by
  induction i with
  | zero => simp [mergeTo_zero]
  | succ i ih =>
    rw [mergeTo_succ, List.length_append]
    have := rowTo_len a b outs many i (b.length + 1)
    rw [Nat.mul_succ]
    omega

/-- min(len(l), most). -/
def manyOf (n : Nat) (most : Int) : Int := if most < (n : Int) then most else n
/-- The new variables. -/
def outsOf (next : Int) (many : Nat) : List Int := (List.range many).map fun (i : Nat) => next + (i : Int)

/-- The new variables, the first i of them filled in. -/
def fillTo (next : Int) (many i : Nat) : List Int := (List.range many).map fun (j : Nat) => if j < i then next + (j : Int) else 0
theorem fillTo_zero (next : Int) (many : Nat) : fillTo next many 0 = List.replicate many 0 := by
  unfold fillTo
  apply List.ext_getElem (by simp)
  intro j h1 h2
  simp
theorem fillTo_all (next : Int) (many : Nat) : fillTo next many many = outsOf next many := by
  unfold fillTo outsOf
  apply List.map_congr_left
  intro j hj
  rw [if_pos (List.mem_range.1 hj)]
theorem fillTo_set (next : Int) (many i : Nat) : (fillTo next many i).set i (next + (i : Int)) = fillTo next many (i + 1) := by
  unfold fillTo
  apply List.ext_getElem (by simp)
  intro j h1 h2
  rw [List.getElem_set]
  simp only [List.getElem_map, List.getElem_range]
  by_cases e : i = j
  · subst e
    simp
  · rw [if_neg e]
    by_cases e2 : j < i
    · rw [if_pos e2, if_pos (by omega)]
    · rw [if_neg e2, if_neg (by omega)]
theorem fillTo_len (next : Int) (many i : Nat) : (fillTo next many i).length = many := by simp [fillTo]

def cnt (most : Int) : Nat → TS → List Int → List Int × TS
  | 0, s, l => (l, s)
  | f + 1, s, l =>
    if l.length = 1 ∨ s.full = true then (l, s) else
    let r1 := cnt most f s (l.take (l.length / 2))
    let r2 := cnt most f r1.2 (l.drop (l.length / 2))
    let many := manyOf l.length most
    if r2.2.full = true ∨ 65537 < r2.2.next + many then ([], { r2.2 with full := true }) else
    let outs := outsOf r2.2.next many.toNat
    (outs, { next := r2.2.next + many, full := false, cs := r2.2.cs ++ mergeTo r1.1 r2.1 outs many.toNat (r1.1.length + 1) })

theorem cnt_stop {most : Int} {f : Nat} {s : TS} {l : List Int} (h : l.length = 1 ∨ s.full = true) : cnt most (f + 1) s l = (l, s) := by
  rw [cnt, if_pos h]

theorem cnt_next_step {most : Int} {f : Nat} {s : TS} {l : List Int} {r1 r2 : List Int × TS} (h : ¬ (l.length = 1 ∨ s.full = true)) (e1 : cnt most f s (l.take (l.length / 2)) = r1) (e2 : cnt most f r1.2 (l.drop (l.length / 2)) = r2) :
    cnt most (f + 1) s l = if r2.2.full = true ∨ 65537 < r2.2.next + manyOf l.length most then ([], { r2.2 with full := true }) else
      (outsOf r2.2.next (manyOf l.length most).toNat, { next := r2.2.next + manyOf l.length most, full := false, cs := r2.2.cs ++ mergeTo r1.1 r2.1 (outsOf r2.2.next (manyOf l.length most).toNat) (manyOf l.length most).toNat (r1.1.length + 1) }) := by
  rw [cnt, if_neg h]
  dsimp only
  rw [e1, e2]

theorem manyOf_le (n : Nat) (most : Int) : manyOf n most ≤ n := by unfold manyOf; split <;> omega
theorem manyOf_ge {n : Nat} {most : Int} (h : 1 ≤ most) (hn : 1 ≤ n) : 1 ≤ manyOf n most := by unfold manyOf; split <;> omega
theorem outsOf_length (next : Int) (many : Nat) : (outsOf next many).length = many := by simp [outsOf]

theorem cnt_len {most : Int} (f : Nat) : ∀ (s : TS) (l : List Int), (cnt most f s l).1.length ≤ l.length := by
  cases f with
  | zero => intro s l; simp [cnt]
  | succ f =>
    intro s l
    rw [cnt]
    split
    · simp
    · dsimp only
      split
      · simp
      · rw [outsOf_length]
        have := manyOf_le l.length most
        omega

theorem cnt_next {most : Int} (hm : 1 ≤ most) (f : Nat) : ∀ (s : TS) (l : List Int), 1 ≤ s.next → s.next ≤ 65537 → 1 ≤ l.length → l.length ≤ f → s.next ≤ (cnt most f s l).2.next ∧ (cnt most f s l).2.next ≤ 65537 := by
  induction f with
  | zero => intro s l _ _ h1 h2; omega
  | succ f ih =>
    intro s l h1 h2 h3 h4
    rw [cnt]
    split
    · exact ⟨Int.le_refl _, h2⟩
    · rename_i hne
      dsimp only
      have hl : l.length ≠ 1 := fun e => hne (.inl e)
      have t1 : (l.take (l.length / 2)).length = l.length / 2 := by rw [List.length_take]; omega
      have t2 : (l.drop (l.length / 2)).length = l.length - l.length / 2 := List.length_drop
      have i1 := ih s (l.take (l.length / 2)) h1 h2 (by omega) (by omega)
      have i2 := ih (cnt most f s (l.take (l.length / 2))).2 (l.drop (l.length / 2)) (by omega) (by omega) (by omega) (by omega)
      split
      · exact ⟨by simpa using Int.le_trans i1.1 i2.1, by simpa using i2.2⟩
      · rename_i hc
        have : ¬ 65537 < (cnt most f (cnt most f s (l.take (l.length / 2))).2 (l.drop (l.length / 2))).2.next + manyOf l.length most := fun e => hc (.inr e)
        have := manyOf_ge hm (show 1 ≤ l.length from h3)
        show s.next ≤ _ + manyOf l.length most ∧ _ + manyOf l.length most ≤ 65537
        omega

theorem cnt_cs {most : Int} (f : Nat) : ∀ (s : TS) (l : List Int), 1 ≤ l.length → l.length ≤ f → l.length ≤ 40 → (cnt most f s l).2.cs.length ≤ s.cs.length + 4000 * (l.length - 1) := by
  induction f with
  | zero => intro s l h1 h2; omega
  | succ f ih =>
    intro s l h1 h2 h3
    rw [cnt]
    split
    · show s.cs.length ≤ _; omega
    · rename_i hne
      dsimp only
      have hl : l.length ≠ 1 := fun e => hne (.inl e)
      have t1 : (l.take (l.length / 2)).length = l.length / 2 := by rw [List.length_take]; omega
      have t2 : (l.drop (l.length / 2)).length = l.length - l.length / 2 := List.length_drop
      have i1 := ih s (l.take (l.length / 2)) (by omega) (by omega) (by omega)
      have i2 := ih (cnt most f s (l.take (l.length / 2))).2 (l.drop (l.length / 2)) (by omega) (by omega) (by omega)
      split
      · show (cnt most f (cnt most f s (l.take (l.length / 2))).2 (l.drop (l.length / 2))).2.cs.length ≤ _
        omega
      · show ((cnt most f (cnt most f s (l.take (l.length / 2))).2 (l.drop (l.length / 2))).2.cs ++ mergeTo _ _ _ _ _).length ≤ _
        rw [List.length_append]
        have b1 := cnt_len (most := most) f s (l.take (l.length / 2))
        have b2 := cnt_len (most := most) f (cnt most f s (l.take (l.length / 2))).2 (l.drop (l.length / 2))
        have m := mergeTo_len (cnt most f s (l.take (l.length / 2))).1 (cnt most f (cnt most f s (l.take (l.length / 2))).2 (l.drop (l.length / 2))).1 (outsOf (cnt most f (cnt most f s (l.take (l.length / 2))).2 (l.drop (l.length / 2))).2.next (manyOf l.length most).toNat) (manyOf l.length most).toNat ((cnt most f s (l.take (l.length / 2))).1.length + 1)
        have e1 : 2 * ((cnt most f (cnt most f s (l.take (l.length / 2))).2 (l.drop (l.length / 2))).1.length + 1) * ((cnt most f s (l.take (l.length / 2))).1.length + 1) ≤ 2 * 41 * 41 := Nat.mul_le_mul (Nat.mul_le_mul_left _ (by omega)) (by omega)
        omega

end Go.Proofs.Ytpadmbpopjmdjaa.G
