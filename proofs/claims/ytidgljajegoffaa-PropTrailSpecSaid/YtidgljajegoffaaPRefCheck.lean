/-
  The reference's Check says what prop.Check says: in plain Lean.
-/
import Derived.Test.YtidgljajegoffaaPLev
namespace Go.Proofs.Ytidgljajegoffaa.G
set_option linter.unusedVariables false
open Go.RowKit Go.Proofs.YtidgljajegoffaaW.PrintWords Go.Proofs.YtidgljajegoffaaW.PrintLast Go.Proofs.YtidgljajegoffaaW.PrintMore
open Go.Proofs.Ytidgljajegoffaa.QRef

theorem has_l0 {l : List Int} {x : Int} (hl : l.length ≤ 1000000) : ∀ (d i K : Nat), l.length = i + d → d + 1 ≤ K → chalklineref14_Has.l0 K l x (i : Int) = some ((l.drop i).contains x) := by
  intro d
  induction d with
  | zero =>
    intro i K hd hK
    obtain ⟨K, rfl⟩ : ∃ j, K = j + 1 := ⟨K - 1, by omega⟩
    rw [chalklineref14_Has.l0, if_neg (by omega), List.drop_of_length_le (by omega)]
    rfl
  | succ d ih =>
    intro i K hd hK
    obtain ⟨K, rfl⟩ : ∃ j, K = j + 1 := ⟨K - 1, by omega⟩
    have hi : i < l.length := by omega
    rw [chalklineref14_Has.l0, if_pos (by omega), if_pos (by omega), show wrap64 ((i : Int) + 1) = ((i + 1 : Nat) : Int) from by unfold wrap64; omega, drop_rd hi, show rd l (i : Int) = l.getD i 0 by simp [rd]]
    by_cases h : l.getD i 0 = x
    · rw [if_pos h, h]; simp
    · rw [if_neg h, ih (i + 1) K (by omega) (by omega)]
      simp only [List.contains_cons]
      rw [show (x == l.getD i 0) = false from beq_eq_false_iff_ne.2 (fun e => h e.symm)]
      rfl
theorem has_f {l : List Int} {x : Int} (hl : l.length ≤ 1000000) {K : Nat} (hK : l.length + 1 ≤ K) : chalklineref14_Has.f K l x = some (l.contains x) := by
  have h := has_l0 (x := x) hl l.length 0 K (by omega) hK
  rw [List.drop_zero] at h
  exact h
theorem is_f {x n : Int} (hn : 0 ≤ n ∧ n ≤ 65536) : chalklineref14_Is.f x n = some (decide (x ≠ 0 ∧ -n ≤ x ∧ x ≤ n)) := by
  have e : wrap64 (-n) = -n := by unfold wrap64; omega
  unfold chalklineref14_Is.f
  rw [e]
  by_cases h0 : x = 0
  · rw [if_pos h0, decide_eq_false (by omega)]
  rw [if_neg h0]
  by_cases h1 : x ≥ -n
  · rw [if_pos h1]
    by_cases h2 : x ≤ n
    · rw [decide_eq_true h2, decide_eq_true (by omega)]
    · rw [decide_eq_false h2, decide_eq_false (by omega)]
  · rw [if_neg h1, decide_eq_false (by omega)]
theorem mayB_dec {n x : Int} (hn : 0 ≤ n ∧ n ≤ 65536) : mayB n x = decide (x ≠ 0 ∧ -n ≤ x ∧ x ≤ n) := by
  have e : wrap64 (-n) = -n := by unfold wrap64; omega
  unfold mayB QSmall.cnf_lit_may.f
  rw [e]
  by_cases h0 : x = 0
  · rw [if_pos h0, decide_eq_false (by omega)]; rfl
  rw [if_neg h0]
  by_cases h1 : -n ≤ x
  · rw [if_pos h1]
    by_cases h2 : x ≤ n
    · rw [decide_eq_true (show x ≠ 0 ∧ -n ≤ x ∧ x ≤ n from ⟨h0, h1, h2⟩)]; simp [h2]
    · rw [decide_eq_false (by omega)]; simp; omega
  · rw [if_neg h1, decide_eq_false (by omega)]; rfl

/-- One row of the reference's check. -/
theorem rc_l1 {n : Int} (hn : 0 ≤ n ∧ n ≤ 65536) {cs : List (List Int)} (hc : cs.length ≤ 1000000) (i : Nat) (hi : i < cs.length) (hr : (cs.getD i []).length ≤ 1000000) {F : Nat} {R : Option Int} (hend : ∀ K, F ≤ K → chalklineref14_Check.l0 K ((i + 1 : Nat) : Int) n cs = R) : ∀ (d j K : Nat), (cs.getD i []).length = j + d → F + d + 1 ≤ K →
    chalklineref14_Check.l1 K (i : Int) (j : Int) n cs = if ((cs.getD i []).drop j).any (fun x => !(mayB n x)) = true then some 1 else R := by
  intro d
  have hrd : rd_L2 cs (i : Int) = cs.getD i [] := by simp [rd_L2]
  induction d with
  | zero =>
    intro j K hd hK
    obtain ⟨K, rfl⟩ : ∃ j, K = j + 1 := ⟨K - 1, by omega⟩
    rw [chalklineref14_Check.l1, if_pos (by omega), if_pos (by omega), hrd, if_neg (by omega), List.drop_of_length_le (by omega), show wrap64 ((i : Int) + 1) = ((i + 1 : Nat) : Int) from by unfold wrap64; omega, hend K (by omega)]
    simp
  | succ d ih =>
    intro j K hd hK
    obtain ⟨K, rfl⟩ : ∃ j, K = j + 1 := ⟨K - 1, by omega⟩
    have hj : j < (cs.getD i []).length := by omega
    rw [chalklineref14_Check.l1, if_pos (by omega), if_pos (by omega), hrd, if_pos (by omega), if_pos (by omega), is_f hn, show wrap64 ((j : Int) + 1) = ((j + 1 : Nat) : Int) from by unfold wrap64; omega, drop_rd hj, show rd (cs.getD i []) (j : Int) = (cs.getD i []).getD j 0 by simp [rd], ← mayB_dec hn, List.any_cons]
    simp only [Option.bind_some]
    cases hm : mayB n ((cs.getD i []).getD j 0) with
    | true => rw [if_pos rfl, ih (j + 1) K (by omega) (by omega)]; rfl
    | false => rw [if_neg (by decide)]; rfl
theorem rc_l0 {n : Int} (hn : 0 ≤ n ∧ n ≤ 65536) {cs : List (List Int)} (hc : cs.length ≤ 65536) (hr : ∀ c ∈ cs, c.length ≤ 1000) : ∀ (d i K : Nat), cs.length = i + d → d * 1003 + 1 ≤ K → chalklineref14_Check.l0 K (i : Int) n cs = some (if (cs.drop i).any (fun l => l.any (fun x => !(mayB n x))) = true then 1 else 0) := by
  intro d
  induction d with
  | zero =>
    intro i K hd hK
    obtain ⟨K, rfl⟩ : ∃ j, K = j + 1 := ⟨K - 1, by omega⟩
    rw [chalklineref14_Check.l0, if_neg (by omega), if_neg (by omega), List.drop_of_length_le (by omega)]
    rfl
  | succ d ih =>
    intro i K hd hK
    obtain ⟨K, rfl⟩ : ∃ j, K = j + 1 := ⟨K - 1, by omega⟩
    have hi : i < cs.length := by omega
    have hm : cs.getD i [] ∈ cs := by simp [List.getD_eq_getElem?_getD, hi]
    have hl := hr _ hm
    obtain ⟨F0, hF0⟩ : ∃ F0, d * 1003 + 1 = F0 := ⟨_, rfl⟩
    rw [hF0] at ih
    have hF1 : F0 + 1003 ≤ K + 1 := by omega
    clear hF0 hK
    have hnext : ∀ K, F0 ≤ K → chalklineref14_Check.l0 K ((i + 1 : Nat) : Int) n cs = some (if (cs.drop (i + 1)).any (fun l => l.any (fun x => !(mayB n x))) = true then 1 else 0) := fun K hK => ih (i + 1) K (by omega) hK
    have h := rc_l1 hn (by omega) i hi (by omega) hnext (cs.getD i []).length 0 K (by omega) (by omega)
    rw [chalklineref14_Check.l0, if_pos (by omega)]
    rw [List.drop_zero] at h
    refine h.trans ?_
    rw [List.drop_eq_getElem_cons hi, List.any_cons, show cs.getD i [] = cs[i] by simp [List.getD_eq_getElem?_getD, hi]]
    cases (cs[i]).any (fun x => !(mayB n x)) with
    | true => rw [if_pos rfl]; rfl
    | false => rw [if_neg (by decide), Bool.false_or]
theorem rc_f {n : Int} {cs : List (List Int)} (hc : cs.length ≤ 200) (hr : ∀ c ∈ cs, c.length ≤ 1000) {K : Nat} (hK : 300000 ≤ K) : chalklineref14_Check.f K n cs = some (checkB n cs) := by
  obtain ⟨K, rfl⟩ : ∃ j, K = j + 1 := ⟨K - 1, by omega⟩
  unfold chalklineref14_Check.f checkB
  by_cases h1 : n < 0
  · rw [if_pos h1, chalklineref14_Check.j0, if_pos rfl, if_pos (.inl h1)]
  rw [if_neg h1]
  by_cases h2 : n > 65536
  · rw [decide_eq_true h2, chalklineref14_Check.j0, if_pos rfl, if_pos (.inr h2)]
  rw [decide_eq_false h2, chalklineref14_Check.j0, if_neg (by decide), if_neg (by omega), show (0 : Int) = ((0 : Nat) : Int) from rfl, rc_l0 ⟨by omega, by omega⟩ (by omega) hr cs.length 0 K (by omega) (by omega), List.drop_zero, if_neg (show ¬ 65536 < cs.length by omega)]
  rfl

#print axioms rc_f
end Go.Proofs.Ytidgljajegoffaa.G
