/-
  What Least and Most answer, case by case; the literals that they take: in plain Lean.
-/
import Derived.Test.YtpadmbpopjmdjaaGCModel
import Derived.Test.YtpadmbpopjmdjaaGCheck
import Derived.Test.YtpadmbpopjmdjaaGCRef
namespace Go.Proofs.Ytpadmbpopjmdjaa.G
set_option linter.unusedVariables false
open Go.RowKit Go.Proofs.YtpadmbpopjmdjaaW.PrintWords Go.Proofs.YtpadmbpopjmdjaaW.PrintLast

theorem leastOf_err {l : List Int} {k next : Int} (h : (leastOf l k next).2.2 ≠ 0) : (leastOf l k next).1 = [] ∧ (leastOf l k next).2.1 = 0 := by
  unfold leastOf at h ⊢
  by_cases h0 : rightE l next = 0
  · rw [if_neg (show ¬ rightE l next ≠ 0 from fun h => h h0)] at h ⊢
    by_cases h1 : k ≤ 0
    · rw [if_pos h1] at h; exact (h rfl).elim
    rw [if_neg h1] at h ⊢
    by_cases h2 : (l.length : Int) < k
    · rw [if_pos h2] at h; exact (h rfl).elim
    rw [if_neg h2] at h ⊢
    by_cases h3 : 65536 < next + (sm k.toNat l.length : Int) - 1
    · rw [if_pos h3]; exact ⟨rfl, rfl⟩
    rw [if_neg h3] at h ⊢
    by_cases h4 : 65536 < 2 * (sm k.toNat l.length : Int) - l.length + 1
    · rw [if_pos h4]; exact ⟨rfl, rfl⟩
    rw [if_neg h4] at h; exact (h rfl).elim
  · rw [if_pos h0]; exact ⟨rfl, rfl⟩

theorem leastOf_ok {l : List Int} {k next : Int} (h : (leastOf l k next).2.2 = 0) : rightE l next = 0 ∧
    ((k ≤ 0 ∧ leastOf l k next = ([], next, 0)) ∨ ((l.length : Int) < k ∧ leastOf l k next = ([[]], next, 0)) ∨
     ∃ K : Nat, k = K ∧ 1 ≤ K ∧ K ≤ l.length ∧ next + (sm K l.length : Int) ≤ 65537 ∧ leastOf l k next = (leastCs next K l, next + sm K l.length, 0)) := by
  unfold leastOf at h ⊢
  by_cases h0 : rightE l next = 0
  · rw [if_neg (show ¬ rightE l next ≠ 0 from fun h => h h0)] at h ⊢
    refine ⟨h0, ?_⟩
    by_cases h1 : k ≤ 0
    · rw [if_pos h1]; exact .inl ⟨h1, rfl⟩
    rw [if_neg h1] at h ⊢
    by_cases h2 : (l.length : Int) < k
    · rw [if_pos h2]; exact .inr (.inl ⟨h2, rfl⟩)
    rw [if_neg h2] at h ⊢
    by_cases h3 : 65536 < next + (sm k.toNat l.length : Int) - 1
    · rw [if_pos h3] at h; cases h
    rw [if_neg h3] at h ⊢
    by_cases h4 : 65536 < 2 * (sm k.toNat l.length : Int) - l.length + 1
    · rw [if_pos h4] at h; cases h
    rw [if_neg h4]
    refine .inr (.inr ⟨k.toNat, by omega, by omega, by omega, by omega, rfl⟩)
  · rw [if_pos h0] at h; exact (h0 h).elim

theorem right_gr {l : List Int} {next : Int} (h : rightE l next = 0) (hw : ∀ x ∈ l, (Lit.int .i64 x).wf = true) : ∀ x ∈ l, Gr next x := fun x hx => rightE_mem h hw x hx

/-- All literals of an answer are literals of the variables below 'after'. -/
theorem leastOf_gr {l : List Int} {k next : Int} (hw : ∀ x ∈ l, (Lit.int .i64 x).wf = true) (h : (leastOf l k next).2.2 = 0) : (next ≤ (leastOf l k next).2.1 ∧ (leastOf l k next).2.1 ≤ 65537) ∧ 1 ≤ next ∧ ∀ c ∈ (leastOf l k next).1, ∀ x ∈ c, Gr (leastOf l k next).2.1 x := by
  obtain ⟨h0, h1⟩ := leastOf_ok h
  obtain ⟨n1, n2, n3, _⟩ := rightE_ok h0
  rcases h1 with ⟨_, e⟩ | ⟨_, e⟩ | ⟨K, _, hK1, hK2, hs, e⟩
  · rw [e]; exact ⟨⟨Int.le_refl _, n2⟩, n1, fun c hc => by cases hc⟩
  · rw [e]
    refine ⟨⟨Int.le_refl _, n2⟩, n1, fun c hc x hx => ?_⟩
    rw [List.mem_singleton] at hc
    subst hc
    cases hx
  · rw [e]
    exact ⟨⟨by show next ≤ next + _; omega, hs⟩, n1, leastCs_gr n1 hK1 hK2 (right_gr h0 hw)⟩

theorem mayB_gr {m x : Int} (hm : m ≤ 65537) (h : Gr m x) : mayB (m - 1) x = true := by
  obtain ⟨h0, h1, h2⟩ := h
  have e : wrap64 (-(m - 1)) = -(m - 1) := by unfold wrap64; omega
  unfold mayB QSmall.cnf_lit_may.f
  rw [e, if_neg h0, if_pos (by omega)]
  simp
  omega

theorem registers_f {n : Nat} {k : Int} (hn : n ≤ 5000) (K : Nat) (hK : 6000 < K) : QRef.chalklineref16_Registers.f K (n : Int) k = some (if 1 ≤ k ∧ k ≤ n then (sm k.toNat n : Int) else 0) := by
  unfold QRef.chalklineref16_Registers.f
  obtain ⟨K, rfl⟩ : ∃ j, K = j + 1 := ⟨K - 1, by omega⟩
  by_cases h : 1 ≤ k ∧ k ≤ n
  · rw [if_pos h]
    obtain ⟨m, rfl⟩ : ∃ m : Nat, k = m := ⟨k.toNat, by omega⟩
    exact registers_l0 hn (by omega) (by omega) n 0 (K + 1) (by omega) (by omega)
  · rw [if_neg h, QRef.chalklineref16_Registers.l0]
    by_cases h1 : (1 : Int) ≤ n
    · rw [if_pos h1]
      by_cases h2 : k ≥ 1
      · rw [if_pos h2, if_neg (by omega)]
      · rw [if_neg h2]
    · rw [if_neg h1]

#print axioms leastOf_gr

end Go.Proofs.Ytpadmbpopjmdjaa.G
