/-
  Chapter 19's laws: what they share, in plain Lean: the sanity example, and what 'few' says.
-/
import Derived.Test.YtidgljajegoffaaQLvx1
namespace Go.Proofs.Ytidgljajegoffaa.G
set_option linter.unusedVariables false
open Go.RowKit Go.Proofs.YtidgljajegoffaaW.PrintWords Go.Proofs.YtidgljajegoffaaW.PrintLast Go.Proofs.YtidgljajegoffaaW.PrintMore
open Go.Proofs.Ytidgljajegoffaa.QRef Go.Proofs.Ytidgljajegoffaa.QLv

theorem live0 : chalklinelaw19_live.f 50 = some true := by kernel_rfl

theorem live_f : ∀ (d : Nat), chalklinelaw19_live.f (50 + d) = some true
  | 0 => live0
  | d + 1 => chalklinelaw19_live.mono (50 + d) _ (live_f d)

theorem few_l0 {cs : List (List Int)} (hr : ∀ c ∈ cs, c.length ≤ 140737488355328) : ∀ (d i : Nat) (s : Int) (K : Nat), cs.length = i + d → d + 1 ≤ K → 0 ≤ s ∧ s ≤ i * 140737488355328 → i ≤ 200 →
    ∃ b, chalklineref14_Few.l0 K cs s (i : Int) = some b ∧ (b = true → cs.length ≤ 200 ∧ s ≤ 1000 ∧ ∀ j, i ≤ j → j < cs.length → (cs.getD j []).length ≤ 1000) := by
  intro d
  induction d with
  | zero =>
    intro i s K hd hK hs hi
    obtain ⟨K, rfl⟩ : ∃ j, K = j + 1 := ⟨K - 1, by omega⟩
    rw [chalklineref14_Few.l0, if_neg (by omega)]
    by_cases h : (cs.length : Int) ≤ 200
    · rw [if_pos h]
      exact ⟨_, rfl, fun h1 => ⟨by omega, of_decide_eq_true h1, fun j h2 h3 => by omega⟩⟩
    · rw [if_neg h]
      exact ⟨_, rfl, fun h1 => by cases h1⟩
  | succ d ih =>
    intro i s K hd hK hs hi
    obtain ⟨K, rfl⟩ : ∃ j, K = j + 1 := ⟨K - 1, by omega⟩
    rw [chalklineref14_Few.l0, if_pos (by omega)]
    by_cases h2 : (i : Int) < 200
    · have hm : cs.getD i [] ∈ cs := by simp [List.getD_eq_getElem?_getD, show i < cs.length by omega]
      have hl := hr _ hm
      have hrd : rd_L2 cs (i : Int) = cs.getD i [] := by simp [rd_L2]
      rw [if_pos h2, if_pos (by omega), hrd, show wrap64 (s + ((cs.getD i []).length : Int)) = s + (cs.getD i []).length from by unfold wrap64; omega, show wrap64 ((i : Int) + 1) = ((i + 1 : Nat) : Int) from by unfold wrap64; omega]
      obtain ⟨b, hb, hbb⟩ := ih (i + 1) (s + (cs.getD i []).length) K (by omega) (by omega) (by omega) (by omega)
      refine ⟨b, hb, fun h => ?_⟩
      obtain ⟨a1, a2, a3⟩ := hbb h
      refine ⟨a1, by omega, fun j h3 h4 => ?_⟩
      by_cases e : j = i
      · subst e; omega
      · exact a3 j (by omega) h4
    · rw [if_neg h2, if_neg (by omega)]
      exact ⟨_, rfl, fun h1 => by cases h1⟩

theorem few_f {n : Int} {cs : List (List Int)} {t : List S32} (hr : ∀ c ∈ cs, c.length ≤ 140737488355328) {K : Nat} (hK : cs.length + 1 ≤ K) : ∃ b, chalklinelaw19_few.f K n cs t = some b ∧ (b = true → cs.length ≤ 200 ∧ (∀ c ∈ cs, c.length ≤ 1000) ∧ t.length ≤ 60) := by
  obtain ⟨b, hb, hbb⟩ := few_l0 hr cs.length 0 0 K (by omega) hK (by omega) (by omega)
  unfold chalklinelaw19_few.f chalklineref14_Few.f
  rw [show (0 : Int) = ((0 : Nat) : Int) from rfl] at hb ⊢
  rw [hb]
  simp only [Option.bind_some]
  cases b with
  | false => exact ⟨_, rfl, fun h => by cases h⟩
  | true =>
    rw [if_pos rfl]
    obtain ⟨a1, a2, a3⟩ := hbb rfl
    refine ⟨_, rfl, fun h => ⟨a1, fun c hc => ?_, by have := of_decide_eq_true h; omega⟩⟩
    obtain ⟨j, hj, rfl⟩ := List.getElem_of_mem hc
    have := a3 j (by omega) hj
    simpa [List.getD_eq_getElem?_getD, hj] using this

/-! Levels and Back, as lists. -/
def levF : Int → List S32 → List Int
  | _, [] => []
  | n, s :: t => if s.f1 = -1 then (n + 1) :: levF (n + 1) t else n :: levF n t
def backF (k : Int) : Int → List S32 → List S32
  | _, [] => []
  | n, s :: t => if s.f1 = -1 then (if n + 1 ≤ k then s :: backF k (n + 1) t else backF k (n + 1) t) else (if n ≤ k then s :: backF k n t else backF k n t)

#print axioms live_f
#print axioms few_f
end Go.Proofs.Ytidgljajegoffaa.G
