/-
  The plain law of CountMosts: the program's answer and the reference's are the same.
-/
import Derived.Test.YtpadmbpopjmdjaaQMox1
import Derived.Test.YtpadmbpopjmdjaaGCRef
namespace Go.Proofs.Ytpadmbpopjmdjaa.Pure
open Go.RowKit Go.Proofs.Ytpadmbpopjmdjaa.QMo Go.Proofs.YtpadmbpopjmdjaaW.PrintWords Go.Proofs.YtpadmbpopjmdjaaW.PrintLast

theorem CountMosts : chalklinelaw16_CountMosts.Pure := by
  intro l0 a1 a2 hlen hsz hw hw1 hw2
  obtain ⟨K, hK⟩ : ∃ K : Nat, K = 40000000 := ⟨_, rfl⟩
  refine ⟨K + 1, ?_⟩
  have hj : chalklinelaw16_CountMosts.j0 (K + 1) l0 a1 a2 true = some true := by rw [chalklinelaw16_CountMosts.j0, if_pos rfl]
  have hmain : l0.length ≤ 5000 → chalklinelaw16_CountMosts.j0 (K + 1) l0 a1 a2 false = some true := fun hl => by
    have hwf : G.wfL l0 = true := by simpa [G.wfL] using hw
    have t1 : G.count_Most.f l0 a1 a2 = some (G.mostOf l0 a1 a2) := by unfold G.count_Most.f; rw [if_pos ⟨hl, hwf⟩]
    have hs := G.mostOf_small l0 a1 a2
    rw [chalklinelaw16_CountMosts.j0, if_neg (by decide), t1]
    simp only [Option.bind_some]
    rw [G.ref_most hl (by omega)]
    simp only [Option.bind_some]
    rw [G.same_self (by omega) hs.2 (by omega)]
    simp
  unfold chalklinelaw16_CountMosts.f G.chalklinelaw16_live.f
  simp only [Option.bind_some, if_true]
  by_cases h1 : (l0.length : Int) > 300
  · rw [if_pos h1]
    by_cases h2 : (l0.length : Int) ≤ 4096
    · rw [if_pos h2]; exact hj
    · rw [if_neg h2]
      by_cases h3 : (l0.length : Int) > 5000
      · rw [decide_eq_true h3]; exact hj
      · rw [decide_eq_false h3]; exact hmain (by omega)
  · rw [if_neg h1, decide_eq_false (by omega)]
    exact hmain (by omega)

end Go.Proofs.Ytpadmbpopjmdjaa.Pure
