/-
  The plain law of CountFits: the clauses are a valid formula, the registers are as many as is said.
-/
import Derived.Test.YtpadmbpopjmdjaaQFix1
import Derived.Test.YtpadmbpopjmdjaaGCOk
namespace Go.Proofs.Ytpadmbpopjmdjaa.Pure
open Go.RowKit Go.Proofs.Ytpadmbpopjmdjaa.QFi Go.Proofs.YtpadmbpopjmdjaaW.PrintWords Go.Proofs.YtpadmbpopjmdjaaW.PrintLast

theorem check_f {cs : List (List Int)} {A : Int} (hA : 1 ≤ A ∧ A ≤ 65537) (hl : cs.length ≤ 65536) (hr : ∀ c ∈ cs, c.length ≤ 3) (hg : ∀ c ∈ cs, ∀ x ∈ c, G.Gr A x) : G.cnf_Check.f (A - 1) cs = some 0 := by
  unfold G.cnf_Check.f
  have hall : cs.all (fun l => decide (l.length ≤ 1000000) && G.wfL l) = true := by
    rw [List.all_eq_true]
    intro c hc
    have := hr c hc
    rw [Bool.and_eq_true, decide_eq_true_iff]
    refine ⟨by omega, ?_⟩
    unfold G.wfL
    rw [List.all_eq_true]
    exact fun x hx => (hg c hc x hx).wf (by omega)
  rw [if_pos ⟨by omega, by omega, hall⟩]
  have hno : ¬ cs.any (fun l => l.any (fun x => !(G.mayB (A - 1) x))) = true := by
    rw [List.any_eq_true]
    rintro ⟨c, hc, h⟩
    rw [List.any_eq_true] at h
    obtain ⟨x, hx, h⟩ := h
    rw [G.mayB_gr (by omega) (hg c hc x hx)] at h
    cases h
  unfold G.checkB
  rw [if_neg (by omega), if_neg hno, if_neg (by omega)]

theorem CountFits : chalklinelaw16_CountFits.Pure := by
  intro l0 a1 a2 hlen hsz hw hw1 hw2
  obtain ⟨K, hK⟩ : ∃ K : Nat, K = 40000000 := ⟨_, rfl⟩
  refine ⟨K, ?_⟩
  unfold chalklinelaw16_CountFits.f G.chalklinelaw16_live.f
  simp only [Option.bind_some, if_true]
  by_cases h2 : (l0.length : Int) > 200
  · rw [if_pos h2]
  rw [if_neg h2]
  have hl : l0.length ≤ 200 := by omega
  have hwf : G.wfL l0 = true := by simpa [G.wfL] using hw
  have t1 : G.count_Least.f l0 a1 a2 = some (G.leastOf l0 a1 a2) := by unfold G.count_Least.f; rw [if_pos ⟨by omega, hwf⟩]
  rw [t1]
  simp only [Option.bind_some]
  by_cases h0 : (G.leastOf l0 a1 a2).2.2 = 0
  · obtain ⟨⟨b1, b2⟩, b3, hg⟩ := G.leastOf_gr hw h0
    have hs := G.leastOf_small l0 a1 a2
    obtain ⟨_, hcase⟩ := G.leastOf_ok h0
    rw [if_pos h0, G.registers_f (by omega) K (by omega)]
    simp only [Option.bind_some]
    have e : (G.leastOf l0 a1 a2).2.1 = wrap64 (a2 + (if 1 ≤ a1 ∧ a1 ≤ (l0.length : Int) then ((G.sm a1.toNat l0.length : Nat) : Int) else 0)) := by
      rcases hcase with ⟨hk, e⟩ | ⟨hk, e⟩ | ⟨m, rfl, hm1, hm2, hs, e⟩
      · rw [e, if_neg (by omega)]
        have : a2 ≤ 65537 := by rw [e] at b2; exact b2
        show a2 = _
        unfold wrap64; omega
      · rw [e, if_neg (by omega)]
        have : a2 ≤ 65537 := by rw [e] at b2; exact b2
        show a2 = _
        unfold wrap64; omega
      · rw [e, if_pos (by omega), Int.toNat_natCast]
        show a2 + _ = _
        unfold wrap64; omega
    rw [if_pos e, show wrap64 ((G.leastOf l0 a1 a2).2.1 - 1) = (G.leastOf l0 a1 a2).2.1 - 1 from by unfold wrap64; omega, check_f (by omega) hs.1 hs.2 hg]
    rfl
  · obtain ⟨e1, e2⟩ := G.leastOf_err h0
    rw [if_neg h0, e1, e2]
    simp

end Go.Proofs.Ytpadmbpopjmdjaa.Pure
