/-
  The plain law of PropTrailSpec: Check, Levels and Back agree with the reference.
-/
import Derived.Test.YtidgljajegoffaaQTsx1
import Derived.Test.YtidgljajegoffaaPRefCheck2
namespace Go.Proofs.Ytidgljajegoffaa.Pure
set_option linter.unusedVariables false
open Go.RowKit Go.Proofs.Ytidgljajegoffaa.QTs Go.Proofs.Ytidgljajegoffaa.QRef Go.Proofs.YtidgljajegoffaaW.PrintWords Go.Proofs.YtidgljajegoffaaW.PrintLast Go.Proofs.YtidgljajegoffaaW.PrintMore

/-- Rows' literals in Go's range, rows no longer than memory lets them be. -/
def RowsOk (cs : List (List Int)) : Prop := (∀ c ∈ cs, c.length ≤ 140737488355328) ∧ ∀ c ∈ cs, ∀ x ∈ c, (Lit.int .i64 x).wf = true

theorem okC_of {cs : List (List Int)} (h : RowsOk cs) (h1 : cs.length ≤ 200) (h2 : ∀ c ∈ cs, c.length ≤ 1000) : G.okC cs = true := by
  unfold G.okC
  rw [Bool.and_eq_true, decide_eq_true_iff, List.all_eq_true]
  refine ⟨by omega, fun c hc => ?_⟩
  rw [Bool.and_eq_true, decide_eq_true_iff]
  have := h2 c hc
  exact ⟨by omega, by unfold G.wfL; rw [List.all_eq_true]; exact h.2 c hc⟩

def TrailSpecPure : Prop := ∀ (a0_0 : Int) (l0_1 : List (List Int)) (l1 : List S32) (a2 : Int), RowsOk l0_1 → ∃ k, chalklinelaw19_PropTrailSpec.f k a0_0 l0_1 l1 a2 = some true

theorem PropTrailSpec : TrailSpecPure := by
  intro n cs t k hw
  refine ⟨50 + (300000 + cs.length), ?_⟩
  obtain ⟨K, hK⟩ : ∃ K, 300000 + cs.length = K := ⟨_, rfl⟩
  rw [hK]
  unfold chalklinelaw19_PropTrailSpec.f
  rw [G.live_f K]
  simp only [Option.bind_some, if_true]
  obtain ⟨b, hb, hbb⟩ := G.few_f (n := n) (t := t) hw.1 (K := 50 + K) (by omega)
  rw [hb]
  simp only [Option.bind_some]
  cases b with
  | false => rw [if_neg (by decide)]
  | true =>
    obtain ⟨h1, h2, h3⟩ := hbb rfl
    have hok := okC_of hw h1 h2
    rw [if_pos rfl, G.plev_f (by omega) (by omega), G.rlev_f (by omega) (by omega)]
    simp only [Option.bind_some]
    rw [G.ints_self (by rw [G.levF_len]; omega) (by rw [G.levF_len]; omega)]
    simp only [Option.bind_some, if_true]
    rw [G.pback_f (by omega) k (by omega), G.rback_f (by omega) k (by omega)]
    simp only [Option.bind_some]
    have hbl := G.backF_len k 0 t
    rw [G.steps_self (by omega) (by omega)]
    simp only [Option.bind_some, if_true]
    have hp : G.prop_Check.f n cs t = some (G.checkP n cs t) := by unfold G.prop_Check.f; rw [if_pos ⟨hok, by omega⟩]
    rw [hp, G.rcheck_f h1 h2 h3 (by omega)]
    simp only [Option.bind_some]
    rw [beq_self_eq_true]

#print axioms PropTrailSpec
end Go.Proofs.Ytidgljajegoffaa.Pure
