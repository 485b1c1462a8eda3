/-
  prop.Prop, prop.Check, cnf.Check, cnf.Holds, as the print wants them.
-/
import Derived.Test.YtidgljajegoffaaPProp
namespace Go.Proofs.Ytidgljajegoffaa.G
set_option linter.unusedVariables false
open Go.RowKit Go.Proofs.YtidgljajegoffaaW.PrintWords Go.Proofs.YtidgljajegoffaaW.PrintLast Go.Proofs.YtidgljajegoffaaW.PrintMore
open Go.Proofs.Ytidgljajegoffaa.QRef (S32 k32)

theorem prop_Prop.calls (a0_0 : Int) (A0_1 : Option Addr) (c0_1 : Nat) (l0_1 : List (List Int)) (A1 : Option Addr) (c1 : Nat) (l1 : List (S32)) (r1 : List (S32)) (r2 : Int) (r3 : Int) (w : World) (hr0_1 : Kd.C (Kd.slice 3 (Kd.int .i64)) w A0_1 l0_1.length l0_1) (hc0_1 : l0_1.length ≤ c0_1) (hr1 : Kd.C k32 w A1 l1.length l1) (hc1 : l1.length ≤ c1) (h : prop_Prop.f a0_0 l0_1 l1 = some (r1, r2, r3)) :
    Calls Try.prog 14 #[.agg #[.int .i64 a0_0, .slice A0_1 l0_1.length c0_1], .slice A1 l1.length c1] w fun e w' => ∃ v0_, e = .returned (.tuple #[v0_, .int .i64 r2, .int .i64 r3]) ∧ Kd.R k32 32 w' w.heap.size (fun k_ => (w.heap.size ≤ k_)) v0_ r1 ∧ Below w.heap.size w w' := by
  unfold prop_Prop.f at h
  split at h
  · rename_i hc
    obtain ⟨hok, htl⟩ := hc
    have hch := fun W (hb : Below w.heap.size w W) => pcheck_calls a0_0 A0_1 c0_1 l0_1 A1 c1 l1 W (Kd.C_below hr0_1 hb) hc0_1 hok (Kd.C_below hr1 hb) htl
    obtain ⟨o1, o2, o3⟩ := okC_mem hok
    split at h
    · rename_i h0
      have h1 := Option.some.inj h
      injection h1 with q1 q2
      injection q2 with q2 q3
      subst q1; subst q2; subst q3
      refine (prop_bad a0_0 A0_1 c0_1 l0_1 A1 c1 l1 w _ h0 hch).mono ?_
      rintro e w' ⟨rfl, hb⟩
      exact ⟨_, rfl, Kd.R_nil _ _ _ _ _, hb⟩
    · rename_i h0
      have h00 : checkP a0_0 l0_1 l1 = 0 := by
        by_cases h : checkP a0_0 l0_1 l1 = 0
        · exact h
        · exact (h0 h).elim
      rw [h00] at hch
      have hb0 : checkB a0_0 l0_1 = 0 := by
        unfold checkP at h00
        split at h00
        · rename_i h9; exact (h9 h00).elim
        · rename_i h9; exact Classical.byContradiction (fun h => h9 h)
      have hct : chkT a0_0 l0_1 (fun _ => false) l1 = 0 := by
        unfold checkP at h00
        rw [if_neg (fun h => h hb0)] at h00
        exact h00
      obtain ⟨l1', l2', l3'⟩ := checkB_lit hb0
      exact prop_good a0_0 A0_1 c0_1 l0_1 A1 c1 l1 w hch hr0_1 (fun c hc x hx => by obtain ⟨a, b, d⟩ := l3' c hc x hx; exact ⟨a, by omega, by omega⟩) o2 o1 hr1 htl (chkT_lit l1' hct) r1 r2 r3 h
  · cases h

def prop_Check.f (n : Int) (cs : List (List Int)) (t : List S32) : Option Int := if okC cs = true ∧ t.length ≤ 1000000 then some (checkP n cs t) else none
theorem prop_Check.calls (a0_0 : Int) (A0_1 : Option Addr) (c0_1 : Nat) (l0_1 : List (List Int)) (A1 : Option Addr) (c1 : Nat) (l1 : List (S32)) (r : Int) (w : World) (hr0_1 : Kd.C (Kd.slice 3 (Kd.int .i64)) w A0_1 l0_1.length l0_1) (hc0_1 : l0_1.length ≤ c0_1) (hr1 : Kd.C k32 w A1 l1.length l1) (hc1 : l1.length ≤ c1) (h : prop_Check.f a0_0 l0_1 l1 = some r) :
    Calls Try.prog 22 #[.agg #[.int .i64 a0_0, .slice A0_1 l0_1.length c0_1], .slice A1 l1.length c1] w fun e w' => e = .returned (.int .i64 r) ∧ Below w.heap.size w w' := by
  unfold prop_Check.f at h
  split at h
  · rename_i hc
    have := Option.some.inj h
    subst this
    exact pcheck_calls a0_0 A0_1 c0_1 l0_1 A1 c1 l1 w hr0_1 hc0_1 hc.1 hr1 hc.2
  · cases h

def cnf_Check.f (n : Int) (cs : List (List Int)) : Option Int := if okC cs = true then some (checkB n cs) else none
theorem cnf_Check.calls (a0_0 : Int) (A0_1 : Option Addr) (c0_1 : Nat) (l0_1 : List (List Int)) (r : Int) (w : World) (hr0_1 : Kd.C (Kd.slice 3 (Kd.int .i64)) w A0_1 l0_1.length l0_1) (hc0_1 : l0_1.length ≤ c0_1) (h : cnf_Check.f a0_0 l0_1 = some r) :
    Calls Try.prog 13 #[.agg #[.int .i64 a0_0, .slice A0_1 l0_1.length c0_1]] w fun e w' => e = .returned (.int .i64 r) ∧ Below w.heap.size w w' := by
  unfold cnf_Check.f at h
  split at h
  · rename_i hc
    have := Option.some.inj h
    subst this
    exact cnfcheck_calls a0_0 A0_1 c0_1 l0_1 w hr0_1 hc0_1 hc
  · cases h

#print axioms prop_Prop.calls
#print axioms prop_Check.calls
end Go.Proofs.Ytidgljajegoffaa.G
