/-
  slices.Clone of steps, and prop.Check whole.
-/
import Derived.Test.YtidgljajegoffaaPCheck
import Derived.Test.YtidgljajegoffaaWTab
import Derived.Lib.SliceRun
namespace Go.Proofs.Ytidgljajegoffaa.G
set_option linter.unusedVariables false
set_option linter.unusedSimpArgs false
open Go.RowKit Go.Proofs.YtidgljajegoffaaW.PrintWords Go.Proofs.YtidgljajegoffaaW.PrintLast Go.Proofs.YtidgljajegoffaaW.PrintMore
open Go.Proofs.Ytidgljajegoffaa.QRef (S32 k32 k32_mkM rd_T32 at_T32 z32)

set_option maxHeartbeats 400000 in
theorem clone_calls (A0 : Option Addr) (c0 : Nat) (l : List S32) (w : World) (hr : Kd.C k32 w A0 l.length l) (hl : l.length ≤ 1000000) :
    Calls Try.prog 36 #[.slice A0 l.length c0] w fun e w' => ∃ v, e = .returned v ∧ k32.R 32 w' w.heap.size (fun k => w.heap.size ≤ k) v l ∧ Below w.heap.size w w' := by
  have heq := Lib.run_eql_slice_nil (P := Try.prog) w 30 32 A0 l.length c0 0 0 Try.underlying30
  cases A0 with
  | none =>
    have h0 : l = [] := by
      cases l with
      | nil => rfl
      | cons x r =>
        obtain ⟨ad, e0, _⟩ := at_T32 hr 0 (by omega) (by simp)
        cases e0
    subst h0
    rw [show (none : Option Addr).isNone = true from rfl] at heq
    simp only [List.length_nil] at heq ⊢
    clear hr
    go_enter Try.func36, Try.ntmps36
    go_wp2
    go_ret
    exact ⟨_, rfl, Kd.R_nil _ _ _ _ _, Below.refl _ _⟩
  | some ad =>
    rw [show (some ad : Option Addr).isNone = false from rfl] at heq
    have HROW := Aside0.mk (Kd.C_below hr (below_alloc (Below.refl w.heap.size w) (.cells #[] 32 (0, 0))))
    have HL := Aside0.mk (show k32.R 32 (w.alloc (.cells #[] 32 (0, 0))) w.heap.size (fun k => w.heap.size ≤ k) (.slice (some ⟨w.heap.size, 0, none⟩) 0 0) [] from by
      refine ⟨fun k hk => ?_, [], ?_, Reps.none _ _⟩
      · have : w.heap.size = k := by simpa [Value.ownBlock] using hk
        omega
      · have h2 := World.ownsRow_lit (base := w.heap.size) (e := 32) (size := 2) w #[] 0 (Nat.le_refl _) (by decide) (by simp)
        exact h2)
    have HB := Aside0.mk (below_alloc (Below.refl w.heap.size w) (.cells #[] 32 (0, 0)))
    have HSZ := Aside0.mk HB.out.size
    clear hr
    go_enter Try.func36, Try.ntmps36
    go_wp2_with (first | ((with_reducible refine gate_dst (N := 7) rfl ?_); go_must (refine Kd.R_append_rows k32 (w0 := w) w.heap.size rfl _ _ 30 32 (.agg #[(.int .i64 0), (.int .i64 0)]) 16 rfl Try.underlying30 Go.Proofs.Ytidgljajegoffaa.QRef.info32 rfl (by decide) (by decide) _ [] l (some ad) l.length c0 (fun k => w.heap.size ≤ k) (fun _ => False) rfl rfl HL.out HROW.out (fun _ _ h => h) (fun _ h => h.elim) (fun k hk => Nat.le_trans HSZ.out hk) HB.out HSZ.out (by simp; omega) ?_); intro v1 w1 ho hb hg hat; have HO1 := Aside0.mk ho; have HB1 := Aside0.mk hb; clear ho hb hg hat))
    go_ret
    exact ⟨_, rfl, HO1.out, HB1.out⟩

/-- All literals in reach, where cnf.Check says yes. -/
theorem checkB_lit {n : Int} {cs : List (List Int)} (h : checkB n cs = 0) : (0 ≤ n ∧ n ≤ 65536) ∧ cs.length ≤ 65536 ∧ ∀ c ∈ cs, ∀ x ∈ c, x ≠ 0 ∧ -n ≤ x ∧ x ≤ n := by
  unfold checkB at h
  split at h
  · cases h
  rename_i h1
  split at h
  · cases h
  rename_i h2
  split at h
  · cases h
  rename_i h3
  refine ⟨by omega, by omega, fun c hc x hx => ?_⟩
  cases hm : mayB n x with
  | false => exact (h2 (List.any_eq_true.2 ⟨c, hc, List.any_eq_true.2 ⟨x, hx, by rw [hm]; rfl⟩⟩)).elim
  | true =>
    unfold mayB QSmall.cnf_lit_may.f at hm
    have e : wrap64 (-n) = -n := by unfold wrap64; omega
    rw [e] at hm
    split at hm
    · cases hm
    rename_i h4
    split at hm
    · rename_i h5
      simp at hm
      exact ⟨h4, h5, hm⟩
    · cases hm
def wfL (l : List Int) : Bool := l.all (fun x => (Lit.int .i64 x).wf)
theorem wfL_mem {l : List Int} (h : wfL l = true) : ∀ x ∈ l, (Lit.int .i64 x).wf = true := by simpa [wfL] using h
/-- What the walks ask of a formula's size. -/
def okC (cs : List (List Int)) : Bool := decide (cs.length ≤ 65536) && cs.all (fun l => decide (l.length ≤ 1000000) && wfL l)
theorem okC_mem {cs : List (List Int)} (h : okC cs = true) : cs.length ≤ 65536 ∧ (∀ l ∈ cs, l.length ≤ 1000000) ∧ ∀ l ∈ cs, ∀ x ∈ l, (Lit.int .i64 x).wf = true := by
  unfold okC at h
  simp only [Bool.and_eq_true, decide_eq_true_eq, List.all_eq_true] at h
  exact ⟨h.1, fun l hl => (h.2 l hl).1, fun l hl => wfL_mem (h.2 l hl).2⟩

theorem cnfcheck_calls (n : Int) (A : Option Addr) (cL : Nat) (cs : List (List Int)) (w : World) (hc : KRows.C w A cs.length cs) (hcc : cs.length ≤ cL) (hok : okC cs = true) :
    Calls Try.prog 13 #[.agg #[.int .i64 n, .slice A cs.length cL]] w fun e w' => e = .returned (.int .i64 (checkB n cs)) ∧ Below w.heap.size w w' := by
  obtain ⟨o1, o2, o3⟩ := okC_mem hok
  by_cases h1 : n < 0 ∨ 65536 < n
  · unfold checkB; rw [if_pos h1]; exact check_out n A cs.length cL w h1
  · exact check_calls n A cL cs w hc hcc o2 o1 h1 o3

theorem pcheck_calls (n : Int) (A : Option Addr) (cL : Nat) (cs : List (List Int)) (At : Option Addr) (ct : Nat) (t : List S32) (w : World) (hc : KRows.C w A cs.length cs) (hcc : cs.length ≤ cL) (hok : okC cs = true) (ht : k32.C w At t.length t) (htl : t.length ≤ 1000000) :
    Calls Try.prog 22 #[.agg #[.int .i64 n, .slice A cs.length cL], .slice At t.length ct] w fun e w' => e = .returned (.int .i64 (checkP n cs t)) ∧ Below w.heap.size w w' := by
  have hcn := fun W (hb : Below w.heap.size w W) => cnfcheck_calls n A cL cs W (Kd.C_below hc hb) hcc hok
  obtain ⟨o1, o2, o3⟩ := okC_mem hok
  unfold checkP
  by_cases h0 : checkB n cs = 0
  · rw [if_neg (fun h => h h0)]
    obtain ⟨l1, l2, l3⟩ := checkB_lit h0
    rw [h0] at hcn
    exact pcheck_good n A cL cs At ct t w hcn l1 hc (fun c hcm x hx => by obtain ⟨a, b, d⟩ := l3 c hcm x hx; exact ⟨a, by omega, by omega⟩) o2 o1 ht htl
  · rw [if_pos h0]
    exact pcheck_bad n A cL cs At ct t w _ h0 hcn

#print axioms clone_calls
#print axioms pcheck_calls
end Go.Proofs.Ytidgljajegoffaa.G
