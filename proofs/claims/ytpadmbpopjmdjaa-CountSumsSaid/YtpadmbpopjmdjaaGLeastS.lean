/-
  What count.Least and count.Most compute: in plain Lean.
-/
import Derived.Test.YtpadmbpopjmdjaaGRight
namespace Go.Proofs.Ytpadmbpopjmdjaa.G
open Go.RowKit Go.Proofs.YtpadmbpopjmdjaaW.PrintWords Go.Proofs.YtpadmbpopjmdjaaW.PrintLast

/-- The number of registers of the first i rows. -/
def sm (k : Nat) : Nat → Nat
  | 0 => 0
  | i + 1 => sm k i + min (i + 1) k

/-- The first clause of the register j of row i (from 0 on), over the literal x. -/
def cl1 (next : Int) (k i : Nat) (x : Int) (j : Nat) : List Int := if j ≤ min i k then [-(next + sm k i + j - 1), next + sm k (i - 1) + j - 1, x] else [-(next + sm k i + j - 1), x]
/-- The second. -/
def cl2 (next : Int) (k i : Nat) (j : Nat) : List Int := if j ≤ min i k then [-(next + sm k i + j - 1), next + sm k (i - 1) + j - 1, next + sm k (i - 1) + j - 2] else [-(next + sm k i + j - 1), next + sm k (i - 1) + j - 2]
/-- Both, or the first alone. -/
def cl12 (next : Int) (k i : Nat) (x : Int) (j : Nat) : List (List Int) := if 1 < j then [cl1 next k i x j, cl2 next k i j] else [cl1 next k i x j]
/-- The clauses of the first m registers of row i. -/
def crow (next : Int) (k i : Nat) (x : Int) : Nat → List (List Int)
  | 0 => []
  | m + 1 => crow next k i x m ++ cl12 next k i x (m + 1)
/-- The clauses of the first i rows. -/
def crows (next : Int) (k : Nat) (l : List Int) : Nat → List (List Int)
  | 0 => []
  | i + 1 => crows next k l i ++ crow next k i (l.getD i 0) (min (i + 1) k)
def leastCs (next : Int) (k : Nat) (l : List Int) : List (List Int) := crows next k l l.length ++ [[next + sm k (l.length - 1) + k - 1]]

/-- What count.Least answers. -/
def leastOf (l : List Int) (k next : Int) : List (List Int) × Int × Int :=
  if rightE l next ≠ 0 then ([], 0, rightE l next)
  else if k ≤ 0 then ([], next, 0)
  else if (l.length : Int) < k then ([[]], next, 0)
  else if 65536 < next + (sm k.toNat l.length : Int) - 1 then ([], 0, 2)
  else if 65536 < 2 * (sm k.toNat l.length : Int) - l.length + 1 then ([], 0, 2)
  else (leastCs next k.toNat l, next + sm k.toNat l.length, 0)

theorem sm_small {k : Nat} : ∀ {i : Nat}, i ≤ k → 2 * sm k i = i * (i + 1)
  | 0, _ => rfl
  | i + 1, h => by
    have ih := sm_small (k := k) (i := i) (by omega)
    have e : sm k (i + 1) = sm k i + min (i + 1) k := rfl
    rw [e, Nat.min_eq_left h, Nat.mul_add, ih, ← Nat.add_mul, Nat.mul_comm]

/-- As the code reckons it. -/
theorem sm_closed {k : Nat} : ∀ (d : Nat), 2 * sm k (k + d) + k * k = 2 * k * (k + d) + k
  | 0 => by
    have h := sm_small (k := k) (i := k) (Nat.le_refl _)
    have e : k * (k + 1) = k * k + k := Nat.mul_succ k k
    have e2 : 2 * k * (k + 0) = k * k + k * k := by rw [Nat.add_zero, Nat.mul_assoc]; omega
    rw [Nat.add_zero] at *
    omega
  | d + 1 => by
    have ih := sm_closed (k := k) d
    have e : sm k (k + (d + 1)) = sm k (k + d) + min (k + d + 1) k := rfl
    rw [Nat.min_eq_right (by omega)] at e
    have e2 : 2 * k * (k + (d + 1)) = 2 * k * (k + d) + 2 * k := by rw [← Nat.add_assoc, Nat.mul_succ]
    omega

theorem sm_mono {k : Nat} {i j : Nat} (h : i ≤ j) : sm k i ≤ sm k j := by
  induction h with
  | refl => exact Nat.le_refl _
  | step _ ih => exact Nat.le_trans ih (Nat.le_add_right _ _)
theorem sm_succ (k i : Nat) : sm k (i + 1) = sm k i + min (i + 1) k := rfl
theorem sm_ge {k : Nat} (hk : 1 ≤ k) : ∀ i, i ≤ sm k i
  | 0 => Nat.zero_le _
  | i + 1 => by have := sm_ge hk i; rw [sm_succ]; omega
theorem sm_le (k : Nat) : ∀ i, sm k i ≤ i * k
  | 0 => Nat.zero_le _
  | i + 1 => by have := sm_le k i; rw [sm_succ, Nat.succ_mul]; omega

theorem cl12_len (next : Int) (k i : Nat) (x : Int) (j : Nat) : (cl12 next k i x j).length ≤ 2 := by unfold cl12; split <;> simp
theorem crow_len (next : Int) (k i : Nat) (x : Int) : ∀ m, (crow next k i x m).length = 2 * m - 1
  | 0 => rfl
  | m + 1 => by
    have ih := crow_len next k i x m
    have e : crow next k i x (m + 1) = crow next k i x m ++ cl12 next k i x (m + 1) := rfl
    rw [e, List.length_append, ih]
    unfold cl12
    split <;> simp <;> omega
theorem crows_len (next : Int) {k : Nat} (hk : 1 ≤ k) (l : List Int) : ∀ i, (crows next k l i).length + i = 2 * sm k i
  | 0 => rfl
  | i + 1 => by
    have ih := crows_len next hk l i
    have e : crows next k l (i + 1) = crows next k l i ++ crow next k i (l.getD i 0) (min (i + 1) k) := rfl
    rw [e, List.length_append, crow_len, sm_succ]
    omega
theorem leastCs_len (next : Int) {k : Nat} (hk : 1 ≤ k) (l : List Int) : (leastCs next k l).length + l.length = 2 * sm k l.length + 1 := by
  have := crows_len next hk l l.length
  unfold leastCs
  rw [List.length_append, List.length_singleton]
  omega

/-- What the literals are, where count.right says yes. -/
theorem rightFrom_mem {next : Int} : ∀ {l : List Int} {S : Int → Bool}, rightFrom next S l = true → ∀ x ∈ l, 0 < vabs x ∧ vabs x < next
  | [], _, _, x, hx => by cases hx
  | y :: l, S, h, x, hx => by
    unfold rightFrom at h
    by_cases h1 : vabs y ≤ 0
    · rw [if_pos h1] at h; cases h
    rw [if_neg h1] at h
    by_cases h2 : next ≤ vabs y
    · rw [if_pos h2] at h; cases h
    rw [if_neg h2] at h
    cases hS : S (vabs y) with
    | true => rw [if_pos hS] at h; cases h
    | false =>
      rw [if_neg (by rw [hS]; decide)] at h
      rcases List.mem_cons.1 hx with e | hx
      · subst e; omega
      · exact rightFrom_mem h x hx
theorem rightE_ok {l : List Int} {next : Int} (h : rightE l next = 0) : 1 ≤ next ∧ next ≤ 65537 ∧ l.length ≤ 4096 ∧ rightFrom next (fun _ => false) l = true := by
  unfold rightE at h
  by_cases h1 : next < 1
  · rw [if_pos h1] at h; cases h
  rw [if_neg h1] at h
  by_cases h2 : 65537 < next
  · rw [if_pos h2] at h; cases h
  rw [if_neg h2] at h
  by_cases h3 : 4096 < l.length
  · rw [if_pos h3] at h; cases h
  rw [if_neg h3] at h
  cases hr : rightFrom next (fun _ => false) l with
  | true => exact ⟨by omega, by omega, by omega, rfl⟩
  | false => rw [hr] at h; cases h
theorem vabs_small {x : Int} (hw : (Lit.int .i64 x).wf = true) (h : 0 < vabs x) (h2 : vabs x < 65537) : x ≠ 0 ∧ -65537 < x ∧ x < 65537 := by
  have hmin : IntKind.i64.min = -9223372036854775808 := rfl
  have hmax : IntKind.i64.max = 9223372036854775807 := rfl
  simp only [Lit.wf, Bool.and_eq_true, decide_eq_true_eq] at hw
  unfold vabs wrap64 at h h2
  split at h <;> split at h2 <;> omega
theorem rightE_mem {l : List Int} {next : Int} (h : rightE l next = 0) (hw : ∀ x ∈ l, (Lit.int .i64 x).wf = true) : ∀ x ∈ l, x ≠ 0 ∧ -next < x ∧ x < next := by
  intro x hx
  obtain ⟨h1, h2, _, hr⟩ := rightE_ok h
  obtain ⟨a, b⟩ := rightFrom_mem hr x hx
  obtain ⟨c, d, e⟩ := vabs_small (hw x hx) a (by omega)
  refine ⟨c, ?_⟩
  have hx1 : wrap64 (-x) = -x := by unfold wrap64; omega
  unfold vabs at b
  rw [hx1] at b
  split at b <;> omega

end Go.Proofs.Ytpadmbpopjmdjaa.G
