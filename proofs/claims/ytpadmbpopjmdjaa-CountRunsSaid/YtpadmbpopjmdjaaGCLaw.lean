/-
  What many, ran and can answer; the assignments that the laws of chapter 16 look at: in plain Lean.
-/
import Derived.Test.YtpadmbpopjmdjaaGCOk
import Derived.Test.YtpadmbpopjmdjaaQCanx1
namespace Go.Proofs.Ytpadmbpopjmdjaa.G
set_option linter.unusedVariables false
open Go.RowKit Go.Proofs.YtpadmbpopjmdjaaW.PrintWords Go.Proofs.YtpadmbpopjmdjaaW.PrintLast Go.Proofs.YtpadmbpopjmdjaaW.PrintMore

theorem truth_f {a : List Bool} {m x : Int} (hx : Gr m x) (hm : m ≤ 70000) (ha : m ≤ a.length) : QRef.chalklineref16_Truth.f x a = some (tv a x) := by
  obtain ⟨h0, h1, h2⟩ := hx
  have hn : wrap64 (-x) = -x := by unfold wrap64; omega
  unfold QRef.chalklineref16_Truth.f tv
  rw [hn]
  by_cases hneg : x < 0
  · rw [if_pos hneg, if_pos (by omega), if_pos (by omega), if_pos hneg]; rfl
  · rw [if_neg hneg, if_pos (by omega), if_pos (by omega), if_neg hneg]; rfl

theorem rd_in {l : List Int} {i : Nat} (h : i < l.length) : rd l (i : Int) = l.getD i 0 ∧ l.getD i 0 ∈ l := ⟨by simp [rd], by simp [List.getD_eq_getElem?_getD, h]⟩

theorem many_l0 {l : List Int} {a : List Bool} {m : Int} (hl : ∀ x ∈ l, Gr m x) (hm : m ≤ 70000) (ha : m ≤ a.length) (hs : l.length ≤ 100000) : ∀ d i K, i + d = l.length → d < K → QRef.chalklinelaw16_many.l0 K a (cntT a l i : Int) l (l.length : Int) (i : Int) = some (cntT a l l.length : Int) := by
  intro d
  induction d with
  | zero =>
    intro i K h1 h2
    obtain ⟨K, rfl⟩ : ∃ j, K = j + 1 := ⟨K - 1, by omega⟩
    obtain rfl : i = l.length := by omega
    rw [QRef.chalklinelaw16_many.l0, if_neg (by omega)]
  | succ d ih =>
    intro i K h1 h2
    obtain ⟨K, rfl⟩ : ∃ j, K = j + 1 := ⟨K - 1, by omega⟩
    obtain ⟨e, hmem⟩ := rd_in (show i < l.length by omega)
    have hle := cntT_le a l i
    rw [QRef.chalklinelaw16_many.l0, if_pos (by omega), if_pos (by omega), if_pos (by omega), e, truth_f (hl _ hmem) hm ha]
    simp only [Option.bind_some]
    rw [show wrap64 ((i : Int) + 1) = ((i + 1 : Nat) : Int) from by unfold wrap64; omega]
    cases ht : tv a (l.getD i 0) with
    | true =>
      rw [if_pos rfl, show wrap64 ((cntT a l i : Int) + 1) = ((cntT a l (i + 1) : Nat) : Int) from by rw [cntT_true ht]; unfold wrap64; omega]
      exact ih (i + 1) K (by omega) (by omega)
    | false =>
      rw [if_neg (by decide)]
      have := ih (i + 1) K (by omega) (by omega)
      rwa [cntT_false ht] at this

theorem many_f {l : List Int} {a : List Bool} {m : Int} (hl : ∀ x ∈ l, Gr m x) (hm : m ≤ 70000) (ha : m ≤ a.length) (hs : l.length ≤ 100000) {K : Nat} (hK : 100001 < K) : QRef.chalklinelaw16_many.f K l a = some (cntT a l l.length : Int) :=
  many_l0 hl hm ha hs l.length 0 K (by omega) (by omega)

theorem holds_f {c : List Int} {b : List Bool} {m : Int} (hc : ∀ x ∈ c, Gr m x) (hm : m ≤ 65537) (hl : c.length ≤ 3) : cnf_Holds.f c b = some (holdsB c b) := by
  have hw : wfL c = true := by
    unfold wfL
    rw [List.all_eq_true]
    exact fun x hx => (hc x hx).wf (by omega)
  unfold cnf_Holds.f
  rw [if_pos ⟨by omega, hw⟩]

/-- The registers that tell the counts: of one row, of the first i rows. -/
def ranRow (c : Nat) : Nat → List Bool
  | 0 => []
  | m + 1 => ranRow c m ++ [decide (m + 1 ≤ c)]
def rans (a : List Bool) (l : List Int) (K : Nat) : Nat → List Bool
  | 0 => []
  | i + 1 => rans a l K i ++ ranRow (cntT a l (i + 1)) (min (i + 1) K)

theorem ranRow_len (c : Nat) : ∀ m, (ranRow c m).length = m
  | 0 => rfl
  | m + 1 => by show (ranRow c m ++ [_]).length = _; rw [List.length_append, ranRow_len c m]; rfl
theorem rans_len (a : List Bool) (l : List Int) (K : Nat) : ∀ i, (rans a l K i).length = sm K i
  | 0 => rfl
  | i + 1 => by show (rans a l K i ++ _).length = _; rw [List.length_append, rans_len a l K i, ranRow_len, sm_succ]
theorem ranRow_get (c : Nat) : ∀ (m q : Nat), q < m → (ranRow c m).getD q false = decide (q + 1 ≤ c)
  | 0, q, h => by omega
  | m + 1, q, h => by
    show (ranRow c m ++ [_]).getD q false = _
    by_cases hq : q < m
    · rw [List.getD_eq_getElem?_getD, List.getElem?_append_left (by rw [ranRow_len]; exact hq), ← List.getD_eq_getElem?_getD, ranRow_get c m q hq]
    · obtain rfl : q = m := by omega
      rw [List.getD_eq_getElem?_getD, List.getElem?_append_right (by rw [ranRow_len]; omega), ranRow_len]
      simp
theorem rans_get (a : List Bool) (l : List Int) (K : Nat) : ∀ (n i q : Nat), i < n → q < min (i + 1) K → (rans a l K n).getD (sm K i + q) false = decide (q + 1 ≤ cntT a l (i + 1))
  | 0, i, q, h, _ => by omega
  | n + 1, i, q, h, hq => by
    show (rans a l K n ++ _).getD _ false = _
    by_cases hi : i < n
    · have hs := sm_succ K i
      have hm := sm_mono (k := K) (show i + 1 ≤ n by omega)
      rw [List.getD_eq_getElem?_getD, List.getElem?_append_left (by rw [rans_len]; omega), ← List.getD_eq_getElem?_getD, rans_get a l K n i q hi hq]
    · obtain rfl : i = n := by omega
      rw [List.getD_eq_getElem?_getD, List.getElem?_append_right (by rw [rans_len]; omega), rans_len, ← List.getD_eq_getElem?_getD, show sm K i + q - sm K i = q from by omega, ranRow_get _ _ _ hq]

theorem tv_append {a e : List Bool} {x : Int} (h1 : -(a.length : Int) < x) (h2 : x < a.length) : tv (a ++ e) x = tv a x := by
  unfold tv
  by_cases h : x < 0
  · rw [if_pos h, if_pos h, List.getD_eq_getElem?_getD, List.getElem?_append_left (by omega), ← List.getD_eq_getElem?_getD]
  · rw [if_neg h, if_neg h, List.getD_eq_getElem?_getD, List.getElem?_append_left (by omega), ← List.getD_eq_getElem?_getD]

theorem cntT_congr {a b : List Bool} {l : List Int} (h : ∀ x ∈ l, tv b x = tv a x) : ∀ i, i ≤ l.length → cntT b l i = cntT a l i
  | 0, _ => rfl
  | i + 1, hi => by
    have hm : l.getD i 0 ∈ l := by simp [List.getD_eq_getElem?_getD, show i < l.length by omega]
    show cntT b l i + _ = cntT a l i + _
    rw [cntT_congr h i (by omega), h _ hm]

/-- The value of a register under the counts. -/
theorem tv_ran {a e : List Bool} {l : List Int} {K n i j : Nat} (hi : i < n) (h1 : 1 ≤ j) (h2 : j ≤ min (i + 1) K) : tv (a ++ (rans a l K n ++ e)) (rg (a.length : Int) K i j) = decide (j ≤ cntT a l (i + 1)) := by
  have hp : ¬ rg (a.length : Int) K i j < 0 := by unfold rg; omega
  have hs := sm_succ K i
  have hm := sm_mono (k := K) (show i + 1 ≤ n by omega)
  unfold tv
  rw [if_neg hp, show (rg (a.length : Int) K i j).toNat = a.length + (sm K i + (j - 1)) from by unfold rg; omega, List.getD_eq_getElem?_getD, List.getElem?_append_right (by omega), show a.length + (sm K i + (j - 1)) - a.length = sm K i + (j - 1) from by omega,
    List.getElem?_append_left (by rw [rans_len]; omega), ← List.getD_eq_getElem?_getD, rans_get a l K n i (j - 1) hi (by omega), show j - 1 + 1 = j from by omega]

theorem ran_l1 {l : List Int} {a : List Bool} {K : Nat} {i : Nat} (hKl : K ≤ 100000) (hi : i < 100000) {c : Nat} (hc : c ≤ 100000) {x7 : List Bool} {B : Nat} {R : Option (List Bool)} (hx7 : x7.length ≤ 1000000) (hend : ∀ k, B < k → QCan.chalklinelaw16_ran.l0 k (K : Int) a (x7 ++ ranRow c (min (i + 1) K)) (c : Int) l (l.length : Int) ((i + 1 : Nat) : Int) = R) :
    ∀ d m k, m + d = min (i + 1) K → B + d + 1 < k → QCan.chalklinelaw16_ran.l1 k (K : Int) a (x7 ++ ranRow c m) (c : Int) (i : Int) ((m + 1 : Nat) : Int) l (l.length : Int) (i : Int) = R := by
  intro d
  induction d with
  | zero =>
    intro m k h1 h2
    obtain ⟨k, rfl⟩ : ∃ j, k = j + 1 := ⟨k - 1, by omega⟩
    rw [QCan.chalklinelaw16_ran.l1, show wrap64 ((i : Int) + 1) = ((i + 1 : Nat) : Int) from by unfold wrap64; omega, mn_cast, if_neg (by omega), show m = min (i + 1) K from by omega]
    exact hend k (by omega)
  | succ d ih =>
    intro m k h1 h2
    obtain ⟨k, rfl⟩ : ∃ j, k = j + 1 := ⟨k - 1, by omega⟩
    have hl : (x7 ++ ranRow c m).length ≤ 1100000 := by rw [List.length_append, ranRow_len]; omega
    rw [QCan.chalklinelaw16_ran.l1, show wrap64 ((i : Int) + 1) = ((i + 1 : Nat) : Int) from by unfold wrap64; omega, mn_cast, if_pos (by omega), if_pos (by omega), show wrap64 (((m + 1 : Nat) : Int) + 1) = ((m + 1 + 1 : Nat) : Int) from by unfold wrap64; omega]
    have h := ih (m + 1) k (by omega) (by omega)
    rw [show ranRow c (m + 1) = ranRow c m ++ [decide (m + 1 ≤ c)] from rfl, ← List.append_assoc] at h
    rw [show decide ((c : Int) ≥ ((m + 1 : Nat) : Int)) = decide (m + 1 ≤ c) from by rw [decide_eq_decide]; omega]
    exact h

theorem ran_l0 {l : List Int} {a : List Bool} {m : Int} (hl : ∀ x ∈ l, Gr m x) (hm : m ≤ 70000) (ha : m ≤ a.length) (ha2 : a.length ≤ 1000) (hs : l.length ≤ 100) {K : Nat} (hK : K ≤ 100) : ∀ d i k, i + d = l.length → d * 200 + 1 < k → QCan.chalklinelaw16_ran.l0 k (K : Int) a (a ++ rans a l K i) (cntT a l i : Int) l (l.length : Int) (i : Int) = some (a ++ rans a l K l.length) := by
  intro d
  induction d with
  | zero =>
    intro i k h1 h2
    obtain ⟨k, rfl⟩ : ∃ j, k = j + 1 := ⟨k - 1, by omega⟩
    obtain rfl : i = l.length := by omega
    rw [QCan.chalklinelaw16_ran.l0, if_neg (by omega)]
  | succ d ih =>
    intro i k h1 h2
    obtain ⟨k, rfl⟩ : ∃ j, k = j + 1 := ⟨k - 1, by omega⟩
    obtain ⟨e, hmem⟩ := rd_in (show i < l.length by omega)
    have hle := cntT_le a l i
    have hle1 := cntT_le a l (i + 1)
    have hsm := sm_le K i
    have hsm2 : i * K ≤ 100 * 100 := Nat.mul_le_mul (by omega) hK
    have hlen : (a ++ rans a l K i).length ≤ 1000000 := by rw [List.length_append, rans_len]; omega
    have hnx : ∀ k, d * 200 + 1 < k → QCan.chalklinelaw16_ran.l0 k (K : Int) a (a ++ rans a l K i ++ ranRow (cntT a l (i + 1)) (min (i + 1) K)) (cntT a l (i + 1) : Int) l (l.length : Int) ((i + 1 : Nat) : Int) = some (a ++ rans a l K l.length) := fun k hk => by
      have := ih (i + 1) k (by omega) hk
      rwa [show rans a l K (i + 1) = rans a l K i ++ ranRow (cntT a l (i + 1)) (min (i + 1) K) from rfl, ← List.append_assoc] at this
    have hj1 : ∀ k, d * 200 + 160 < k → QCan.chalklinelaw16_ran.j1 k (K : Int) a (a ++ rans a l K i) (cntT a l (i + 1) : Int) (i : Int) l (l.length : Int) (i : Int) = some (a ++ rans a l K l.length) := fun k hk => by
      obtain ⟨k, rfl⟩ : ∃ j, k = j + 1 := ⟨k - 1, by omega⟩
      rw [QCan.chalklinelaw16_ran.j1]
      have h := ran_l1 (a := a) (l := l) (K := K) (i := i) (c := cntT a l (i + 1)) (by omega) (by omega) (by omega) hlen hnx (min (i + 1) K) 0 k (by omega) (by omega)
      rwa [show ranRow (cntT a l (i + 1)) 0 = [] from rfl, List.append_nil] at h
    rw [QCan.chalklinelaw16_ran.l0, if_pos (by omega), if_pos (by omega), if_pos (by omega), e, truth_f (hl _ hmem) hm ha]
    simp only [Option.bind_some]
    cases ht : tv a (l.getD i 0) with
    | true =>
      rw [if_pos rfl, show wrap64 ((cntT a l i : Int) + 1) = ((cntT a l (i + 1) : Nat) : Int) from by rw [cntT_true ht]; unfold wrap64; omega]
      exact hj1 k (by omega)
    | false =>
      rw [if_neg (by decide)]
      have := hj1 k (by omega)
      rwa [cntT_false ht] at this

theorem ran_f {l : List Int} {a : List Bool} {m : Int} (hl : ∀ x ∈ l, Gr m x) (hm : m ≤ 70000) (ha : m ≤ a.length) (ha2 : a.length ≤ 1000) (hs : l.length ≤ 100) {K : Nat} (hK : K ≤ 100) {k : Nat} (hk : 100000 < k) : QCan.chalklinelaw16_ran.f k l (K : Int) a = some (a ++ rans a l K l.length) := by
  unfold QCan.chalklinelaw16_ran.f
  rw [if_pos (by show 0 + a.length < _; omega), List.nil_append]
  have h := ran_l0 hl hm ha ha2 hs hK l.length 0 k (by omega) (by omega)
  rwa [show rans a l K 0 = [] from rfl, List.append_nil] at h

#print axioms ran_f

end Go.Proofs.Ytpadmbpopjmdjaa.G
