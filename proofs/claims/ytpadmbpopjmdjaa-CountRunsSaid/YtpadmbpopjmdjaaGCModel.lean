/-
  The counter's clauses and the count of true literals: in plain Lean.
-/
import Derived.Test.YtpadmbpopjmdjaaGLeastS
import Derived.Test.YtpadmbpopjmdjaaGHolds
namespace Go.Proofs.Ytpadmbpopjmdjaa.G
set_option linter.unusedVariables false
open Go.RowKit Go.Proofs.YtpadmbpopjmdjaaW.PrintWords Go.Proofs.YtpadmbpopjmdjaaW.PrintLast

/-- The value of a literal. -/
def tv (b : List Bool) (x : Int) : Bool := if x < 0 then !(b.getD (-x).toNat false) else b.getD x.toNat false
/-- A literal of a variable from 1 to m - 1. -/
def Gr (m x : Int) : Prop := x ≠ 0 ∧ -m < x ∧ x < m
/-- A clause holds. -/
def Hold (b : List Bool) (c : List Int) : Prop := ∃ x ∈ c, tv b x = true

theorem Gr.wf {m x : Int} (h : Gr m x) (hm : m ≤ 70000) : (Lit.int .i64 x).wf = true := by
  obtain ⟨_, h1, h2⟩ := h
  have hmin : IntKind.i64.min = -9223372036854775808 := rfl
  have hmax : IntKind.i64.max = 9223372036854775807 := rfl
  simp only [Lit.wf, Bool.and_eq_true, decide_eq_true_eq]
  omega

theorem litB_tv {b : List Bool} {m x : Int} (hx : Gr m x) (hm : m ≤ 65537) (hb : m ≤ b.length) : litB b x = tv b x := by
  obtain ⟨h0, h1, h2⟩ := hx
  have hw : wrap64 (-65536) = -65536 := by decide +kernel
  have hn : wrap64 (-x) = -x := by unfold wrap64; omega
  unfold litB QSmall.cnf_lit_true.f QSmall.cnf_lit_may.f QSmall.cnf_lit_of.f tv
  rw [hw, hn, if_neg h0, if_pos (show -65536 ≤ x by omega)]
  simp only [Option.bind_some]
  rw [if_pos (by simp; omega)]
  by_cases hneg : x < 0
  · have hmx : mx x (-x) = -x := by unfold mx; rw [if_pos (by omega)]
    have h1 : decide (x > 0) = false := decide_eq_false (by omega)
    rw [hmx, if_pos (by omega), if_pos (by omega), if_pos hneg, h1]
    show (rdOf false b (-x) == false) = !(rdOf false b (-x))
    cases rdOf false b (-x) <;> rfl
  · have hmx : mx x (-x) = x := by unfold mx; rw [if_neg (by omega)]
    have h1 : decide (x > 0) = true := decide_eq_true (by omega)
    rw [hmx, if_pos (by omega), if_pos (by omega), if_neg hneg, h1]
    show (rdOf false b x == true) = rdOf false b x
    cases rdOf false b x <;> rfl

theorem holdsB_iff {b : List Bool} {m : Int} {c : List Int} (hc : ∀ x ∈ c, Gr m x) (hm : m ≤ 65537) (hb : m ≤ b.length) : holdsB c b = true ↔ Hold b c := by
  unfold holdsB Hold
  rw [List.any_eq_true]
  constructor
  · rintro ⟨x, hx, h⟩
    exact ⟨x, hx, by rw [← litB_tv (hc x hx) hm hb]; exact h⟩
  · rintro ⟨x, hx, h⟩
    exact ⟨x, hx, by rw [litB_tv (hc x hx) hm hb]; exact h⟩

/-- How many of the first i literals are true. -/
def cntT (b : List Bool) (l : List Int) : Nat → Nat
  | 0 => 0
  | i + 1 => cntT b l i + if tv b (l.getD i 0) = true then 1 else 0

theorem cntT_le (b : List Bool) (l : List Int) : ∀ i, cntT b l i ≤ i
  | 0 => Nat.le_refl _
  | i + 1 => by have := cntT_le b l i; unfold cntT; split <;> omega
theorem cntT_step (b : List Bool) (l : List Int) (i : Nat) : cntT b l i ≤ cntT b l (i + 1) ∧ cntT b l (i + 1) ≤ cntT b l i + 1 := by
  show cntT b l i ≤ cntT b l i + _ ∧ cntT b l i + _ ≤ _
  split <;> omega
theorem cntT_true {b : List Bool} {l : List Int} {i : Nat} (h : tv b (l.getD i 0) = true) : cntT b l (i + 1) = cntT b l i + 1 := by show cntT b l i + _ = _; rw [if_pos h]
theorem cntT_false {b : List Bool} {l : List Int} {i : Nat} (h : tv b (l.getD i 0) = false) : cntT b l (i + 1) = cntT b l i := by show cntT b l i + _ = _; rw [if_neg (by rw [h]; decide)]; rfl

/-- The number of a register. -/
def rg (next : Int) (k i j : Nat) : Int := next + sm k i + j - 1

theorem tv_neg {b : List Bool} {x : Int} (h : 0 < x) : tv b (-x) = !(tv b x) := by
  unfold tv
  rw [if_pos (by omega), if_neg (by omega), Int.neg_neg]

theorem rg_pos {next : Int} {k i j : Nat} (hn : 1 ≤ next) (hj : 1 ≤ j) : 0 < rg next k i j := by unfold rg; omega

theorem mem_crow {next : Int} {k i : Nat} {x : Int} : ∀ {m : Nat} {c : List Int}, c ∈ crow next k i x m ↔ ∃ j, 1 ≤ j ∧ j ≤ m ∧ (c = cl1 next k i x j ∨ (2 ≤ j ∧ c = cl2 next k i j))
  | 0, c => by
    constructor
    · intro h; cases h
    · rintro ⟨j, h1, h2, _⟩; omega
  | m + 1, c => by
    have e : crow next k i x (m + 1) = crow next k i x m ++ cl12 next k i x (m + 1) := rfl
    rw [e, List.mem_append, mem_crow (m := m)]
    constructor
    · rintro (⟨j, h1, h2, h3⟩ | h)
      · exact ⟨j, h1, by omega, h3⟩
      · unfold cl12 at h
        split at h
        · rename_i h4
          simp only [List.mem_cons, List.not_mem_nil, or_false] at h
          rcases h with h | h
          · exact ⟨m + 1, by omega, by omega, .inl h⟩
          · exact ⟨m + 1, by omega, by omega, .inr ⟨by omega, h⟩⟩
        · simp only [List.mem_cons, List.not_mem_nil, or_false] at h
          exact ⟨m + 1, by omega, by omega, .inl h⟩
    · rintro ⟨j, h1, h2, h3⟩
      by_cases hj : j ≤ m
      · exact .inl ⟨j, h1, hj, h3⟩
      · right
        have hj2 : j = m + 1 := by omega
        subst hj2
        unfold cl12
        rcases h3 with h | ⟨h5, h⟩
        · split <;> simp [h]
        · rw [if_pos (by omega)]; simp [h]

theorem mem_crows {next : Int} {k : Nat} {l : List Int} : ∀ {n : Nat} {c : List Int}, c ∈ crows next k l n ↔ ∃ i, i < n ∧ c ∈ crow next k i (l.getD i 0) (min (i + 1) k)
  | 0, c => by
    constructor
    · intro h; cases h
    · rintro ⟨i, h, _⟩; omega
  | n + 1, c => by
    have e : crows next k l (n + 1) = crows next k l n ++ crow next k n (l.getD n 0) (min (n + 1) k) := rfl
    rw [e, List.mem_append, mem_crows (n := n)]
    constructor
    · rintro (⟨i, h1, h2⟩ | h)
      · exact ⟨i, by omega, h2⟩
      · exact ⟨n, by omega, h⟩
    · rintro ⟨i, h1, h2⟩
      by_cases hi : i < n
      · exact .inl ⟨i, hi, h2⟩
      · obtain rfl : i = n := by omega
        exact .inr h2

/-- A register that is true bounds the count from below. -/
theorem regs_sound {b : List Bool} {next : Int} {k : Nat} {l : List Int} {n : Nat} (hn : 1 ≤ next) (h : ∀ c ∈ crows next k l n, Hold b c) : ∀ i, i < n → ∀ j, 1 ≤ j → j ≤ min (i + 1) k → tv b (rg next k i j) = true → j ≤ cntT b l (i + 1) := by
  intro i
  induction i with
  | zero =>
    intro hi j h1 h2 ht
    obtain ⟨x, hx, hxt⟩ := h _ (mem_crows.2 ⟨0, hi, mem_crow.2 ⟨j, h1, h2, .inl rfl⟩⟩)
    unfold cl1 at hx
    rw [if_neg (by omega)] at hx
    simp only [List.mem_cons, List.not_mem_nil, or_false] at hx
    rcases hx with rfl | rfl
    · rw [show -(next + (sm k 0 : Int) + (j : Int) - 1) = -(rg next k 0 j) from rfl, tv_neg (rg_pos hn h1), ht] at hxt
      cases hxt
    · have := cntT_true hxt
      omega
  | succ i ih =>
    intro hi j h1 h2 ht
    have ih := ih (by omega)
    have hst := cntT_step b l (i + 1)
    have e1 : ∀ q : Nat, next + ((sm k (i + 1 - 1) : Nat) : Int) + (q : Int) - 1 = rg next k i q := fun q => by unfold rg; rw [show i + 1 - 1 = i from rfl]
    obtain ⟨x, hx, hxt⟩ := h _ (mem_crows.2 ⟨i + 1, hi, mem_crow.2 ⟨j, h1, h2, .inl rfl⟩⟩)
    have hab : (j ≤ min (i + 1) k ∧ tv b (rg next k i j) = true) ∨ tv b (l.getD (i + 1) 0) = true := by
      unfold cl1 at hx
      split at hx
      · rename_i hj
        simp only [List.mem_cons, List.not_mem_nil, or_false] at hx
        rcases hx with rfl | rfl | rfl
        · rw [show -(next + (sm k (i + 1) : Int) + (j : Int) - 1) = -(rg next k (i + 1) j) from rfl, tv_neg (rg_pos hn h1), ht] at hxt
          cases hxt
        · rw [e1] at hxt
          exact .inl ⟨hj, hxt⟩
        · exact .inr hxt
      · simp only [List.mem_cons, List.not_mem_nil, or_false] at hx
        rcases hx with rfl | rfl
        · rw [show -(next + (sm k (i + 1) : Int) + (j : Int) - 1) = -(rg next k (i + 1) j) from rfl, tv_neg (rg_pos hn h1), ht] at hxt
          cases hxt
        · exact .inr hxt
    rcases hab with ⟨hj, hab⟩ | hab
    · have := ih j h1 hj hab
      omega
    · have hc := cntT_true hab
      by_cases hj2 : 2 ≤ j
      · obtain ⟨y, hy, hyt⟩ := h _ (mem_crows.2 ⟨i + 1, hi, mem_crow.2 ⟨j, h1, h2, .inr ⟨hj2, rfl⟩⟩⟩)
        have e2 : next + ((sm k (i + 1 - 1) : Nat) : Int) + (j : Int) - 2 = rg next k i (j - 1) := by unfold rg; rw [show i + 1 - 1 = i from rfl]; omega
        unfold cl2 at hy
        split at hy
        · rename_i hj
          simp only [List.mem_cons, List.not_mem_nil, or_false] at hy
          rcases hy with rfl | rfl | rfl
          · rw [show -(next + (sm k (i + 1) : Int) + (j : Int) - 1) = -(rg next k (i + 1) j) from rfl, tv_neg (rg_pos hn h1), ht] at hyt
            cases hyt
          · rw [e1] at hyt
            have := ih j h1 hj hyt
            omega
          · rw [e2] at hyt
            have := ih (j - 1) (by omega) (by omega) hyt
            omega
        · simp only [List.mem_cons, List.not_mem_nil, or_false] at hy
          rcases hy with rfl | rfl
          · rw [show -(next + (sm k (i + 1) : Int) + (j : Int) - 1) = -(rg next k (i + 1) j) from rfl, tv_neg (rg_pos hn h1), ht] at hyt
            cases hyt
          · rw [e2] at hyt
            have := ih (j - 1) (by omega) (by omega) hyt
            omega
      · omega

/-- Registers that tell the counts satisfy the clauses of the rows. -/
theorem regs_complete {b : List Bool} {next : Int} {k : Nat} {l : List Int} {n : Nat} (hn : 1 ≤ next) (h : ∀ i, i < n → ∀ j, 1 ≤ j → j ≤ min (i + 1) k → tv b (rg next k i j) = decide (j ≤ cntT b l (i + 1))) : ∀ c ∈ crows next k l n, Hold b c := by
  intro c hc
  obtain ⟨i, hi, hc⟩ := mem_crows.1 hc
  obtain ⟨j, h1, h2, hc⟩ := mem_crow.1 hc
  have hr := h i hi j h1 h2
  have hst := cntT_step b l i
  have hle := cntT_le b l i
  have hle1 := cntT_le b l (i + 1)
  have hng : tv b (-(rg next k i j)) = !decide (j ≤ cntT b l (i + 1)) := by rw [tv_neg (rg_pos hn h1), hr]
  have e0 : -(next + (sm k i : Int) + (j : Int) - 1) = -(rg next k i j) := rfl
  by_cases hj : j ≤ cntT b l (i + 1)
  · have hup : ∀ q : Nat, 1 ≤ q → q ≤ cntT b l i → q ≤ k → q ≤ min i k ∧ tv b (next + ((sm k (i - 1) : Nat) : Int) + (q : Int) - 1) = true := fun q hq1 hq2 hq3 => by
      obtain ⟨m, rfl⟩ : ∃ m, i = m + 1 := ⟨i - 1, by omega⟩
      have := h m (by omega) q hq1 (by omega)
      rw [decide_eq_true hq2] at this
      exact ⟨by omega, this⟩
    rcases hc with rfl | ⟨hj2, rfl⟩
    · cases hx : tv b (l.getD i 0) with
      | true =>
        refine ⟨l.getD i 0, ?_, hx⟩
        unfold cl1
        split <;> simp
      | false =>
        have hc := cntT_false hx
        obtain ⟨h3, h4⟩ := hup j h1 (by omega) (by omega)
        refine ⟨_, ?_, h4⟩
        unfold cl1
        rw [if_pos h3]
        simp
    · obtain ⟨h3, h4⟩ := hup (j - 1) (by omega) (by omega) (by omega)
      refine ⟨_, ?_, h4⟩
      have e2 : next + ((sm k (i - 1) : Nat) : Int) + ((j - 1 : Nat) : Int) - 1 = next + ((sm k (i - 1) : Nat) : Int) + (j : Int) - 2 := by omega
      rw [e2]
      unfold cl2
      split <;> simp
  · rw [decide_eq_false hj] at hng
    refine ⟨-(rg next k i j), ?_, hng⟩
    rcases hc with rfl | ⟨hj2, rfl⟩
    · unfold cl1
      rw [e0]
      split <;> simp
    · unfold cl2
      rw [e0]
      split <;> simp

/-- The clauses' literals. -/
theorem crows_gr {next : Int} {k : Nat} {l : List Int} {n : Nat} (hn : 1 ≤ next) (hl : ∀ x ∈ l, Gr next x) (hnl : n ≤ l.length) : ∀ c ∈ crows next k l n, ∀ x ∈ c, Gr (next + sm k n) x := by
  intro c hc x hx
  obtain ⟨i, hi, hc⟩ := mem_crows.1 hc
  obtain ⟨j, h1, h2, hc⟩ := mem_crow.1 hc
  have hs := sm_succ k i
  have hm := sm_mono (k := k) (show i + 1 ≤ n by omega)
  have hm1 := sm_mono (k := k) (show i - 1 ≤ i by omega)
  have hi0 : 1 ≤ i → sm k i = sm k (i - 1) + min i k := fun h => by
    obtain ⟨m, rfl⟩ : ∃ m, i = m + 1 := ⟨i - 1, by omega⟩
    exact sm_succ k m
  have hli : Gr (next + sm k n) (l.getD i 0) := by
    have hm2 : l.getD i 0 ∈ l := by simp [List.getD_eq_getElem?_getD, show i < l.length by omega]
    obtain ⟨a, b, c⟩ := hl _ hm2
    exact ⟨a, by omega, by omega⟩
  have hr : Gr (next + sm k n) (-(next + (sm k i : Int) + (j : Int) - 1)) := ⟨by omega, by omega, by omega⟩
  rcases hc with rfl | ⟨hj2, rfl⟩
  · unfold cl1 at hx
    split at hx
    · have := hi0 (by omega)
      simp only [List.mem_cons, List.not_mem_nil, or_false] at hx
      rcases hx with rfl | rfl | rfl
      · exact hr
      · exact ⟨by omega, by omega, by omega⟩
      · exact hli
    · simp only [List.mem_cons, List.not_mem_nil, or_false] at hx
      rcases hx with rfl | rfl
      · exact hr
      · exact hli
  · unfold cl2 at hx
    split at hx
    · have := hi0 (by omega)
      simp only [List.mem_cons, List.not_mem_nil, or_false] at hx
      rcases hx with rfl | rfl | rfl
      · exact hr
      · exact ⟨by omega, by omega, by omega⟩
      · exact ⟨by omega, by omega, by omega⟩
    · have := hi0 (by omega)
      simp only [List.mem_cons, List.not_mem_nil, or_false] at hx
      rcases hx with rfl | rfl
      · exact hr
      · exact ⟨by omega, by omega, by omega⟩

theorem leastCs_gr {next : Int} {k : Nat} {l : List Int} (hn : 1 ≤ next) (hk : 1 ≤ k) (hkl : k ≤ l.length) (hl : ∀ x ∈ l, Gr next x) : ∀ c ∈ leastCs next k l, ∀ x ∈ c, Gr (next + sm k l.length) x := by
  intro c hc x hx
  rcases List.mem_append.1 hc with h | h
  · exact crows_gr hn hl (Nat.le_refl _) c h x hx
  · rw [List.mem_singleton] at h
    subst h
    rw [List.mem_singleton] at hx
    subst hx
    obtain ⟨m, hm⟩ : ∃ m, l.length = m + 1 := ⟨l.length - 1, by omega⟩
    have := sm_succ k m
    rw [hm, show m + 1 - 1 = m from rfl]
    exact ⟨by omega, by omega, by omega⟩

#print axioms regs_sound
#print axioms regs_complete
#print axioms leastCs_gr

end Go.Proofs.Ytpadmbpopjmdjaa.G
