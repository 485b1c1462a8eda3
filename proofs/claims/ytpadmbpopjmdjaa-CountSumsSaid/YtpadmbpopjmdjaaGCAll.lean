/-
  The counter's clauses, what many, ran and can answer, when the clauses can be satisfied: in plain Lean.
-/
import Derived.Test.YtpadmbpopjmdjaaGLeastS
import Derived.Test.YtpadmbpopjmdjaaGHolds
import Derived.Test.YtpadmbpopjmdjaaGCheck
import Derived.Test.YtpadmbpopjmdjaaGCRef
import Derived.Test.YtpadmbpopjmdjaaQCanx1

namespace Go.Proofs.Ytpadmbpopjmdjaa.G
set_option linter.unusedVariables false
open Go.RowKit Go.Proofs.YtpadmbpopjmdjaaW.PrintWords Go.Proofs.YtpadmbpopjmdjaaW.PrintLast

/-- The value of a literal. -/
def tv (b : List Bool) (x : Int) : Bool := if x < 0 then !(b.getD (-x).toNat false) else b.getD x.toNat false
/-- A literal of a variable from 1 to m - 1. -/
def Gr (m x : Int) : Prop := x ≠ 0 ∧ -m < x ∧ x < m
/-- A clause holds. -/
def Hold (b : List Bool) (c : List Int) : Prop := ∃ x ∈ c, tv b x = true

theorem Gr.wf {m x : Int} (h : Gr m x) (hm : m ≤ 70000) : (Lit.int .i64 x).wf = true := by
  obtain ⟨_, h1, h2⟩ := h
  have hmin : IntKind.i64.min = -9223372036854775808 := rfl
  have hmax : IntKind.i64.max = 9223372036854775807 := rfl
  simp only [Lit.wf, Bool.and_eq_true, decide_eq_true_eq]
  omega

theorem litB_tv {b : List Bool} {m x : Int} (hx : Gr m x) (hm : m ≤ 65537) (hb : m ≤ b.length) : litB b x = tv b x := by
  obtain ⟨h0, h1, h2⟩ := hx
  have hw : wrap64 (-65536) = -65536 := by decide +kernel
  have hn : wrap64 (-x) = -x := by unfold wrap64; omega
  unfold litB QSmall.cnf_lit_true.f QSmall.cnf_lit_may.f QSmall.cnf_lit_of.f tv
  rw [hw, hn, if_neg h0, if_pos (show -65536 ≤ x by omega)]
  simp only [Option.bind_some]
  rw [if_pos (by simp; omega)]
  by_cases hneg : x < 0
  · have hmx : mx x (-x) = -x := by unfold mx; rw [if_pos (by omega)]
    have h1 : decide (x > 0) = false := decide_eq_false (by omega)
    rw [hmx, if_pos (by omega), if_pos (by omega), if_pos hneg, h1]
    show (rdOf false b (-x) == false) = !(rdOf false b (-x))
    cases rdOf false b (-x) <;> rfl
  · have hmx : mx x (-x) = x := by unfold mx; rw [if_neg (by omega)]
    have h1 : decide (x > 0) = true := decide_eq_true (by omega)
    rw [hmx, if_pos (by omega), if_pos (by omega), if_neg hneg, h1]
    show (rdOf false b x == true) = rdOf false b x
    cases rdOf false b x <;> rfl

theorem holdsB_iff {b : List Bool} {m : Int} {c : List Int} (hc : ∀ x ∈ c, Gr m x) (hm : m ≤ 65537) (hb : m ≤ b.length) : holdsB c b = true ↔ Hold b c := by
  unfold holdsB Hold
  rw [List.any_eq_true]
  constructor
  · rintro ⟨x, hx, h⟩
    exact ⟨x, hx, by rw [← litB_tv (hc x hx) hm hb]; exact h⟩
  · rintro ⟨x, hx, h⟩
    exact ⟨x, hx, by rw [litB_tv (hc x hx) hm hb]; exact h⟩

/-- How many of the first i literals are true. -/
def cntT (b : List Bool) (l : List Int) : Nat → Nat
  | 0 => 0
  | i + 1 => cntT b l i + if tv b (l.getD i 0) = true then 1 else 0

theorem cntT_le (b : List Bool) (l : List Int) : ∀ i, cntT b l i ≤ i
  | 0 => Nat.le_refl _
  | i + 1 => by have := cntT_le b l i; unfold cntT; split <;> omega
theorem cntT_step (b : List Bool) (l : List Int) (i : Nat) : cntT b l i ≤ cntT b l (i + 1) ∧ cntT b l (i + 1) ≤ cntT b l i + 1 := by
  show cntT b l i ≤ cntT b l i + _ ∧ cntT b l i + _ ≤ _
  split <;> omega
theorem cntT_true {b : List Bool} {l : List Int} {i : Nat} (h : tv b (l.getD i 0) = true) : cntT b l (i + 1) = cntT b l i + 1 := by show cntT b l i + _ = _; rw [if_pos h]
theorem cntT_false {b : List Bool} {l : List Int} {i : Nat} (h : tv b (l.getD i 0) = false) : cntT b l (i + 1) = cntT b l i := by show cntT b l i + _ = _; rw [if_neg (by rw [h]; decide)]; rfl

/-- The number of a register. -/
def rg (next : Int) (k i j : Nat) : Int := next + sm k i + j - 1

theorem tv_neg {b : List Bool} {x : Int} (h : 0 < x) : tv b (-x) = !(tv b x) := by
  unfold tv
  rw [if_pos (by omega), if_neg (by omega), Int.neg_neg]

theorem rg_pos {next : Int} {k i j : Nat} (hn : 1 ≤ next) (hj : 1 ≤ j) : 0 < rg next k i j := by unfold rg; omega

theorem mem_crow {next : Int} {k i : Nat} {x : Int} : ∀ {m : Nat} {c : List Int}, c ∈ crow next k i x m ↔ ∃ j, 1 ≤ j ∧ j ≤ m ∧ (c = cl1 next k i x j ∨ (2 ≤ j ∧ c = cl2 next k i j))
  | 0, c => by
    constructor
    · intro h; cases h
    · rintro ⟨j, h1, h2, _⟩; omega
  | m + 1, c => by
    have e : crow next k i x (m + 1) = crow next k i x m ++ cl12 next k i x (m + 1) := rfl
    rw [e, List.mem_append, mem_crow (m := m)]
    constructor
    · rintro (⟨j, h1, h2, h3⟩ | h)
      · exact ⟨j, h1, by omega, h3⟩
      · unfold cl12 at h
        split at h
        · rename_i h4
          simp only [List.mem_cons, List.not_mem_nil, or_false] at h
          rcases h with h | h
          · exact ⟨m + 1, by omega, by omega, .inl h⟩
          · exact ⟨m + 1, by omega, by omega, .inr ⟨by omega, h⟩⟩
        · simp only [List.mem_cons, List.not_mem_nil, or_false] at h
          exact ⟨m + 1, by omega, by omega, .inl h⟩
    · rintro ⟨j, h1, h2, h3⟩
      by_cases hj : j ≤ m
      · exact .inl ⟨j, h1, hj, h3⟩
      · right
        have hj2 : j = m + 1 := by omega
        subst hj2
        unfold cl12
        rcases h3 with h | ⟨h5, h⟩
        · split <;> simp [h]
        · rw [if_pos (by omega)]; simp [h]

theorem mem_crows {next : Int} {k : Nat} {l : List Int} : ∀ {n : Nat} {c : List Int}, c ∈ crows next k l n ↔ ∃ i, i < n ∧ c ∈ crow next k i (l.getD i 0) (min (i + 1) k)
  | 0, c => by
    constructor
    · intro h; cases h
    · rintro ⟨i, h, _⟩; omega
  | n + 1, c => by
    have e : crows next k l (n + 1) = crows next k l n ++ crow next k n (l.getD n 0) (min (n + 1) k) := rfl
    rw [e, List.mem_append, mem_crows (n := n)]
    constructor
    · rintro (⟨i, h1, h2⟩ | h)
      · exact ⟨i, by omega, h2⟩
      · exact ⟨n, by omega, h⟩
    · rintro ⟨i, h1, h2⟩
      by_cases hi : i < n
      · exact .inl ⟨i, hi, h2⟩
      · obtain rfl : i = n := by omega
        exact .inr h2

/-- A register that is true bounds the count from below. -/
theorem regs_sound {b : List Bool} {next : Int} {k : Nat} {l : List Int} {n : Nat} (hn : 1 ≤ next) (h : ∀ c ∈ crows next k l n, Hold b c) : ∀ i, i < n → ∀ j, 1 ≤ j → j ≤ min (i + 1) k → tv b (rg next k i j) = true → j ≤ cntT b l (i + 1) := by
  intro i
  induction i with
  | zero =>
    intro hi j h1 h2 ht
    obtain ⟨x, hx, hxt⟩ := h _ (mem_crows.2 ⟨0, hi, mem_crow.2 ⟨j, h1, h2, .inl rfl⟩⟩)
    unfold cl1 at hx
    rw [if_neg (by omega)] at hx
    simp only [List.mem_cons, List.not_mem_nil, or_false] at hx
    rcases hx with rfl | rfl
    · rw [show -(next + (sm k 0 : Int) + (j : Int) - 1) = -(rg next k 0 j) from rfl, tv_neg (rg_pos hn h1), ht] at hxt
      cases hxt
    · have := cntT_true hxt
      omega
  | succ i ih =>
    intro hi j h1 h2 ht
    have ih := ih (by omega)
    have hst := cntT_step b l (i + 1)
    have e1 : ∀ q : Nat, next + ((sm k (i + 1 - 1) : Nat) : Int) + (q : Int) - 1 = rg next k i q := fun q => by unfold rg; rw [show i + 1 - 1 = i from rfl]
    obtain ⟨x, hx, hxt⟩ := h _ (mem_crows.2 ⟨i + 1, hi, mem_crow.2 ⟨j, h1, h2, .inl rfl⟩⟩)
    have hab : (j ≤ min (i + 1) k ∧ tv b (rg next k i j) = true) ∨ tv b (l.getD (i + 1) 0) = true := by
      unfold cl1 at hx
      split at hx
      · rename_i hj
        simp only [List.mem_cons, List.not_mem_nil, or_false] at hx
        rcases hx with rfl | rfl | rfl
        · rw [show -(next + (sm k (i + 1) : Int) + (j : Int) - 1) = -(rg next k (i + 1) j) from rfl, tv_neg (rg_pos hn h1), ht] at hxt
          cases hxt
        · rw [e1] at hxt
          exact .inl ⟨hj, hxt⟩
        · exact .inr hxt
      · simp only [List.mem_cons, List.not_mem_nil, or_false] at hx
        rcases hx with rfl | rfl
        · rw [show -(next + (sm k (i + 1) : Int) + (j : Int) - 1) = -(rg next k (i + 1) j) from rfl, tv_neg (rg_pos hn h1), ht] at hxt
          cases hxt
        · exact .inr hxt
    rcases hab with ⟨hj, hab⟩ | hab
    · have := ih j h1 hj hab
      omega
    · have hc := cntT_true hab
      by_cases hj2 : 2 ≤ j
      · obtain ⟨y, hy, hyt⟩ := h _ (mem_crows.2 ⟨i + 1, hi, mem_crow.2 ⟨j, h1, h2, .inr ⟨hj2, rfl⟩⟩⟩)
        have e2 : next + ((sm k (i + 1 - 1) : Nat) : Int) + (j : Int) - 2 = rg next k i (j - 1) := by unfold rg; rw [show i + 1 - 1 = i from rfl]; omega
        unfold cl2 at hy
        split at hy
        · rename_i hj
          simp only [List.mem_cons, List.not_mem_nil, or_false] at hy
          rcases hy with rfl | rfl | rfl
          · rw [show -(next + (sm k (i + 1) : Int) + (j : Int) - 1) = -(rg next k (i + 1) j) from rfl, tv_neg (rg_pos hn h1), ht] at hyt
            cases hyt
          · rw [e1] at hyt
            have := ih j h1 hj hyt
            omega
          · rw [e2] at hyt
            have := ih (j - 1) (by omega) (by omega) hyt
            omega
        · simp only [List.mem_cons, List.not_mem_nil, or_false] at hy
          rcases hy with rfl | rfl
          · rw [show -(next + (sm k (i + 1) : Int) + (j : Int) - 1) = -(rg next k (i + 1) j) from rfl, tv_neg (rg_pos hn h1), ht] at hyt
            cases hyt
          · rw [e2] at hyt
            have := ih (j - 1) (by omega) (by omega) hyt
            omega
      · omega

/-- Registers that tell the counts satisfy the clauses of the rows. -/
theorem regs_complete {b : List Bool} {next : Int} {k : Nat} {l : List Int} {n : Nat} (hn : 1 ≤ next) (h : ∀ i, i < n → ∀ j, 1 ≤ j → j ≤ min (i + 1) k → tv b (rg next k i j) = decide (j ≤ cntT b l (i + 1))) : ∀ c ∈ crows next k l n, Hold b c := by
  intro c hc
  obtain ⟨i, hi, hc⟩ := mem_crows.1 hc
  obtain ⟨j, h1, h2, hc⟩ := mem_crow.1 hc
  have hr := h i hi j h1 h2
  have hst := cntT_step b l i
  have hle := cntT_le b l i
  have hle1 := cntT_le b l (i + 1)
  have hng : tv b (-(rg next k i j)) = !decide (j ≤ cntT b l (i + 1)) := by rw [tv_neg (rg_pos hn h1), hr]
  have e0 : -(next + (sm k i : Int) + (j : Int) - 1) = -(rg next k i j) := rfl
  by_cases hj : j ≤ cntT b l (i + 1)
  · have hup : ∀ q : Nat, 1 ≤ q → q ≤ cntT b l i → q ≤ k → q ≤ min i k ∧ tv b (next + ((sm k (i - 1) : Nat) : Int) + (q : Int) - 1) = true := fun q hq1 hq2 hq3 => by
      obtain ⟨m, rfl⟩ : ∃ m, i = m + 1 := ⟨i - 1, by omega⟩
      have := h m (by omega) q hq1 (by omega)
      rw [decide_eq_true hq2] at this
      exact ⟨by omega, this⟩
    rcases hc with rfl | ⟨hj2, rfl⟩
    · cases hx : tv b (l.getD i 0) with
      | true =>
        refine ⟨l.getD i 0, ?_, hx⟩
        unfold cl1
        split <;> simp
      | false =>
        have hc := cntT_false hx
        obtain ⟨h3, h4⟩ := hup j h1 (by omega) (by omega)
        refine ⟨_, ?_, h4⟩
        unfold cl1
        rw [if_pos h3]
        simp
    · obtain ⟨h3, h4⟩ := hup (j - 1) (by omega) (by omega) (by omega)
      refine ⟨_, ?_, h4⟩
      have e2 : next + ((sm k (i - 1) : Nat) : Int) + ((j - 1 : Nat) : Int) - 1 = next + ((sm k (i - 1) : Nat) : Int) + (j : Int) - 2 := by omega
      rw [e2]
      unfold cl2
      split <;> simp
  · rw [decide_eq_false hj] at hng
    refine ⟨-(rg next k i j), ?_, hng⟩
    rcases hc with rfl | ⟨hj2, rfl⟩
    · unfold cl1
      rw [e0]
      split <;> simp
    · unfold cl2
      rw [e0]
      split <;> simp

/-- The clauses' literals. -/
theorem crows_gr {next : Int} {k : Nat} {l : List Int} {n : Nat} (hn : 1 ≤ next) (hl : ∀ x ∈ l, Gr next x) (hnl : n ≤ l.length) : ∀ c ∈ crows next k l n, ∀ x ∈ c, Gr (next + sm k n) x := by
  intro c hc x hx
  obtain ⟨i, hi, hc⟩ := mem_crows.1 hc
  obtain ⟨j, h1, h2, hc⟩ := mem_crow.1 hc
  have hs := sm_succ k i
  have hm := sm_mono (k := k) (show i + 1 ≤ n by omega)
  have hm1 := sm_mono (k := k) (show i - 1 ≤ i by omega)
  have hi0 : 1 ≤ i → sm k i = sm k (i - 1) + min i k := fun h => by
    obtain ⟨m, rfl⟩ : ∃ m, i = m + 1 := ⟨i - 1, by omega⟩
    exact sm_succ k m
  have hli : Gr (next + sm k n) (l.getD i 0) := by
    have hm2 : l.getD i 0 ∈ l := by simp [List.getD_eq_getElem?_getD, show i < l.length by omega]
    obtain ⟨a, b, c⟩ := hl _ hm2
    exact ⟨a, by omega, by omega⟩
  have hr : Gr (next + sm k n) (-(next + (sm k i : Int) + (j : Int) - 1)) := ⟨by omega, by omega, by omega⟩
  rcases hc with rfl | ⟨hj2, rfl⟩
  · unfold cl1 at hx
    split at hx
    · have := hi0 (by omega)
      simp only [List.mem_cons, List.not_mem_nil, or_false] at hx
      rcases hx with rfl | rfl | rfl
      · exact hr
      · exact ⟨by omega, by omega, by omega⟩
      · exact hli
    · simp only [List.mem_cons, List.not_mem_nil, or_false] at hx
      rcases hx with rfl | rfl
      · exact hr
      · exact hli
  · unfold cl2 at hx
    split at hx
    · have := hi0 (by omega)
      simp only [List.mem_cons, List.not_mem_nil, or_false] at hx
      rcases hx with rfl | rfl | rfl
      · exact hr
      · exact ⟨by omega, by omega, by omega⟩
      · exact ⟨by omega, by omega, by omega⟩
    · have := hi0 (by omega)
      simp only [List.mem_cons, List.not_mem_nil, or_false] at hx
      rcases hx with rfl | rfl
      · exact hr
      · exact ⟨by omega, by omega, by omega⟩

theorem leastCs_gr {next : Int} {k : Nat} {l : List Int} (hn : 1 ≤ next) (hk : 1 ≤ k) (hkl : k ≤ l.length) (hl : ∀ x ∈ l, Gr next x) : ∀ c ∈ leastCs next k l, ∀ x ∈ c, Gr (next + sm k l.length) x := by
  intro c hc x hx
  rcases List.mem_append.1 hc with h | h
  · exact crows_gr hn hl (Nat.le_refl _) c h x hx
  · rw [List.mem_singleton] at h
    subst h
    rw [List.mem_singleton] at hx
    subst hx
    obtain ⟨m, hm⟩ : ∃ m, l.length = m + 1 := ⟨l.length - 1, by omega⟩
    have := sm_succ k m
    rw [hm, show m + 1 - 1 = m from rfl]
    exact ⟨by omega, by omega, by omega⟩

#print axioms regs_sound
#print axioms regs_complete
#print axioms leastCs_gr

end Go.Proofs.Ytpadmbpopjmdjaa.G

namespace Go.Proofs.Ytpadmbpopjmdjaa.G
set_option linter.unusedVariables false
open Go.RowKit Go.Proofs.YtpadmbpopjmdjaaW.PrintWords Go.Proofs.YtpadmbpopjmdjaaW.PrintLast

theorem leastOf_err {l : List Int} {k next : Int} (h : (leastOf l k next).2.2 ≠ 0) : (leastOf l k next).1 = [] ∧ (leastOf l k next).2.1 = 0 := by
  unfold leastOf at h ⊢
  by_cases h0 : rightE l next = 0
  · rw [if_neg (show ¬ rightE l next ≠ 0 from fun h => h h0)] at h ⊢
    by_cases h1 : k ≤ 0
    · rw [if_pos h1] at h; exact (h rfl).elim
    rw [if_neg h1] at h ⊢
    by_cases h2 : (l.length : Int) < k
    · rw [if_pos h2] at h; exact (h rfl).elim
    rw [if_neg h2] at h ⊢
    by_cases h3 : 65536 < next + (sm k.toNat l.length : Int) - 1
    · rw [if_pos h3]; exact ⟨rfl, rfl⟩
    rw [if_neg h3] at h ⊢
    by_cases h4 : 65536 < 2 * (sm k.toNat l.length : Int) - l.length + 1
    · rw [if_pos h4]; exact ⟨rfl, rfl⟩
    rw [if_neg h4] at h; exact (h rfl).elim
  · rw [if_pos h0]; exact ⟨rfl, rfl⟩

theorem leastOf_ok {l : List Int} {k next : Int} (h : (leastOf l k next).2.2 = 0) : rightE l next = 0 ∧
    ((k ≤ 0 ∧ leastOf l k next = ([], next, 0)) ∨ ((l.length : Int) < k ∧ leastOf l k next = ([[]], next, 0)) ∨
     ∃ K : Nat, k = K ∧ 1 ≤ K ∧ K ≤ l.length ∧ next + (sm K l.length : Int) ≤ 65537 ∧ leastOf l k next = (leastCs next K l, next + sm K l.length, 0)) := by
  unfold leastOf at h ⊢
  by_cases h0 : rightE l next = 0
  · rw [if_neg (show ¬ rightE l next ≠ 0 from fun h => h h0)] at h ⊢
    refine ⟨h0, ?_⟩
    by_cases h1 : k ≤ 0
    · rw [if_pos h1]; exact .inl ⟨h1, rfl⟩
    rw [if_neg h1] at h ⊢
    by_cases h2 : (l.length : Int) < k
    · rw [if_pos h2]; exact .inr (.inl ⟨h2, rfl⟩)
    rw [if_neg h2] at h ⊢
    by_cases h3 : 65536 < next + (sm k.toNat l.length : Int) - 1
    · rw [if_pos h3] at h; cases h
    rw [if_neg h3] at h ⊢
    by_cases h4 : 65536 < 2 * (sm k.toNat l.length : Int) - l.length + 1
    · rw [if_pos h4] at h; cases h
    rw [if_neg h4]
    refine .inr (.inr ⟨k.toNat, by omega, by omega, by omega, by omega, rfl⟩)
  · rw [if_pos h0] at h; exact (h0 h).elim

theorem right_gr {l : List Int} {next : Int} (h : rightE l next = 0) (hw : ∀ x ∈ l, (Lit.int .i64 x).wf = true) : ∀ x ∈ l, Gr next x := fun x hx => rightE_mem h hw x hx

/-- All literals of an answer are literals of the variables below 'after'. -/
theorem leastOf_gr {l : List Int} {k next : Int} (hw : ∀ x ∈ l, (Lit.int .i64 x).wf = true) (h : (leastOf l k next).2.2 = 0) : (next ≤ (leastOf l k next).2.1 ∧ (leastOf l k next).2.1 ≤ 65537) ∧ 1 ≤ next ∧ ∀ c ∈ (leastOf l k next).1, ∀ x ∈ c, Gr (leastOf l k next).2.1 x := by
  obtain ⟨h0, h1⟩ := leastOf_ok h
  obtain ⟨n1, n2, n3, _⟩ := rightE_ok h0
  rcases h1 with ⟨_, e⟩ | ⟨_, e⟩ | ⟨K, _, hK1, hK2, hs, e⟩
  · rw [e]; exact ⟨⟨Int.le_refl _, n2⟩, n1, fun c hc => by cases hc⟩
  · rw [e]
    refine ⟨⟨Int.le_refl _, n2⟩, n1, fun c hc x hx => ?_⟩
    rw [List.mem_singleton] at hc
    subst hc
    cases hx
  · rw [e]
    exact ⟨⟨by show next ≤ next + _; omega, hs⟩, n1, leastCs_gr n1 hK1 hK2 (right_gr h0 hw)⟩

theorem mayB_gr {m x : Int} (hm : m ≤ 65537) (h : Gr m x) : mayB (m - 1) x = true := by
  obtain ⟨h0, h1, h2⟩ := h
  have e : wrap64 (-(m - 1)) = -(m - 1) := by unfold wrap64; omega
  unfold mayB QSmall.cnf_lit_may.f
  rw [e, if_neg h0, if_pos (by omega)]
  simp
  omega

theorem registers_f {n : Nat} {k : Int} (hn : n ≤ 5000) (K : Nat) (hK : 6000 < K) : QRef.chalklineref16_Registers.f K (n : Int) k = some (if 1 ≤ k ∧ k ≤ n then (sm k.toNat n : Int) else 0) := by
  unfold QRef.chalklineref16_Registers.f
  obtain ⟨K, rfl⟩ : ∃ j, K = j + 1 := ⟨K - 1, by omega⟩
  by_cases h : 1 ≤ k ∧ k ≤ n
  · rw [if_pos h]
    obtain ⟨m, rfl⟩ : ∃ m : Nat, k = m := ⟨k.toNat, by omega⟩
    exact registers_l0 hn (by omega) (by omega) n 0 (K + 1) (by omega) (by omega)
  · rw [if_neg h, QRef.chalklineref16_Registers.l0]
    by_cases h1 : (1 : Int) ≤ n
    · rw [if_pos h1]
      by_cases h2 : k ≥ 1
      · rw [if_pos h2, if_neg (by omega)]
      · rw [if_neg h2]
    · rw [if_neg h1]

#print axioms leastOf_gr

end Go.Proofs.Ytpadmbpopjmdjaa.G

namespace Go.Proofs.Ytpadmbpopjmdjaa.G
set_option linter.unusedVariables false
open Go.RowKit Go.Proofs.YtpadmbpopjmdjaaW.PrintWords Go.Proofs.YtpadmbpopjmdjaaW.PrintLast Go.Proofs.YtpadmbpopjmdjaaW.PrintMore

theorem truth_f {a : List Bool} {m x : Int} (hx : Gr m x) (hm : m ≤ 70000) (ha : m ≤ a.length) : QRef.chalklineref16_Truth.f x a = some (tv a x) := by
  obtain ⟨h0, h1, h2⟩ := hx
  have hn : wrap64 (-x) = -x := by unfold wrap64; omega
  unfold QRef.chalklineref16_Truth.f tv
  rw [hn]
  by_cases hneg : x < 0
  · rw [if_pos hneg, if_pos (by omega), if_pos (by omega), if_pos hneg]; rfl
  · rw [if_neg hneg, if_pos (by omega), if_pos (by omega), if_neg hneg]; rfl

theorem rd_in {l : List Int} {i : Nat} (h : i < l.length) : rd l (i : Int) = l.getD i 0 ∧ l.getD i 0 ∈ l := ⟨by simp [rd], by simp [List.getD_eq_getElem?_getD, h]⟩

theorem many_l0 {l : List Int} {a : List Bool} {m : Int} (hl : ∀ x ∈ l, Gr m x) (hm : m ≤ 70000) (ha : m ≤ a.length) (hs : l.length ≤ 100000) : ∀ d i K, i + d = l.length → d < K → QRef.chalklinelaw16_many.l0 K a (cntT a l i : Int) l (l.length : Int) (i : Int) = some (cntT a l l.length : Int) := by
  intro d
  induction d with
  | zero =>
    intro i K h1 h2
    obtain ⟨K, rfl⟩ : ∃ j, K = j + 1 := ⟨K - 1, by omega⟩
    obtain rfl : i = l.length := by omega
    rw [QRef.chalklinelaw16_many.l0, if_neg (by omega)]
  | succ d ih =>
    intro i K h1 h2
    obtain ⟨K, rfl⟩ : ∃ j, K = j + 1 := ⟨K - 1, by omega⟩
    obtain ⟨e, hmem⟩ := rd_in (show i < l.length by omega)
    have hle := cntT_le a l i
    rw [QRef.chalklinelaw16_many.l0, if_pos (by omega), if_pos (by omega), if_pos (by omega), e, truth_f (hl _ hmem) hm ha]
    simp only [Option.bind_some]
    rw [show wrap64 ((i : Int) + 1) = ((i + 1 : Nat) : Int) from by unfold wrap64; omega]
    cases ht : tv a (l.getD i 0) with
    | true =>
      rw [if_pos rfl, show wrap64 ((cntT a l i : Int) + 1) = ((cntT a l (i + 1) : Nat) : Int) from by rw [cntT_true ht]; unfold wrap64; omega]
      exact ih (i + 1) K (by omega) (by omega)
    | false =>
      rw [if_neg (by decide)]
      have := ih (i + 1) K (by omega) (by omega)
      rwa [cntT_false ht] at this

theorem many_f {l : List Int} {a : List Bool} {m : Int} (hl : ∀ x ∈ l, Gr m x) (hm : m ≤ 70000) (ha : m ≤ a.length) (hs : l.length ≤ 100000) {K : Nat} (hK : 100001 < K) : QRef.chalklinelaw16_many.f K l a = some (cntT a l l.length : Int) :=
  many_l0 hl hm ha hs l.length 0 K (by omega) (by omega)

theorem holds_f {c : List Int} {b : List Bool} {m : Int} (hc : ∀ x ∈ c, Gr m x) (hm : m ≤ 65537) (hl : c.length ≤ 3) : cnf_Holds.f c b = some (holdsB c b) := by
  have hw : wfL c = true := by
    unfold wfL
    rw [List.all_eq_true]
    exact fun x hx => (hc x hx).wf (by omega)
  unfold cnf_Holds.f
  rw [if_pos ⟨by omega, hw⟩]

/-- The registers that tell the counts: of one row, of the first i rows. -/
def ranRow (c : Nat) : Nat → List Bool
  | 0 => []
  | m + 1 => ranRow c m ++ [decide (m + 1 ≤ c)]
def rans (a : List Bool) (l : List Int) (K : Nat) : Nat → List Bool
  | 0 => []
  | i + 1 => rans a l K i ++ ranRow (cntT a l (i + 1)) (min (i + 1) K)

theorem ranRow_len (c : Nat) : ∀ m, (ranRow c m).length = m
  | 0 => rfl
  | m + 1 => by show (ranRow c m ++ [_]).length = _; rw [List.length_append, ranRow_len c m]; rfl
theorem rans_len (a : List Bool) (l : List Int) (K : Nat) : ∀ i, (rans a l K i).length = sm K i
  | 0 => rfl
  | i + 1 => by show (rans a l K i ++ _).length = _; rw [List.length_append, rans_len a l K i, ranRow_len, sm_succ]
theorem ranRow_get (c : Nat) : ∀ (m q : Nat), q < m → (ranRow c m).getD q false = decide (q + 1 ≤ c)
  | 0, q, h => by omega
  | m + 1, q, h => by
    show (ranRow c m ++ [_]).getD q false = _
    by_cases hq : q < m
    · rw [List.getD_eq_getElem?_getD, List.getElem?_append_left (by rw [ranRow_len]; exact hq), ← List.getD_eq_getElem?_getD, ranRow_get c m q hq]
    · obtain rfl : q = m := by omega
      rw [List.getD_eq_getElem?_getD, List.getElem?_append_right (by rw [ranRow_len]; omega), ranRow_len]
      simp
theorem rans_get (a : List Bool) (l : List Int) (K : Nat) : ∀ (n i q : Nat), i < n → q < min (i + 1) K → (rans a l K n).getD (sm K i + q) false = decide (q + 1 ≤ cntT a l (i + 1))
  | 0, i, q, h, _ => by omega
  | n + 1, i, q, h, hq => by
    show (rans a l K n ++ _).getD _ false = _
    by_cases hi : i < n
    · have hs := sm_succ K i
      have hm := sm_mono (k := K) (show i + 1 ≤ n by omega)
      rw [List.getD_eq_getElem?_getD, List.getElem?_append_left (by rw [rans_len]; omega), ← List.getD_eq_getElem?_getD, rans_get a l K n i q hi hq]
    · obtain rfl : i = n := by omega
      rw [List.getD_eq_getElem?_getD, List.getElem?_append_right (by rw [rans_len]; omega), rans_len, ← List.getD_eq_getElem?_getD, show sm K i + q - sm K i = q from by omega, ranRow_get _ _ _ hq]

theorem tv_append {a e : List Bool} {x : Int} (h1 : -(a.length : Int) < x) (h2 : x < a.length) : tv (a ++ e) x = tv a x := by
  unfold tv
  by_cases h : x < 0
  · rw [if_pos h, if_pos h, List.getD_eq_getElem?_getD, List.getElem?_append_left (by omega), ← List.getD_eq_getElem?_getD]
  · rw [if_neg h, if_neg h, List.getD_eq_getElem?_getD, List.getElem?_append_left (by omega), ← List.getD_eq_getElem?_getD]

theorem cntT_congr {a b : List Bool} {l : List Int} (h : ∀ x ∈ l, tv b x = tv a x) : ∀ i, i ≤ l.length → cntT b l i = cntT a l i
  | 0, _ => rfl
  | i + 1, hi => by
    have hm : l.getD i 0 ∈ l := by simp [List.getD_eq_getElem?_getD, show i < l.length by omega]
    show cntT b l i + _ = cntT a l i + _
    rw [cntT_congr h i (by omega), h _ hm]

/-- The value of a register under the counts. -/
theorem tv_ran {a e : List Bool} {l : List Int} {K n i j : Nat} (hi : i < n) (h1 : 1 ≤ j) (h2 : j ≤ min (i + 1) K) : tv (a ++ (rans a l K n ++ e)) (rg (a.length : Int) K i j) = decide (j ≤ cntT a l (i + 1)) := by
  have hp : ¬ rg (a.length : Int) K i j < 0 := by unfold rg; omega
  have hs := sm_succ K i
  have hm := sm_mono (k := K) (show i + 1 ≤ n by omega)
  unfold tv
  rw [if_neg hp, show (rg (a.length : Int) K i j).toNat = a.length + (sm K i + (j - 1)) from by unfold rg; omega, List.getD_eq_getElem?_getD, List.getElem?_append_right (by omega), show a.length + (sm K i + (j - 1)) - a.length = sm K i + (j - 1) from by omega,
    List.getElem?_append_left (by rw [rans_len]; omega), ← List.getD_eq_getElem?_getD, rans_get a l K n i (j - 1) hi (by omega), show j - 1 + 1 = j from by omega]

theorem ran_l1 {l : List Int} {a : List Bool} {K : Nat} {i : Nat} (hKl : K ≤ 100000) (hi : i < 100000) {c : Nat} (hc : c ≤ 100000) {x7 : List Bool} {B : Nat} {R : Option (List Bool)} (hx7 : x7.length ≤ 1000000) (hend : ∀ k, B < k → QCan.chalklinelaw16_ran.l0 k (K : Int) a (x7 ++ ranRow c (min (i + 1) K)) (c : Int) l (l.length : Int) ((i + 1 : Nat) : Int) = R) :
    ∀ d m k, m + d = min (i + 1) K → B + d + 1 < k → QCan.chalklinelaw16_ran.l1 k (K : Int) a (x7 ++ ranRow c m) (c : Int) (i : Int) ((m + 1 : Nat) : Int) l (l.length : Int) (i : Int) = R := by
  intro d
  induction d with
  | zero =>
    intro m k h1 h2
    obtain ⟨k, rfl⟩ : ∃ j, k = j + 1 := ⟨k - 1, by omega⟩
    rw [QCan.chalklinelaw16_ran.l1, show wrap64 ((i : Int) + 1) = ((i + 1 : Nat) : Int) from by unfold wrap64; omega, mn_cast, if_neg (by omega), show m = min (i + 1) K from by omega]
    exact hend k (by omega)
  | succ d ih =>
    intro m k h1 h2
    obtain ⟨k, rfl⟩ : ∃ j, k = j + 1 := ⟨k - 1, by omega⟩
    have hl : (x7 ++ ranRow c m).length ≤ 1100000 := by rw [List.length_append, ranRow_len]; omega
    rw [QCan.chalklinelaw16_ran.l1, show wrap64 ((i : Int) + 1) = ((i + 1 : Nat) : Int) from by unfold wrap64; omega, mn_cast, if_pos (by omega), if_pos (by omega), show wrap64 (((m + 1 : Nat) : Int) + 1) = ((m + 1 + 1 : Nat) : Int) from by unfold wrap64; omega]
    have h := ih (m + 1) k (by omega) (by omega)
    rw [show ranRow c (m + 1) = ranRow c m ++ [decide (m + 1 ≤ c)] from rfl, ← List.append_assoc] at h
    rw [show decide ((c : Int) ≥ ((m + 1 : Nat) : Int)) = decide (m + 1 ≤ c) from by rw [decide_eq_decide]; omega]
    exact h

theorem ran_l0 {l : List Int} {a : List Bool} {m : Int} (hl : ∀ x ∈ l, Gr m x) (hm : m ≤ 70000) (ha : m ≤ a.length) (ha2 : a.length ≤ 1000) (hs : l.length ≤ 100) {K : Nat} (hK : K ≤ 100) : ∀ d i k, i + d = l.length → d * 200 + 1 < k → QCan.chalklinelaw16_ran.l0 k (K : Int) a (a ++ rans a l K i) (cntT a l i : Int) l (l.length : Int) (i : Int) = some (a ++ rans a l K l.length) := by
  intro d
  induction d with
  | zero =>
    intro i k h1 h2
    obtain ⟨k, rfl⟩ : ∃ j, k = j + 1 := ⟨k - 1, by omega⟩
    obtain rfl : i = l.length := by omega
    rw [QCan.chalklinelaw16_ran.l0, if_neg (by omega)]
  | succ d ih =>
    intro i k h1 h2
    obtain ⟨k, rfl⟩ : ∃ j, k = j + 1 := ⟨k - 1, by omega⟩
    obtain ⟨e, hmem⟩ := rd_in (show i < l.length by omega)
    have hle := cntT_le a l i
    have hle1 := cntT_le a l (i + 1)
    have hsm := sm_le K i
    have hsm2 : i * K ≤ 100 * 100 := Nat.mul_le_mul (by omega) hK
    have hlen : (a ++ rans a l K i).length ≤ 1000000 := by rw [List.length_append, rans_len]; omega
    have hnx : ∀ k, d * 200 + 1 < k → QCan.chalklinelaw16_ran.l0 k (K : Int) a (a ++ rans a l K i ++ ranRow (cntT a l (i + 1)) (min (i + 1) K)) (cntT a l (i + 1) : Int) l (l.length : Int) ((i + 1 : Nat) : Int) = some (a ++ rans a l K l.length) := fun k hk => by
      have := ih (i + 1) k (by omega) hk
      rwa [show rans a l K (i + 1) = rans a l K i ++ ranRow (cntT a l (i + 1)) (min (i + 1) K) from rfl, ← List.append_assoc] at this
    have hj1 : ∀ k, d * 200 + 160 < k → QCan.chalklinelaw16_ran.j1 k (K : Int) a (a ++ rans a l K i) (cntT a l (i + 1) : Int) (i : Int) l (l.length : Int) (i : Int) = some (a ++ rans a l K l.length) := fun k hk => by
      obtain ⟨k, rfl⟩ : ∃ j, k = j + 1 := ⟨k - 1, by omega⟩
      rw [QCan.chalklinelaw16_ran.j1]
      have h := ran_l1 (a := a) (l := l) (K := K) (i := i) (c := cntT a l (i + 1)) (by omega) (by omega) (by omega) hlen hnx (min (i + 1) K) 0 k (by omega) (by omega)
      rwa [show ranRow (cntT a l (i + 1)) 0 = [] from rfl, List.append_nil] at h
    rw [QCan.chalklinelaw16_ran.l0, if_pos (by omega), if_pos (by omega), if_pos (by omega), e, truth_f (hl _ hmem) hm ha]
    simp only [Option.bind_some]
    cases ht : tv a (l.getD i 0) with
    | true =>
      rw [if_pos rfl, show wrap64 ((cntT a l i : Int) + 1) = ((cntT a l (i + 1) : Nat) : Int) from by rw [cntT_true ht]; unfold wrap64; omega]
      exact hj1 k (by omega)
    | false =>
      rw [if_neg (by decide)]
      have := hj1 k (by omega)
      rwa [cntT_false ht] at this

theorem ran_f {l : List Int} {a : List Bool} {m : Int} (hl : ∀ x ∈ l, Gr m x) (hm : m ≤ 70000) (ha : m ≤ a.length) (ha2 : a.length ≤ 1000) (hs : l.length ≤ 100) {K : Nat} (hK : K ≤ 100) {k : Nat} (hk : 100000 < k) : QCan.chalklinelaw16_ran.f k l (K : Int) a = some (a ++ rans a l K l.length) := by
  unfold QCan.chalklinelaw16_ran.f
  rw [if_pos (by show 0 + a.length < _; omega), List.nil_append]
  have h := ran_l0 hl hm ha ha2 hs hK l.length 0 k (by omega) (by omega)
  rwa [show rans a l K 0 = [] from rfl, List.append_nil] at h

#print axioms ran_f

end Go.Proofs.Ytpadmbpopjmdjaa.G

namespace Go.Proofs.Ytpadmbpopjmdjaa.G
set_option linter.unusedVariables false
open Go.RowKit Go.Proofs.YtpadmbpopjmdjaaW.PrintWords Go.Proofs.YtpadmbpopjmdjaaW.PrintLast Go.Proofs.YtpadmbpopjmdjaaW.PrintMore

/-- The number whose bits are D. -/
def cofB : List Bool → Nat
  | [] => 0
  | b :: D => (if b then 1 else 0) + 2 * cofB D

theorem cofB_lt : ∀ D : List Bool, cofB D < 2 ^ D.length := by
  intro D
  induction D with
  | nil => simp [cofB]
  | cons b D ih =>
    rw [cofB, List.length_cons, Nat.pow_succ]
    split <;> omega
theorem cofB_bit : ∀ (D : List Bool) (i : Nat), i < D.length → (cofB D).testBit i = D.getD i false
  | [], i, h => by simp at h
  | b :: D, 0, _ => by
    rw [cofB, Nat.testBit_zero]
    cases b <;> simp <;> omega
  | b :: D, i + 1, h => by
    rw [cofB, Nat.testBit_succ]
    have e : ((if b then 1 else 0) + 2 * cofB D) / 2 = cofB D := by cases b <;> simp <;> omega
    rw [e, cofB_bit D i (by simpa using h)]
    simp [List.getD_eq_getElem?_getD]

theorem cbit_eq : ∀ m : Fin 512, ∀ i : Fin 9, ((Go.bits .and .i64 (shr .i64 ((m.val : Nat) : Int) ((i.val : Nat) : Int)) 1) == 1) = m.val.testBit i.val := by decide +kernel
theorem cshl_eq : ∀ F : Fin 10, shl .i64 1 ((F.val : Nat) : Int) = ((2 ^ F.val : Nat) : Int) := by decide +kernel

/-- The lowest n bits of m. -/
def bitsL (m : Nat) : Nat → List Bool
  | 0 => []
  | n + 1 => bitsL m n ++ [m.testBit n]
theorem bitsL_len (m : Nat) : ∀ n, (bitsL m n).length = n
  | 0 => rfl
  | n + 1 => by show (bitsL m n ++ [_]).length = _; rw [List.length_append, bitsL_len m n]; rfl
theorem bitsL_get (m : Nat) : ∀ (n i : Nat), i < n → (bitsL m n).getD i false = m.testBit i
  | 0, i, h => by omega
  | n + 1, i, h => by
    show (bitsL m n ++ [_]).getD i false = _
    by_cases hi : i < n
    · rw [List.getD_eq_getElem?_getD, List.getElem?_append_left (by rw [bitsL_len]; exact hi), ← List.getD_eq_getElem?_getD, bitsL_get m n i hi]
    · obtain rfl : i = n := by omega
      rw [List.getD_eq_getElem?_getD, List.getElem?_append_right (by rw [bitsL_len]; omega), bitsL_len]
      simp
theorem bitsL_of (e : List Bool) : bitsL (cofB e) e.length = e := by
  apply List.ext_getElem?
  intro i
  by_cases hi : i < e.length
  · have h := bitsL_get (cofB e) e.length i hi
    rw [cofB_bit e i hi, List.getD_eq_getElem?_getD, List.getD_eq_getElem?_getD] at h
    have h1 : i < (bitsL (cofB e) e.length).length := by rw [bitsL_len]; exact hi
    rw [List.getElem?_eq_getElem h1, List.getElem?_eq_getElem hi] at h ⊢
    simpa using h
  · rw [List.getElem?_eq_none (by rw [bitsL_len]; omega), List.getElem?_eq_none (by omega)]

/-- Is there, from m on, one among d numbers whose bits make all clauses hold? -/
def canFrom (c : List (List Int)) (a : List Bool) (n : Nat) : Nat → Nat → Bool
  | _, 0 => false
  | m, d + 1 => if c.all (fun x => holdsB x (a ++ bitsL m n)) = true then true else canFrom c a n (m + 1) d

theorem canFrom_iff {c : List (List Int)} {a : List Bool} {n : Nat} : ∀ d m, canFrom c a n m d = true ↔ ∃ q, m ≤ q ∧ q < m + d ∧ c.all (fun x => holdsB x (a ++ bitsL q n)) = true := by
  intro d
  induction d with
  | zero =>
    intro m
    constructor
    · intro h; cases h
    · rintro ⟨q, h1, h2, _⟩; omega
  | succ d ih =>
    intro m
    unfold canFrom
    by_cases h : c.all (fun x => holdsB x (a ++ bitsL m n)) = true
    · rw [if_pos h]
      exact ⟨fun _ => ⟨m, by omega, by omega, h⟩, fun _ => rfl⟩
    · rw [if_neg h, ih]
      constructor
      · rintro ⟨q, h1, h2, h3⟩; exact ⟨q, by omega, by omega, h3⟩
      · rintro ⟨q, h1, h2, h3⟩
        by_cases e : q = m
        · subst e; exact (h h3).elim
        · exact ⟨q, by omega, by omega, h3⟩

theorem canFrom_ext {c : List (List Int)} {a : List Bool} {n : Nat} : canFrom c a n 0 (2 ^ n) = true ↔ ∃ e : List Bool, e.length = n ∧ ∀ x ∈ c, holdsB x (a ++ e) = true := by
  rw [canFrom_iff]
  constructor
  · rintro ⟨q, _, _, h⟩
    exact ⟨bitsL q n, bitsL_len q n, fun x hx => List.all_eq_true.1 h x hx⟩
  · rintro ⟨e, rfl, h⟩
    refine ⟨cofB e, by omega, by have := cofB_lt e; omega, List.all_eq_true.2 fun x hx => ?_⟩
    rw [bitsL_of]
    exact h x hx

theorem can_l2 {c : List (List Int)} {a b : List Bool} {x8 x26 x27 : Int} (hc : ∀ x ∈ c, ∀ b, cnf_Holds.f x b = some (holdsB x b)) (hs : c.length ≤ 1000000) {B : Nat} {R : Option (Bool × Bool)} (hend : ∀ k, B < k → QCan.chalklinelaw16_can.l0 k c a x8 x26 (wrap64 (x27 + 1)) = R) :
    ∀ d i k v, i + d = c.length → B + d + 1 < k → v = (c.take i).all (fun x => holdsB x b) → QCan.chalklinelaw16_can.l2 k c a x8 b v x26 x27 c (c.length : Int) (i : Int) = if c.all (fun x => holdsB x b) = true then some (true, true) else R := by
  intro d
  induction d with
  | zero =>
    intro i k v h1 h2 hv
    obtain ⟨k, rfl⟩ : ∃ j, k = j + 1 := ⟨k - 1, by omega⟩
    rw [QCan.chalklinelaw16_can.l2, if_neg (by omega), hv, List.take_of_length_le (by omega), hend k (by omega)]
  | succ d ih =>
    intro i k v h1 h2 hv
    obtain ⟨k, rfl⟩ : ∃ j, k = j + 1 := ⟨k - 1, by omega⟩
    have hi : i < c.length := by omega
    have hmem : QCan.rd_L1 c (i : Int) ∈ c := by simp [QCan.rd_L1, List.getD_eq_getElem?_getD, hi]
    have he : QCan.rd_L1 c (i : Int) = c[i] := by simp [QCan.rd_L1, List.getD_eq_getElem?_getD, hi]
    have hv2 : (c.take (i + 1)).all (fun x => holdsB x b) = (v && holdsB (QCan.rd_L1 c (i : Int)) b) := by
      rw [List.take_succ_eq_append_getElem hi, List.all_append, ← hv, he]
      simp
    rw [QCan.chalklinelaw16_can.l2, if_pos (by omega), if_pos (by omega), if_pos (by omega), show wrap64 ((i : Int) + 1) = ((i + 1 : Nat) : Int) from by unfold wrap64; omega]
    cases v with
    | true =>
      rw [if_pos rfl, hc _ hmem]
      simp only [Option.bind_some]
      exact ih (i + 1) k _ (by omega) (by omega) (by rw [hv2]; rfl)
    | false =>
      rw [if_neg (by decide)]
      exact ih (i + 1) k _ (by omega) (by omega) (by rw [hv2]; rfl)

theorem can_l1 {c : List (List Int)} {a : List Bool} {m n : Nat} (hm : m < 512) (hn : n ≤ 9) (ha : a.length ≤ 100000) {x26 x27 : Int} {B : Nat} {R : Option (Bool × Bool)} (hend : ∀ k, B < k → QCan.chalklinelaw16_can.l2 k c a (n : Int) (a ++ bitsL m n) true x26 x27 c (c.length : Int) 0 = R) :
    ∀ d i k, i + d = n → B + d + 1 < k → QCan.chalklinelaw16_can.l1 k c a (n : Int) (m : Int) (a ++ bitsL m i) x26 x27 (n : Int) (i : Int) = R := by
  intro d
  induction d with
  | zero =>
    intro i k h1 h2
    obtain ⟨k, rfl⟩ : ∃ j, k = j + 1 := ⟨k - 1, by omega⟩
    obtain rfl : i = n := by omega
    rw [QCan.chalklinelaw16_can.l1, if_neg (by omega)]
    exact hend k (by omega)
  | succ d ih =>
    intro i k h1 h2
    obtain ⟨k, rfl⟩ : ∃ j, k = j + 1 := ⟨k - 1, by omega⟩
    have hb := cbit_eq ⟨m, hm⟩ ⟨i, by omega⟩
    rw [QCan.chalklinelaw16_can.l1, if_pos (by omega), if_pos (by omega), if_pos (by rw [List.length_append, bitsL_len]; omega), show wrap64 ((i : Int) + 1) = ((i + 1 : Nat) : Int) from by unfold wrap64; omega]
    have h := ih (i + 1) k (by omega) (by omega)
    rw [show bitsL m (i + 1) = bitsL m i ++ [m.testBit i] from rfl, ← List.append_assoc, ← hb] at h
    exact h

theorem can_l0 {c : List (List Int)} {a : List Bool} {n : Nat} (hn : n ≤ 9) (ha : a.length ≤ 100000) (hc : ∀ x ∈ c, ∀ b, cnf_Holds.f x b = some (holdsB x b)) (hs : c.length ≤ 1000000) {F : Nat} (hF : F = c.length + n + 10) :
    ∀ (d m k : Nat), m + d = 2 ^ n → F * d + 1 < k → QCan.chalklinelaw16_can.l0 k c a (n : Int) ((2 ^ n : Nat) : Int) (m : Int) = some (canFrom c a n m d, true) := by
  have h512 : 2 ^ n ≤ 512 := by
    have : 2 ^ n ≤ 2 ^ 9 := Nat.pow_le_pow_right (by omega) hn
    omega
  intro d
  induction d with
  | zero =>
    intro m k h1 h2
    obtain ⟨k, rfl⟩ : ∃ j, k = j + 1 := ⟨k - 1, by omega⟩
    rw [QCan.chalklinelaw16_can.l0, if_neg (by omega)]
    rfl
  | succ d ih =>
    intro m k h1 h2
    obtain ⟨k, rfl⟩ : ∃ j, k = j + 1 := ⟨k - 1, by omega⟩
    rw [Nat.mul_succ] at h2
    obtain ⟨B, hB⟩ : ∃ B, F * d = B := ⟨_, rfl⟩
    rw [hB] at h2
    have hl2 : ∀ k, B + 1 + c.length + 1 < k → QCan.chalklinelaw16_can.l2 k c a (n : Int) (a ++ bitsL m n) true ((2 ^ n : Nat) : Int) (m : Int) c (c.length : Int) 0 = some (canFrom c a n m (d + 1), true) := fun k hk => by
      have h := can_l2 (b := a ++ bitsL m n) (x8 := (n : Int)) (a := a) (x26 := ((2 ^ n : Nat) : Int)) (x27 := (m : Int)) hc hs (B := B + 1) (R := some (canFrom c a n (m + 1) d, true)) (fun k hk => by
        rw [show wrap64 ((m : Int) + 1) = ((m + 1 : Nat) : Int) from by unfold wrap64; omega]
        exact ih (m + 1) k (by omega) (by rw [hB]; omega)) c.length 0 k true (by omega) (by omega) (by simp)
      rw [show ((0 : Nat) : Int) = 0 from rfl] at h
      rw [h]
      show _ = some ((if c.all (fun x => holdsB x (a ++ bitsL m n)) = true then true else canFrom c a n (m + 1) d), true)
      split <;> rfl
    rw [QCan.chalklinelaw16_can.l0, if_pos (by omega), if_pos (by show 0 + a.length < _; omega), List.nil_append]
    have h := can_l1 (c := c) (m := m) (n := n) (a := a) (by omega) hn ha hl2 n 0 k (by omega) (by omega)
    rw [show bitsL m 0 = [] from rfl, List.append_nil] at h
    exact h

theorem can_f {c : List (List Int)} {a : List Bool} {af : Int} (ha : a.length ≤ 100000) (haf : 0 ≤ af ∧ af ≤ 100000) (hc : ∀ x ∈ c, ∀ b, cnf_Holds.f x b = some (holdsB x b)) (hs : c.length ≤ 1000000) {K : Nat} (hK : 1000000000 < K) :
    ∃ t, QCan.chalklinelaw16_can.f K c a af = some t ∧ (t.2 = true → ∃ n : Nat, af = (a.length : Int) + n ∧ (t.1 = true ↔ ∃ e : List Bool, e.length = n ∧ ∀ x ∈ c, holdsB x (a ++ e) = true)) := by
  have hw : wrap64 (af - (a.length : Int)) = af - a.length := by unfold wrap64; omega
  have hj : QCan.chalklinelaw16_can.j0 K c a (af - a.length) true = some (false, false) := by
    obtain ⟨K, rfl⟩ : ∃ j, K = j + 1 := ⟨K - 1, by omega⟩
    rw [QCan.chalklinelaw16_can.j0, if_pos rfl]
  unfold QCan.chalklinelaw16_can.f
  rw [hw]
  by_cases h1 : af - (a.length : Int) < 0
  · rw [if_pos h1, hj]
    exact ⟨_, rfl, fun h => by cases h⟩
  rw [if_neg h1]
  by_cases h2 : af - (a.length : Int) > 9
  · rw [decide_eq_true h2, hj]
    exact ⟨_, rfl, fun h => by cases h⟩
  rw [decide_eq_false h2]
  obtain ⟨n, hn⟩ : ∃ n : Nat, af - (a.length : Int) = n := ⟨(af - (a.length : Int)).toNat, by omega⟩
  rw [hn]
  obtain ⟨K, rfl⟩ : ∃ j, K = j + 1 := ⟨K - 1, by omega⟩
  rw [QCan.chalklinelaw16_can.j0, if_neg (by decide), if_pos (by omega)]
  have hsh := cshl_eq ⟨n, by omega⟩
  have h512 : 2 ^ n ≤ 512 := by
    have : 2 ^ n ≤ 2 ^ 9 := Nat.pow_le_pow_right (by omega) (show n ≤ 9 by omega)
    omega
  have hF : (c.length + n + 10) * 2 ^ n ≤ 1000100 * 512 := Nat.mul_le_mul (by omega) h512
  have h := can_l0 (c := c) (a := a) (show n ≤ 9 by omega) ha hc hs rfl (2 ^ n) 0 K (by omega) (by omega)
  rw [hsh]
  exact ⟨_, h, fun _ => ⟨n, by omega, canFrom_ext⟩⟩

#print axioms can_f

end Go.Proofs.Ytpadmbpopjmdjaa.G

namespace Go.Proofs.Ytpadmbpopjmdjaa.G
set_option linter.unusedVariables false
open Go.RowKit Go.Proofs.YtpadmbpopjmdjaaW.PrintWords Go.Proofs.YtpadmbpopjmdjaaW.PrintLast Go.Proofs.YtpadmbpopjmdjaaW.PrintMore

/-- The main fact: the clauses of Least can be satisfied exactly if at least k literals are true. -/
theorem least_sat {a : List Bool} {l : List Int} {k : Int} (hw : ∀ x ∈ l, (Lit.int .i64 x).wf = true) (h : (leastOf l k (a.length : Int)).2.2 = 0) {n : Nat} (hn : (leastOf l k (a.length : Int)).2.1 = (a.length : Int) + n) :
    (∃ e : List Bool, e.length = n ∧ ∀ c ∈ (leastOf l k (a.length : Int)).1, holdsB c (a ++ e) = true) ↔ k ≤ (cntT a l l.length : Int) := by
  obtain ⟨hr, hcase⟩ := leastOf_ok h
  obtain ⟨⟨g1, g2⟩, g3, hg⟩ := leastOf_gr hw h
  have hgl := right_gr hr hw
  have hcl := cntT_le a l l.length
  rcases hcase with ⟨hk, e⟩ | ⟨hk, e⟩ | ⟨K, rfl, hK1, hK2, hs, e⟩
  · rw [e] at hn ⊢
    have hn' : (a.length : Int) = a.length + n := hn
    refine ⟨fun _ => by omega, fun _ => ⟨[], by simp; omega, fun c hc => by cases hc⟩⟩
  · rw [e]
    constructor
    · rintro ⟨e, _, hh⟩
      have := hh [] (by simp)
      cases this
    · intro h; omega
  · rw [e] at hn hg g2 ⊢
    have hn' : (a.length : Int) + (sm K l.length : Int) = a.length + n := hn
    have hnn : n = sm K l.length := by omega
    have htv : ∀ (q : List Bool), ∀ x ∈ l, tv (a ++ q) x = tv a x := fun q x hx => by
      obtain ⟨_, q1, q2⟩ := hgl x hx
      exact tv_append q1 q2
    have hcnt : ∀ (q : List Bool) i, i ≤ l.length → cntT (a ++ q) l i = cntT a l i := fun q => cntT_congr (htv q)
    have hmem : [(a.length : Int) + sm K (l.length - 1) + K - 1] ∈ leastCs (a.length : Int) K l := List.mem_append_right _ (by simp)
    have erg : (a.length : Int) + (sm K (l.length - 1) : Int) + K - 1 = rg (a.length : Int) K (l.length - 1) K := rfl
    constructor
    · rintro ⟨q, hq, hh⟩
      have hb : (a.length : Int) + (sm K l.length : Int) ≤ (a ++ q).length := by rw [List.length_append]; omega
      have hH : ∀ c ∈ leastCs (a.length : Int) K l, Hold (a ++ q) c := fun c hc => (holdsB_iff (hg c hc) hs hb).1 (hh c hc)
      have hrows : ∀ c ∈ crows (a.length : Int) K l l.length, Hold (a ++ q) c := fun c hc => hH c (List.mem_append_left _ hc)
      obtain ⟨x, hx, hxt⟩ := hH _ hmem
      rw [List.mem_singleton] at hx
      subst hx
      rw [erg] at hxt
      have := regs_sound g3 hrows (l.length - 1) (by omega) K hK1 (by omega) hxt
      rw [show l.length - 1 + 1 = l.length from by omega, hcnt q _ (Nat.le_refl _)] at this
      omega
    · intro hk
      refine ⟨rans a l K l.length, by rw [rans_len]; omega, fun c hc => ?_⟩
      have hb : (a.length : Int) + (sm K l.length : Int) ≤ (a ++ rans a l K l.length).length := by rw [List.length_append, rans_len]; omega
      rw [holdsB_iff (hg c hc) hs hb]
      have hreg : ∀ i, i < l.length → ∀ j, 1 ≤ j → j ≤ min (i + 1) K → tv (a ++ rans a l K l.length) (rg (a.length : Int) K i j) = decide (j ≤ cntT (a ++ rans a l K l.length) l (i + 1)) := fun i hi j h1 h2 => by
        rw [hcnt _ (i + 1) (by omega)]
        have := tv_ran (a := a) (e := []) (l := l) hi h1 h2
        rwa [List.append_nil] at this
      rcases List.mem_append.1 hc with hc | hc
      · exact regs_complete g3 hreg c hc
      · rw [List.mem_singleton] at hc
        subst hc
        refine ⟨_, List.mem_singleton.2 rfl, ?_⟩
        rw [erg, hreg (l.length - 1) (by omega) K hK1 (by omega), show l.length - 1 + 1 = l.length from by omega, hcnt _ _ (Nat.le_refl _)]
        simp
        omega

theorem vabs_neg {x : Int} (h : (Lit.int .i64 x).wf = true) : vabs (wrap64 (-x)) = vabs x := by
  have hmin : IntKind.i64.min = -9223372036854775808 := rfl
  have hmax : IntKind.i64.max = 9223372036854775807 := rfl
  simp only [Lit.wf, Bool.and_eq_true, decide_eq_true_eq] at h
  have e : wrap64 (-(wrap64 (-x))) = x := by unfold wrap64; omega
  unfold vabs
  rw [e]
  split <;> split <;> first | omega | rfl | (unfold wrap64 at *; omega)

theorem rightFrom_neg {next : Int} : ∀ {l : List Int} {S : Int → Bool}, (∀ x ∈ l, (Lit.int .i64 x).wf = true) → rightFrom next S (l.map (fun x => wrap64 (-x))) = rightFrom next S l
  | [], _, _ => rfl
  | x :: l, S, hw => by
    have e := vabs_neg (hw x (by simp))
    rw [List.map_cons]
    unfold rightFrom
    rw [e, rightFrom_neg (fun y hy => hw y (by simp [hy]))]
theorem rightE_neg {l : List Int} {next : Int} (hw : ∀ x ∈ l, (Lit.int .i64 x).wf = true) : rightE (l.map (fun x => wrap64 (-x))) next = rightE l next := by
  unfold rightE
  rw [List.length_map, rightFrom_neg hw]

theorem rightFrom_mono {n m : Int} (hnm : n ≤ m) : ∀ {l : List Int} {S : Int → Bool}, rightFrom n S l = true → rightFrom m S l = true
  | [], _, _ => rfl
  | x :: l, S, h => by
    unfold rightFrom at h ⊢
    by_cases h1 : vabs x ≤ 0
    · rw [if_pos h1] at h; cases h
    rw [if_neg h1] at h ⊢
    by_cases h2 : n ≤ vabs x
    · rw [if_pos h2] at h; cases h
    rw [if_neg h2] at h
    rw [if_neg (by omega)]
    cases hS : S (vabs x) with
    | true => rw [if_pos hS] at h; cases h
    | false =>
      rw [hS, if_neg (by decide)] at h
      rw [if_neg (by decide)]
      exact rightFrom_mono hnm h
theorem rightE_mono {l : List Int} {n m : Int} (h : rightE l n = 0) (hnm : n ≤ m) (hm : m ≤ 65537) : rightE l m = 0 := by
  obtain ⟨h1, h2, h3, h4⟩ := rightE_ok h
  unfold rightE
  rw [if_neg (by omega), if_neg (by omega), if_neg (by omega), rightFrom_mono hnm h4]
  rfl

/-- Small enough: no bound is passed. -/
theorem leastOf_small_ok {l : List Int} {k next : Int} (hr : rightE l next = 0) (hl : l.length ≤ 30) (hn : next ≤ 10000) : (leastOf l k next).2.2 = 0 := by
  unfold leastOf
  rw [if_neg (fun h => h hr)]
  split
  · rfl
  split
  · rfl
  rename_i h1 h2
  have hb := Nat.le_trans (sm_le k.toNat l.length) (Nat.mul_le_mul (show l.length ≤ 30 by omega) (show k.toNat ≤ 30 by omega))
  rw [if_neg (by omega), if_neg (by omega)]

theorem leastOf_right {l : List Int} {k next : Int} (hr : rightE l next ≠ 0) : leastOf l k next = ([], 0, rightE l next) := by
  unfold leastOf
  rw [if_pos hr]

theorem cntT_neg {a : List Bool} {l : List Int} {m : Int} (hg : ∀ x ∈ l, Gr m x) (hm : m ≤ 70000) : ∀ i, i ≤ l.length → cntT a (l.map (fun x => wrap64 (-x))) i + cntT a l i = i
  | 0, _ => rfl
  | i + 1, hi => by
    have ih := cntT_neg (a := a) hg hm i (by omega)
    have hmem : l.getD i 0 ∈ l := by simp [List.getD_eq_getElem?_getD, show i < l.length by omega]
    obtain ⟨h0, h1, h2⟩ := hg _ hmem
    have e : (l.map (fun x => wrap64 (-x))).getD i 0 = -(l.getD i 0) := by
      have hn : wrap64 (-(l.getD i 0)) = -(l.getD i 0) := by unfold wrap64; omega
      rw [← hn]
      simp [List.getD_eq_getElem?_getD, show i < l.length by omega]
    have hv : tv a (-(l.getD i 0)) = !(tv a (l.getD i 0)) := by
      by_cases hp : 0 < l.getD i 0
      · exact tv_neg hp
      · have h := tv_neg (b := a) (x := -(l.getD i 0)) (by omega)
        rw [Int.neg_neg] at h
        rw [h, Bool.not_not]
    cases ht : tv a (l.getD i 0) with
    | true =>
      have h1 := cntT_true ht
      have h2 := cntT_false (b := a) (l := l.map (fun x => wrap64 (-x))) (i := i) (by rw [e, hv, ht]; rfl)
      omega
    | false =>
      have h1 := cntT_false ht
      have h2 := cntT_true (b := a) (l := l.map (fun x => wrap64 (-x))) (i := i) (by rw [e, hv, ht]; rfl)
      omega

theorem map_wf {l : List Int} {m : Int} (hg : ∀ x ∈ l, Gr m x) (hm : m ≤ 70000) : ∀ x ∈ l.map (fun x => wrap64 (-x)), (Lit.int .i64 x).wf = true := by
  intro x hx
  obtain ⟨y, hy, rfl⟩ := List.mem_map.1 hx
  obtain ⟨h0, h1, h2⟩ := hg y hy
  have e : wrap64 (-y) = -y := by unfold wrap64; omega
  rw [e]
  exact Gr.wf (m := m) ⟨by omega, by omega, by omega⟩ hm

/-- The threshold of Most. -/
def thr (n : Nat) (k : Int) : Int := (n : Int) - (if (n : Int) < (if k < -1 then -1 else k) then (n : Int) else (if k < -1 then -1 else k))
theorem thr_iff {n c c' : Nat} {k : Int} (h : c' + c = n) : thr n k ≤ (c' : Int) ↔ (c : Int) ≤ k := by
  unfold thr
  split <;> split <;> omega
theorem mostOf_eq {l : List Int} {k next : Int} (hr : rightE l next = 0) : mostOf l k next = leastOf (l.map (fun x => wrap64 (-x))) (thr l.length k) next := by
  unfold mostOf
  rw [if_neg (fun h => h hr)]
  rfl
theorem mostOf_right {l : List Int} {k next : Int} (hr : rightE l next ≠ 0) : mostOf l k next = ([], 0, rightE l next) := by
  unfold mostOf
  rw [if_pos hr]

/-- The clauses of Most can be satisfied exactly if at most k literals are true. -/
theorem most_sat {a : List Bool} {l : List Int} {k : Int} {m : Int} (hg : ∀ x ∈ l, Gr m x) (hm : m ≤ 70000) (h : (leastOf (l.map (fun x => wrap64 (-x))) (thr l.length k) (a.length : Int)).2.2 = 0) {n : Nat} (hn : (leastOf (l.map (fun x => wrap64 (-x))) (thr l.length k) (a.length : Int)).2.1 = (a.length : Int) + n) :
    (∃ e : List Bool, e.length = n ∧ ∀ c ∈ (leastOf (l.map (fun x => wrap64 (-x))) (thr l.length k) (a.length : Int)).1, holdsB c (a ++ e) = true) ↔ (cntT a l l.length : Int) ≤ k := by
  rw [least_sat (map_wf hg hm) h hn, List.length_map]
  exact thr_iff (cntT_neg hg hm l.length (Nat.le_refl _))

theorem leastOf_holds {l : List Int} {k next : Int} (hw : ∀ x ∈ l, (Lit.int .i64 x).wf = true) (h : (leastOf l k next).2.2 = 0) : ∀ x ∈ (leastOf l k next).1, ∀ b, cnf_Holds.f x b = some (holdsB x b) := fun x hx b => by
  obtain ⟨⟨_, g2⟩, _, hg⟩ := leastOf_gr hw h
  exact holds_f (hg x hx) g2 ((leastOf_small l k next).2 x hx)

#print axioms least_sat
#print axioms most_sat

end Go.Proofs.Ytpadmbpopjmdjaa.G
