/-
  The plain law of TotalCounts.
-/
import Derived.Test.YtdkfhpgbiohhoaaQCox2
import Derived.Test.YtdkfhpgbiohhoaaGOk
namespace Go.Proofs.Ytdkfhpgbiohhoaa.Pure
open Go.RowKit Go.Proofs.Ytdkfhpgbiohhoaa.QCo Go.Proofs.YtdkfhpgbiohhoaaW.PrintWords Go.Proofs.YtdkfhpgbiohhoaaW.PrintLast
open G (Gd Tv)

theorem lit_f {m x : Int} {b : List Bool} (hm : m ≤ 65537) (h : Gd m x) (hb : m ≤ b.length) : chalklinelaw15_lit.f x b = some (Tv b x) := by
  unfold Gd at h
  have e : wrap64 (-x) = -x := by unfold wrap64; omega
  unfold chalklinelaw15_lit.f Tv
  rw [e]
  by_cases h0 : 0 < x
  · rw [if_neg (by omega), if_pos h0, if_pos (by omega), if_pos (by omega), if_pos h0]
  · rw [if_pos (by omega), if_pos (by omega), if_pos (by omega), if_neg h0]

theorem rd_mem (l : List Int) (i : Nat) (h : i < l.length) : rd l (i : Int) ∈ l ∧ rd l (i : Int) = l.getD i 0 := by
  constructor <;> simp [rd, List.getD_eq_getElem?_getD, h]
theorem rdL_mem (l : List (List Int)) (i : Nat) (h : i < l.length) : rd_L1 l (i : Int) ∈ l ∧ l.drop i = rd_L1 l (i : Int) :: l.drop (i + 1) := by
  constructor
  · simp [rd_L1, List.getD_eq_getElem?_getD, h]
  · rw [List.drop_eq_getElem_cons h]
    simp [rd_L1, List.getD_eq_getElem?_getD, h]

section
variable {m : Int} {b : List Bool} (hm : m ≤ 65537) (hb : m ≤ b.length)
include hm hb

theorem many_l0 {l : List Int} (hl : l.length ≤ 1000000) (hg : ∀ x ∈ l, Gd m x) : ∀ d i (n : Nat) k, i + d = l.length → d < k → n ≤ i → chalklinelaw15_many.l0 k l b (n : Int) i = some ((n + (l.drop i).countP (Tv b) : Nat) : Int) := by
  intro d
  induction d with
  | zero =>
    intro i n k h1 h2 h3
    obtain ⟨k, rfl⟩ : ∃ j, k = j + 1 := ⟨k - 1, by omega⟩
    rw [chalklinelaw15_many.l0, if_neg (show ¬ (i : Int) < (l.length : Int) by omega), List.drop_eq_nil_of_le (by omega)]
    simp
  | succ d ih =>
    intro i n k h1 h2 h3
    obtain ⟨k, rfl⟩ : ∃ j, k = j + 1 := ⟨k - 1, by omega⟩
    have hi : i < l.length := by omega
    obtain ⟨e1, e2⟩ := rd_mem l i hi
    rw [chalklinelaw15_many.l0, if_pos (show (i : Int) < (l.length : Int) by omega), if_pos (show (0 : Int) ≤ (i : Int) by omega), lit_f hm (hg _ e1) hb]
    simp only [Option.bind_some]
    rw [show wrap64 ((i : Int) + 1) = ((i + 1 : Nat) : Int) from by unfold wrap64; omega, show wrap64 ((n : Int) + 1) = ((n + 1 : Nat) : Int) from by unfold wrap64; omega,
      G.drop_rd hi, List.countP_cons, ← e2]
    by_cases ht : Tv b (rd l (i : Int)) = true
    · rw [if_pos ht, if_pos ht, ih (i + 1) (n + 1) k (by omega) (by omega) (by omega)]
      congr 2
      omega
    · rw [if_neg ht, if_neg ht, ih (i + 1) n k (by omega) (by omega) (by omega)]
      congr 2

theorem holds_l0 {cs : List (List Int)} (hl : cs.length ≤ 1000000) (hr : ∀ c ∈ cs, c.length ≤ 3) (hg : ∀ c ∈ cs, ∀ x ∈ c, Gd m x) : ∀ d i k, i + d = cs.length → d < k → chalklinelaw15_holds.l0 k cs b i = some ((cs.drop i).all (fun c => c.any (Tv b))) := by
  intro d
  induction d with
  | zero =>
    intro i k h1 h2
    obtain ⟨k, rfl⟩ : ∃ j, k = j + 1 := ⟨k - 1, by omega⟩
    rw [chalklinelaw15_holds.l0, if_neg (show ¬ (i : Int) < (cs.length : Int) by omega), List.drop_eq_nil_of_le (by omega)]
    rfl
  | succ d ih =>
    intro i k h1 h2
    obtain ⟨k, rfl⟩ : ∃ j, k = j + 1 := ⟨k - 1, by omega⟩
    obtain ⟨e1, e2⟩ := rdL_mem cs i (by omega)
    have hc : G.cnf_Holds.f (rd_L1 cs (i : Int)) b = some ((rd_L1 cs (i : Int)).any (Tv b)) := by
      unfold G.cnf_Holds.f
      have h3 := hr _ e1
      have hwf : G.wfL (rd_L1 cs (i : Int)) = true := by
        unfold G.wfL
        rw [List.all_eq_true]
        exact fun x hx => (hg _ e1 x hx).wf (by omega)
      rw [if_pos ⟨by omega, hwf⟩, G.holdsB_Tv hm (hg _ e1) hb]
    rw [chalklinelaw15_holds.l0, if_pos (show (i : Int) < (cs.length : Int) by omega), if_pos (show (0 : Int) ≤ (i : Int) by omega), hc]
    simp only [Option.bind_some]
    rw [show wrap64 ((i : Int) + 1) = ((i + 1 : Nat) : Int) from by unfold wrap64; omega, e2, List.all_cons]
    by_cases ht : (rd_L1 cs (i : Int)).any (Tv b) = true
    · rw [if_pos ht, ih (i + 1) k (by omega) (by omega), ht, Bool.true_and]
    · rw [if_neg ht]
      simp only [Bool.not_eq_true] at ht
      rw [ht, Bool.false_and]

theorem counts_l0 {o : List Int} (hl : o.length ≤ 1000000) (hg : ∀ x ∈ o, Gd m x) (n : Nat) (hn : ∀ j, j < o.length → (Tv b (o.getD j 0) = true ↔ j < n)) : ∀ d i k, i + d = o.length → d < k → chalklinelaw15_TotalCounts.l0 k o b (n : Int) i = some true := by
  intro d
  induction d with
  | zero =>
    intro i k h1 h2
    obtain ⟨k, rfl⟩ : ∃ j, k = j + 1 := ⟨k - 1, by omega⟩
    rw [chalklinelaw15_TotalCounts.l0, if_neg (show ¬ (i : Int) < (o.length : Int) by omega)]
  | succ d ih =>
    intro i k h1 h2
    obtain ⟨k, rfl⟩ : ∃ j, k = j + 1 := ⟨k - 1, by omega⟩
    have hi : i < o.length := by omega
    obtain ⟨e1, e2⟩ := rd_mem o i hi
    rw [chalklinelaw15_TotalCounts.l0, if_pos (show (i : Int) < (o.length : Int) by omega), if_pos (show (0 : Int) ≤ (i : Int) by omega), lit_f hm (hg _ e1) hb]
    simp only [Option.bind_some]
    have hv : Tv b (rd o (i : Int)) = decide ((n : Int) > (i : Int)) := by
      have := hn i hi
      rw [← e2] at this
      by_cases hc : i < n
      · rw [this.2 hc, decide_eq_true (by omega)]
      · rw [decide_eq_false (by omega)]
        cases ht : Tv b (rd o (i : Int)) with
        | true => exact (hc (this.1 ht)).elim
        | false => rfl
    rw [hv, bne_self_eq_false, if_neg (by decide), show wrap64 ((i : Int) + 1) = ((i + 1 : Nat) : Int) from by unfold wrap64; omega]
    exact ih (i + 1) k (by omega) (by omega)
end

theorem padded_l0 (a : List Bool) (n : Nat) (hn : n ≤ 100000) : ∀ d i (xs : List Bool) k, i + d = n + 1 → d < k → xs.length = n + 1 → 1 ≤ i → ∃ p, chalklinelaw15_padded.l0 k a (n : Int) xs i = some p ∧ p.length = n + 1 := by
  intro d
  induction d with
  | zero =>
    intro i xs k h1 h2 h3 h4
    obtain ⟨k, rfl⟩ : ∃ j, k = j + 1 := ⟨k - 1, by omega⟩
    rw [chalklinelaw15_padded.l0, if_neg (show ¬ (i : Int) ≤ (n : Int) by omega)]
    exact ⟨_, rfl, h3⟩
  | succ d ih =>
    intro i xs k h1 h2 h3 h4
    obtain ⟨k, rfl⟩ : ∃ j, k = j + 1 := ⟨k - 1, by omega⟩
    rw [chalklinelaw15_padded.l0, if_pos (show (i : Int) ≤ (n : Int) by omega)]
    by_cases ha : (i : Int) < (a.length : Int)
    · rw [if_pos ha, if_pos (show (0 : Int) ≤ (i : Int) by omega), if_pos (show (i : Int) < (xs.length : Int) by omega), show wrap64 ((i : Int) + 1) = ((i + 1 : Nat) : Int) from by unfold wrap64; omega]
      exact ih (i + 1) _ k (by omega) (by omega) (by rw [List.length_set]; exact h3) (by omega)
    · rw [if_neg ha]
      exact ⟨_, rfl, h3⟩
theorem padded_f (a : List Bool) (n : Nat) (hn : n ≤ 100000) (k : Nat) (hk : n + 1 < k) : ∃ p, chalklinelaw15_padded.f k a (n : Int) = some p ∧ p.length = n + 1 := by
  unfold chalklinelaw15_padded.f
  have e : wrap64 ((n : Int) + 1) = ((n + 1 : Nat) : Int) := by unfold wrap64; omega
  rw [e, if_pos (by omega), Int.toNat_natCast, if_pos (by omega)]
  exact padded_l0 a n hn n 1 _ k (by omega) (by omega) (by simp) (by omega)

def CountsPure : Prop := ∀ (l0 : List Int) (a1 : Int) (a2 : Int) (l3 : List Bool), (∀ x ∈ l0, (Lit.int .i64 x).wf = true) → ∃ k, chalklinelaw15_TotalCounts.f k l0 a1 a2 l3 = some true

theorem TotalCounts : CountsPure := by
  intro l0 a1 a2 l3 hw
  obtain ⟨K, hK⟩ : ∃ K : Nat, K = 1000000 := ⟨_, rfl⟩
  refine ⟨K + 2, ?_⟩
  have hj : ∀ x b c e k, chalklinelaw15_TotalCounts.j0 (k + 1) x b c e true = some true := fun x b c e k => by rw [chalklinelaw15_TotalCounts.j0, if_pos rfl]
  unfold chalklinelaw15_TotalCounts.f G.chalklinelaw15_live.f
  simp only [Option.bind_some, if_true]
  by_cases h20 : (l0.length : Int) > 20
  · rw [if_pos h20]; exact hj _ _ _ _ _
  rw [if_neg h20]
  by_cases h30 : (l3.length : Int) > 3000
  · rw [if_pos h30]; exact hj _ _ _ _ _
  rw [if_neg h30]
  by_cases hn2 : a2 > 2000
  · rw [decide_eq_true hn2]; exact hj _ _ _ _ _
  rw [decide_eq_false hn2, chalklinelaw15_TotalCounts.j0, if_neg (by decide)]
  have hl : l0.length ≤ 40 := by omega
  have hwf : G.wfL l0 = true := by simpa [G.wfL] using hw
  have t1 : G.total_Total.f l0 a1 a2 = some (G.totalOf l0 a1 a2) := by unfold G.total_Total.f; rw [if_pos ⟨hl, hwf⟩]
  rw [t1]
  simp only [Option.bind_some]
  by_cases h0 : (G.totalOf l0 a1 a2).2.2.2 = 0
  · rw [if_pos h0]
    obtain ⟨k1, k2, k3, k4, k5, k6, k7⟩ := G.totalOf_ok hl hw h0
    obtain ⟨b1, b2, b3⟩ := G.totalOf_bounds l0 a1 a2 hl
    obtain ⟨A, hA⟩ : ∃ A : Nat, (G.totalOf l0 a1 a2).2.2.1 = A := ⟨(G.totalOf l0 a1 a2).2.2.1.toNat, by omega⟩
    rw [if_neg (by omega), if_neg (by omega), k3, bne_self_eq_false, chalklinelaw15_TotalCounts.j1, if_neg (by decide), hA]
    obtain ⟨p, p1, p2⟩ := padded_f l3 A (by omega) K (by omega)
    rw [p1]
    simp only [Option.bind_some]
    rw [hA] at k2 k5 k6 k7
    have hp : (A : Int) ≤ (p.length : Int) := by omega
    unfold chalklinelaw15_holds.f
    have hh := holds_l0 (m := (A : Int)) (b := p) (by omega) hp (cs := (G.totalOf l0 a1 a2).2.1) (by omega) b3 k6 (G.totalOf l0 a1 a2).2.1.length 0 K (by omega) (by omega)
    rw [show ((0 : Nat) : Int) = 0 from rfl, List.drop_zero] at hh
    rw [hh]
    simp only [Option.bind_some]
    by_cases ht : (G.totalOf l0 a1 a2).2.1.all (fun c => c.any (Tv p)) = true
    · rw [if_pos ht]
      unfold chalklinelaw15_many.f
      have hm := many_l0 (m := (A : Int)) (b := p) (by omega) hp (l := l0) (by omega) (fun x hx => (k4 x hx).mono (by omega)) l0.length 0 0 K (by omega) (by omega) (by omega)
      rw [show ((0 : Nat) : Int) = 0 from rfl, List.drop_zero, Nat.zero_add] at hm
      rw [hm]
      simp only [Option.bind_some]
      exact counts_l0 (m := (A : Int)) (b := p) (by omega) hp (o := (G.totalOf l0 a1 a2).1) (by omega) k5 _ (k7 (Tv p) (fun x hx => G.Tv_neg (by omega) hx) (List.all_eq_true.1 ht)) (G.totalOf l0 a1 a2).1.length 0 K (by omega) (by omega)
    · rw [if_neg ht]
  · rw [if_neg h0]
    obtain ⟨e1, e2, e3⟩ := G.totalOf_err h0
    rw [e1, e2, e3]
    simp

end Go.Proofs.Ytdkfhpgbiohhoaa.Pure
