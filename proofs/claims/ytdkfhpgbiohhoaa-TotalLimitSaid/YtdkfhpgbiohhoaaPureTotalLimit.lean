/-
  The plain law of TotalLimit.
-/
import Derived.Test.YtdkfhpgbiohhoaaQLix2
import Derived.Test.YtdkfhpgbiohhoaaGOk
namespace Go.Proofs.Ytdkfhpgbiohhoaa.Pure
open Go.RowKit Go.Proofs.Ytdkfhpgbiohhoaa.QLi Go.Proofs.YtdkfhpgbiohhoaaW.PrintWords Go.Proofs.YtdkfhpgbiohhoaaW.PrintLast
open G (Gd Tv)

theorem lit_f {m x : Int} {b : List Bool} (hm : m ≤ 65537) (h : Gd m x) (hb : m ≤ b.length) : chalklinelaw15_lit.f x b = some (Tv b x) := by
  unfold Gd at h
  have e : wrap64 (-x) = -x := by unfold wrap64; omega
  unfold chalklinelaw15_lit.f Tv
  rw [e]
  by_cases h0 : 0 < x
  · rw [if_neg (by omega), if_pos h0, if_pos (by omega), if_pos (by omega), if_pos h0]
  · rw [if_pos (by omega), if_pos (by omega), if_pos (by omega), if_neg h0]

theorem rd_mem (l : List Int) (i : Nat) (h : i < l.length) : rd l (i : Int) ∈ l ∧ rd l (i : Int) = l.getD i 0 := by
  constructor <;> simp [rd, List.getD_eq_getElem?_getD, h]
theorem rdL_mem (l : List (List Int)) (i : Nat) (h : i < l.length) : rd_L1 l (i : Int) ∈ l ∧ l.drop i = rd_L1 l (i : Int) :: l.drop (i + 1) := by
  constructor
  · simp [rd_L1, List.getD_eq_getElem?_getD, h]
  · rw [List.drop_eq_getElem_cons h]
    simp [rd_L1, List.getD_eq_getElem?_getD, h]

section
variable {m : Int} {b : List Bool} (hm : m ≤ 65537) (hb : m ≤ b.length)
include hm hb

theorem holds_l0 {cs : List (List Int)} (hl : cs.length ≤ 1000000) (hr : ∀ c ∈ cs, c.length ≤ 3) (hg : ∀ c ∈ cs, ∀ x ∈ c, Gd m x) : ∀ d i k, i + d = cs.length → d < k → chalklinelaw15_holds.l0 k cs b i = some ((cs.drop i).all (fun c => c.any (Tv b))) := by
  intro d
  induction d with
  | zero =>
    intro i k h1 h2
    obtain ⟨k, rfl⟩ : ∃ j, k = j + 1 := ⟨k - 1, by omega⟩
    rw [chalklinelaw15_holds.l0, if_neg (show ¬ (i : Int) < (cs.length : Int) by omega), List.drop_eq_nil_of_le (by omega)]
    rfl
  | succ d ih =>
    intro i k h1 h2
    obtain ⟨k, rfl⟩ : ∃ j, k = j + 1 := ⟨k - 1, by omega⟩
    obtain ⟨e1, e2⟩ := rdL_mem cs i (by omega)
    have hc : G.cnf_Holds.f (rd_L1 cs (i : Int)) b = some ((rd_L1 cs (i : Int)).any (Tv b)) := by
      unfold G.cnf_Holds.f
      have h3 := hr _ e1
      have hwf : G.wfL (rd_L1 cs (i : Int)) = true := by
        unfold G.wfL
        rw [List.all_eq_true]
        exact fun x hx => (hg _ e1 x hx).wf (by omega)
      rw [if_pos ⟨by omega, hwf⟩, G.holdsB_Tv hm (hg _ e1) hb]
    rw [chalklinelaw15_holds.l0, if_pos (show (i : Int) < (cs.length : Int) by omega), if_pos (show (0 : Int) ≤ (i : Int) by omega), hc]
    simp only [Option.bind_some]
    rw [show wrap64 ((i : Int) + 1) = ((i + 1 : Nat) : Int) from by unfold wrap64; omega, e2, List.all_cons]
    by_cases ht : (rd_L1 cs (i : Int)).any (Tv b) = true
    · rw [if_pos ht, ih (i + 1) k (by omega) (by omega), ht, Bool.true_and]
    · rw [if_neg ht]
      simp only [Bool.not_eq_true] at ht
      rw [ht, Bool.false_and]

end

theorem padded_l0 (a : List Bool) (n : Nat) (hn : n ≤ 100000) : ∀ d i (xs : List Bool) k, i + d = n + 1 → d < k → xs.length = n + 1 → 1 ≤ i → ∃ p, chalklinelaw15_padded.l0 k a (n : Int) xs i = some p ∧ p.length = n + 1 := by
  intro d
  induction d with
  | zero =>
    intro i xs k h1 h2 h3 h4
    obtain ⟨k, rfl⟩ : ∃ j, k = j + 1 := ⟨k - 1, by omega⟩
    rw [chalklinelaw15_padded.l0, if_neg (show ¬ (i : Int) ≤ (n : Int) by omega)]
    exact ⟨_, rfl, h3⟩
  | succ d ih =>
    intro i xs k h1 h2 h3 h4
    obtain ⟨k, rfl⟩ : ∃ j, k = j + 1 := ⟨k - 1, by omega⟩
    rw [chalklinelaw15_padded.l0, if_pos (show (i : Int) ≤ (n : Int) by omega)]
    by_cases ha : (i : Int) < (a.length : Int)
    · rw [if_pos ha, if_pos (show (0 : Int) ≤ (i : Int) by omega), if_pos (show (i : Int) < (xs.length : Int) by omega), show wrap64 ((i : Int) + 1) = ((i + 1 : Nat) : Int) from by unfold wrap64; omega]
      exact ih (i + 1) _ k (by omega) (by omega) (by rw [List.length_set]; exact h3) (by omega)
    · rw [if_neg ha]
      exact ⟨_, rfl, h3⟩
theorem padded_f (a : List Bool) (n : Nat) (hn : n ≤ 100000) (k : Nat) (hk : n + 1 < k) : ∃ p, chalklinelaw15_padded.f k a (n : Int) = some p ∧ p.length = n + 1 := by
  unfold chalklinelaw15_padded.f
  have e : wrap64 ((n : Int) + 1) = ((n + 1 : Nat) : Int) := by unfold wrap64; omega
  rw [e, if_pos (by omega), Int.toNat_natCast, if_pos (by omega)]
  exact padded_l0 a n hn n 1 _ k (by omega) (by omega) (by simp) (by omega)

theorem limit_l0 {m : Int} {b : List Bool} (hm : m ≤ 65537) (hb : m ≤ b.length) {x y : List Int} (hxy : y.length ≤ x.length) (hl : x.length ≤ 1000000) (hx : ∀ z ∈ x, Gd m z) (hy : ∀ z ∈ y, Gd m z) (n : Nat) (ex : ∀ j, j < x.length → (Tv b (x.getD j 0) = true ↔ j < n)) (ey : ∀ j, j < y.length → (Tv b (y.getD j 0) = true ↔ j < n)) :
    ∀ d i k, i + d = y.length → d < k → chalklinelaw15_TotalLimit.l0 k x y b i = some true := by
  intro d
  induction d with
  | zero =>
    intro i k h1 h2
    obtain ⟨k, rfl⟩ : ∃ j, k = j + 1 := ⟨k - 1, by omega⟩
    rw [chalklinelaw15_TotalLimit.l0, if_neg (show ¬ (i : Int) < (y.length : Int) by omega)]
  | succ d ih =>
    intro i k h1 h2
    obtain ⟨k, rfl⟩ : ∃ j, k = j + 1 := ⟨k - 1, by omega⟩
    obtain ⟨e1, e2⟩ := rd_mem x i (by omega)
    obtain ⟨e3, e4⟩ := rd_mem y i (by omega)
    rw [chalklinelaw15_TotalLimit.l0, if_pos (show (i : Int) < (y.length : Int) by omega), if_pos (show (0 : Int) ≤ (i : Int) by omega), if_pos (show (i : Int) < (x.length : Int) by omega), lit_f hm (hx _ e1) hb]
    simp only [Option.bind_some]
    rw [lit_f hm (hy _ e3) hb]
    simp only [Option.bind_some]
    have hv : Tv b (rd x (i : Int)) = Tv b (rd y (i : Int)) := by
      rw [Bool.eq_iff_iff, e2, e4, ex i (by omega), ey i (by omega)]
    rw [hv, bne_self_eq_false, if_neg (by decide), show wrap64 ((i : Int) + 1) = ((i + 1 : Nat) : Int) from by unfold wrap64; omega]
    exact ih (i + 1) k (by omega) (by omega)

def LimitPure : Prop := ∀ (l0 : List Int) (a1 : Int) (a2 : Int) (a3 : Int) (l4 : List Bool), (∀ x ∈ l0, (Lit.int .i64 x).wf = true) → ∃ k, chalklinelaw15_TotalLimit.f k l0 a1 a2 a3 l4 = some true

theorem TotalLimit : LimitPure := by
  intro l0 a1 a2 a3 l4 hw
  obtain ⟨K, hK⟩ : ∃ K : Nat, K = 1000000 := ⟨_, rfl⟩
  refine ⟨K + 3, ?_⟩
  have hj : ∀ x b c d e k, chalklinelaw15_TotalLimit.j0 (k + 1) x b c d e true = some true := fun x b c d e k => by rw [chalklinelaw15_TotalLimit.j0, if_pos rfl]
  unfold chalklinelaw15_TotalLimit.f G.chalklinelaw15_live.f
  simp only [Option.bind_some, if_true]
  by_cases h20 : (l0.length : Int) > 12
  · rw [if_pos h20]; exact hj _ _ _ _ _ _
  rw [if_neg h20]
  by_cases h21 : a2 > a1
  · rw [if_pos h21]; exact hj _ _ _ _ _ _
  rw [if_neg h21]
  by_cases h30 : (l4.length : Int) > 3000
  · rw [if_pos h30]; exact hj _ _ _ _ _ _
  rw [if_neg h30]
  by_cases hn2 : a3 > 1000
  · rw [decide_eq_true hn2]; exact hj _ _ _ _ _ _
  rw [decide_eq_false hn2, chalklinelaw15_TotalLimit.j0, if_neg (by decide)]
  have hl : l0.length ≤ 40 := by omega
  have hwf : G.wfL l0 = true := by simpa [G.wfL] using hw
  have t1 : ∀ p q, G.total_Total.f l0 p q = some (G.totalOf l0 p q) := fun p q => by unfold G.total_Total.f; rw [if_pos ⟨hl, hwf⟩]
  rw [t1]
  simp only [Option.bind_some]
  by_cases h0 : (G.totalOf l0 a1 a3).2.2.2 = 0
  · rw [if_pos h0]
    obtain ⟨k1, k2, k3, k4, k5, k6, k7⟩ := G.totalOf_ok hl hw h0
    obtain ⟨b1, b2, b3⟩ := G.totalOf_bounds l0 a1 a3 hl
    obtain ⟨x, hx⟩ : ∃ x, G.totalOf l0 a1 a3 = x := ⟨_, rfl⟩
    rw [hx] at k2 k3 k5 k6 k7 b1 b2 b3 ⊢
    rw [decide_eq_false (by omega), chalklinelaw15_TotalLimit.j1, if_neg (by decide), t1]
    simp only [Option.bind_some]
    by_cases h1 : (G.totalOf l0 a2 x.2.2.1).2.2.2 = 0
    · rw [if_pos h1]
      obtain ⟨m1, m2, m3, m4, m5, m6, m7⟩ := G.totalOf_ok hl hw h1
      obtain ⟨c1, c2, c3⟩ := G.totalOf_bounds l0 a2 x.2.2.1 hl
      obtain ⟨y, hy⟩ : ∃ y, G.totalOf l0 a2 x.2.2.1 = y := ⟨_, rfl⟩
      rw [hy] at m2 m3 m5 m6 m7 c1 c2 c3 ⊢
      have hyx : y.1.length ≤ x.1.length := by
        have h1 : (y.1.length : Int) ≤ (x.1.length : Int) := by rw [m3, k3]; unfold mn; split <;> split <;> omega
        omega
      obtain ⟨A, hA⟩ : ∃ A : Nat, y.2.2.1 = A := ⟨y.2.2.1.toNat, by omega⟩
      rw [hA] at m2 m5 m6 m7 ⊢
      obtain ⟨p, p1, p2⟩ := padded_f l4 A (by omega) (K + 1) (by omega)
      rw [p1]
      simp only [Option.bind_some]
      have hp : (A : Int) ≤ (p.length : Int) := by omega
      have hj2 : chalklinelaw15_TotalLimit.j2 (K + 1) x.1 y.1 p true = some true := by
        rw [chalklinelaw15_TotalLimit.j2, if_pos rfl, decide_eq_true (by omega)]
      rw [if_neg (by omega)]
      unfold chalklinelaw15_holds.f
      have hh := holds_l0 (m := (A : Int)) (b := p) (by omega) hp (cs := x.2.1) (by omega) b3 (fun c hc z hz => (k6 c hc z hz).mono (by omega)) x.2.1.length 0 (K + 1) (by omega) (by omega)
      have hg := holds_l0 (m := (A : Int)) (b := p) (by omega) hp (cs := y.2.1) (by omega) c3 m6 y.2.1.length 0 (K + 1) (by omega) (by omega)
      rw [show ((0 : Nat) : Int) = 0 from rfl, List.drop_zero] at hh hg
      rw [hh]
      simp only [Option.bind_some]
      by_cases ht : x.2.1.all (fun c => c.any (Tv p)) = true
      · rw [if_pos ht, hg]
        simp only [Option.bind_some]
        by_cases hu : y.2.1.all (fun c => c.any (Tv p)) = true
        · rw [hu, Bool.not_true, chalklinelaw15_TotalLimit.j2, if_neg (by decide)]
          exact limit_l0 (m := (A : Int)) (b := p) (by omega) hp hyx (by omega) (fun z hz => (k5 z hz).mono (by omega)) m5 _ (k7 (Tv p) (fun z hz => G.Tv_neg (m := (A : Int)) (by omega) (hz.mono (by omega))) (List.all_eq_true.1 ht)) (m7 (Tv p) (fun z hz => G.Tv_neg (by omega) hz) (List.all_eq_true.1 hu)) y.1.length 0 K (by omega) (by omega)
        · simp only [Bool.not_eq_true] at hu
          rw [hu, Bool.not_false]
          exact hj2
      · rw [if_neg ht]
        exact hj2
    · rw [if_neg h1]
  · rw [if_neg h0, chalklinelaw15_TotalLimit.j1, if_pos rfl]

end Go.Proofs.Ytdkfhpgbiohhoaa.Pure
