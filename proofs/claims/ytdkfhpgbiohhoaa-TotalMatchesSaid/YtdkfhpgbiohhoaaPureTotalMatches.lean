/-
  The plain law of TotalMatches: the program's answer and the reference's are the same list.
-/
import Derived.Test.YtdkfhpgbiohhoaaQMax2
namespace Go.Proofs.Ytdkfhpgbiohhoaa.Pure
open Go.RowKit Go.Proofs.Ytdkfhpgbiohhoaa.QMa Go.Proofs.YtdkfhpgbiohhoaaW.PrintWords Go.Proofs.YtdkfhpgbiohhoaaW.PrintLast

theorem ints_l0 (xs : List Int) (hb : xs.length ≤ 1000000) : ∀ (m i k : Nat), i + m = xs.length → m < k → chalklineref15_Ints.l0 k xs xs i = some true := by
  intro m
  induction m with
  | zero =>
    intro i k h1 h2
    obtain ⟨k, rfl⟩ : ∃ j, k = j + 1 := ⟨k - 1, by omega⟩
    rw [chalklineref15_Ints.l0, if_neg (show ¬ (i : Int) < (xs.length : Int) by omega)]
  | succ m ih =>
    intro i k h1 h2
    obtain ⟨k, rfl⟩ : ∃ j, k = j + 1 := ⟨k - 1, by omega⟩
    rw [chalklineref15_Ints.l0, if_pos (show (i : Int) < (xs.length : Int) by omega), if_pos (show (0 : Int) ≤ (i : Int) by omega), if_pos (show (i : Int) < (xs.length : Int) by omega), if_pos rfl,
      show wrap64 ((i : Int) + 1) = ((i + 1 : Nat) : Int) from by unfold wrap64; omega]
    exact ih (i + 1) k (by omega) (by omega)

theorem ints_self (xs : List Int) (hb : xs.length ≤ 1000000) (k : Nat) (hk : xs.length < k) : chalklineref15_Ints.f k xs xs = some true := by
  rw [chalklineref15_Ints.f, if_pos rfl]
  exact ints_l0 xs hb xs.length 0 k (by omega) hk

theorem clauses_l0 (xs : List (List Int)) (hb : xs.length ≤ 1000000) (hr : ∀ c ∈ xs, c.length ≤ 3) : ∀ (m i k : Nat), i + m = xs.length → m + 4 < k → chalklineref15_Clauses.l0 k xs xs i = some true := by
  intro m
  induction m with
  | zero =>
    intro i k h1 h2
    obtain ⟨k, rfl⟩ : ∃ j, k = j + 1 := ⟨k - 1, by omega⟩
    rw [chalklineref15_Clauses.l0, if_neg (show ¬ (i : Int) < (xs.length : Int) by omega)]
  | succ m ih =>
    intro i k h1 h2
    obtain ⟨k, rfl⟩ : ∃ j, k = j + 1 := ⟨k - 1, by omega⟩
    have hl : (rd_L1 xs (i : Int)).length ≤ 3 := by
      have hi : i < xs.length := by omega
      refine hr _ ?_
      simp [rd_L1, List.getD_eq_getElem?_getD, hi]
    rw [chalklineref15_Clauses.l0, if_pos (show (i : Int) < (xs.length : Int) by omega), if_pos (show (0 : Int) ≤ (i : Int) by omega), if_pos (show (i : Int) < (xs.length : Int) by omega),
      ints_self _ (by omega) k (by omega)]
    simp only [Option.bind_some, if_true]
    rw [show wrap64 ((i : Int) + 1) = ((i + 1 : Nat) : Int) from by unfold wrap64; omega]
    exact ih (i + 1) k (by omega) (by omega)

theorem clauses_self (xs : List (List Int)) (hb : xs.length ≤ 1000000) (hr : ∀ c ∈ xs, c.length ≤ 3) (k : Nat) (hk : xs.length + 4 < k) : chalklineref15_Clauses.f k xs xs = some true := by
  rw [chalklineref15_Clauses.f, if_pos rfl]
  exact clauses_l0 xs hb hr xs.length 0 k (by omega) hk

open G in
theorem pairC_rows (a b o : List Int) (many i k : Nat) : ∀ c ∈ pairC a b o many i k, c.length ≤ 3 := by
  intro c hc
  have l1 := notL_len (atL a ((i : Int) - 1))
  have l2 := notL_len (atL b ((k : Int) - 1))
  have l3 := atL_len o ((i : Int) + k - 1)
  have l4 := atL_len a (i : Int)
  have l5 := atL_len b (k : Int)
  have l6 := notL_len (atL o ((i : Int) + k))
  unfold pairC at hc
  rcases List.mem_append.1 hc with hc | hc
  · split at hc
    · rw [List.mem_singleton] at hc
      subst hc
      unfold upC
      simp only [List.length_append]
      omega
    · cases hc
  · split at hc
    · rw [List.mem_singleton] at hc
      subst hc
      unfold downC
      simp only [List.length_append]
      omega
    · cases hc
open G in
theorem mergeTo_rows (a b o : List Int) (many i : Nat) : ∀ c ∈ mergeTo a b o many i, c.length ≤ 3 := by
  intro c hc
  unfold mergeTo rowTo at hc
  obtain ⟨j, _, hc⟩ := List.mem_flatMap.1 hc
  obtain ⟨k, _, hc⟩ := List.mem_flatMap.1 hc
  exact pairC_rows a b o many j k c hc
open G in
theorem cnt_rows {most : Int} (f : Nat) : ∀ (s : TS) (l : List Int), (∀ c ∈ s.cs, c.length ≤ 3) → ∀ c ∈ (cnt most f s l).2.cs, c.length ≤ 3 := by
  induction f with
  | zero => intro s l h; exact h
  | succ f ih =>
    intro s l h
    rw [cnt]
    split
    · exact h
    · dsimp only
      have h2 := ih _ (l.drop (l.length / 2)) (ih s (l.take (l.length / 2)) h)
      split
      · exact h2
      · intro c hc
        rcases List.mem_append.1 hc with hc | hc
        · exact h2 c hc
        · exact mergeTo_rows _ _ _ _ _ c hc

open G in
theorem totalOf_bounds (l : List Int) (most next : Int) (h40 : l.length ≤ 40) : (totalOf l most next).1.length ≤ 40 ∧ (totalOf l most next).2.1.length ≤ 160000 ∧ ∀ c ∈ (totalOf l most next).2.1, c.length ≤ 3 := by
  unfold totalOf
  split
  · simp
  split
  · simp
  split
  · simp
  · unfold mainS
    dsimp only
    split
    · simp
    · rename_i h1 h2 h3 h4
      have c1 := cnt_len (most := most) l.length ⟨next, false, []⟩ l
      have c2 := cnt_cs (most := most) l.length ⟨next, false, []⟩ l (by omega) (Nat.le_refl _) h40
      have c3 := cnt_rows (most := most) l.length ⟨next, false, []⟩ l (by simp)
      refine ⟨by dsimp only; omega, ?_, c3⟩
      have : ([] : List (List Int)).length = 0 := rfl
      simp only [List.length_nil] at c2
      dsimp only
      omega

theorem TotalMatches : chalklinelaw15_TotalMatches.Pure := by
  intro l0 a1 a2 hlen hsz hw hw1 hw2
  refine ⟨200000, ?_⟩
  unfold chalklinelaw15_TotalMatches.f G.chalklinelaw15_live.f
  simp only [Option.bind_some, if_true]
  by_cases h40 : (l0.length : Int) > 40
  · rw [if_pos h40]
  rw [if_neg h40]
  have hl : l0.length ≤ 40 := by omega
  have hwf : G.wfL l0 = true := by simpa [G.wfL] using hw
  obtain ⟨b1, b2, b3⟩ := totalOf_bounds l0 a1 a2 hl
  have e1 : G.total_Total.f l0 a1 a2 = some (G.totalOf l0 a1 a2) := by unfold G.total_Total.f; rw [if_pos ⟨hl, hwf⟩]
  have e2 : G.chalklineref15_Total.f l0 a1 a2 = some (G.totalOf l0 a1 a2) := by unfold G.chalklineref15_Total.f; rw [if_pos ⟨hl, hwf⟩]
  rw [e1, e2]
  simp only [Option.bind_some]
  rw [ints_self _ (by omega) _ (by omega)]
  simp only [Option.bind_some, if_true]
  rw [clauses_self _ (by omega) b3 _ (by omega)]
  simp

end Go.Proofs.Ytdkfhpgbiohhoaa.Pure
