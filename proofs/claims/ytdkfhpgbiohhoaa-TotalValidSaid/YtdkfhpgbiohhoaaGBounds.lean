/-
  Bounds on what total.Total makes, in plain Lean.
-/
import Derived.Test.YtdkfhpgbiohhoaaGTotal
namespace Go.Proofs.Ytdkfhpgbiohhoaa.G
open Go.RowKit

theorem pairC_rows (a b o : List Int) (many i k : Nat) : ∀ c ∈ pairC a b o many i k, c.length ≤ 3 := by
  intro c hc
  have l1 := notL_len (atL a ((i : Int) - 1))
  have l2 := notL_len (atL b ((k : Int) - 1))
  have l3 := atL_len o ((i : Int) + k - 1)
  have l4 := atL_len a (i : Int)
  have l5 := atL_len b (k : Int)
  have l6 := notL_len (atL o ((i : Int) + k))
  unfold pairC at hc
  rcases List.mem_append.1 hc with hc | hc
  · split at hc
    · rw [List.mem_singleton] at hc
      subst hc
      unfold upC
      simp only [List.length_append]
      omega
    · cases hc
  · split at hc
    · rw [List.mem_singleton] at hc
      subst hc
      unfold downC
      simp only [List.length_append]
      omega
    · cases hc
theorem mergeTo_rows (a b o : List Int) (many i : Nat) : ∀ c ∈ mergeTo a b o many i, c.length ≤ 3 := by
  intro c hc
  unfold mergeTo rowTo at hc
  obtain ⟨j, _, hc⟩ := List.mem_flatMap.1 hc
  obtain ⟨k, _, hc⟩ := List.mem_flatMap.1 hc
  exact pairC_rows a b o many j k c hc
theorem cnt_rows {most : Int} (f : Nat) : ∀ (s : TS) (l : List Int), (∀ c ∈ s.cs, c.length ≤ 3) → ∀ c ∈ (cnt most f s l).2.cs, c.length ≤ 3 := by
  induction f with
  | zero => intro s l h; exact h
  | succ f ih =>
    intro s l h
    rw [cnt]
    split
    · exact h
    · dsimp only
      have h2 := ih _ (l.drop (l.length / 2)) (ih s (l.take (l.length / 2)) h)
      split
      · exact h2
      · intro c hc
        rcases List.mem_append.1 hc with hc | hc
        · exact h2 c hc
        · exact mergeTo_rows _ _ _ _ _ c hc

theorem totalOf_bounds (l : List Int) (most next : Int) (h40 : l.length ≤ 40) : (totalOf l most next).1.length ≤ 40 ∧ (totalOf l most next).2.1.length ≤ 160000 ∧ ∀ c ∈ (totalOf l most next).2.1, c.length ≤ 3 := by
  unfold totalOf
  split
  · simp
  split
  · simp
  split
  · simp
  · unfold mainS
    dsimp only
    split
    · simp
    · rename_i h1 h2 h3 h4
      have c1 := cnt_len (most := most) l.length ⟨next, false, []⟩ l
      have c2 := cnt_cs (most := most) l.length ⟨next, false, []⟩ l (by omega) (Nat.le_refl _) h40
      have c3 := cnt_rows (most := most) l.length ⟨next, false, []⟩ l (by simp)
      refine ⟨by dsimp only; omega, ?_, c3⟩
      have : ([] : List (List Int)).length = 0 := rfl
      simp only [List.length_nil] at c2
      dsimp only
      omega

theorem totalOf_after (l : List Int) (most next : Int) (h40 : l.length ≤ 40) : 0 ≤ (totalOf l most next).2.2.1 ∧ (totalOf l most next).2.2.1 ≤ 65537 := by
  unfold totalOf
  split
  · simp
  rename_i h1
  split
  · simp
  split
  · exact ⟨by show 0 ≤ next; omega, by show next ≤ 65537; omega⟩
  rename_i h3
  unfold mainS
  dsimp only
  split
  · simp
  · have := cnt_next (most := most) (by omega) l.length ⟨next, false, []⟩ l (by show 1 ≤ next; omega) (by show next ≤ 65537; omega) (by omega) (Nat.le_refl _)
    have e : (⟨next, false, []⟩ : TS).next = next := rfl
    rw [e] at this
    exact ⟨by dsimp only; omega, by dsimp only; omega⟩

end Go.Proofs.Ytdkfhpgbiohhoaa.G
