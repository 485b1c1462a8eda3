/-
  Bounds on the totalizer's clauses and outputs, for TotalValid: in plain Lean.
-/
import Derived.Test.YtdkfhpgbiohhoaaGOk
import Derived.Test.YtdkfhpgbiohhoaaGCheck
namespace Go.Proofs.Ytdkfhpgbiohhoaa.G
open Go.RowKit Go.Proofs.YtdkfhpgbiohhoaaW.PrintWords Go.Proofs.YtdkfhpgbiohhoaaW.PrintLast Go.Proofs.YtdkfhpgbiohhoaaW.PrintMore

/-- What holds of count's answer: so many clauses, each of two or three literals, so many outputs. -/
def Vd (most : Int) (s : TS) (l : List Int) (r : List Int × TS) : Prop :=
  r.2.cs.length ≤ s.cs.length + 900 * (l.length - 1) ∧ (r.1.length : Int) = manyOf l.length most ∧ (∀ c ∈ r.2.cs, c ∈ s.cs ∨ (2 ≤ c.length ∧ c.length ≤ 3)) ∧ (l.length = 1 → r.1 = l) ∧ (l.length ≠ 1 → ∀ x ∈ r.1, s.next ≤ x ∧ x < r.2.next)

theorem cnt_vd {most : Int} (hm : 1 ≤ most) : ∀ f (s : TS) (l : List Int), 1 ≤ l.length → l.length ≤ f → l.length ≤ 40 → s.full = false → 1 ≤ s.next → s.next ≤ 65537 → (cnt most f s l).2.full = false → Vd most s l (cnt most f s l) := by
  intro f
  induction f with
  | zero => intro s l h1 h2; omega
  | succ f ih =>
    intro s l h1 h2 h3 hs hn1 hn2 hend
    have hM1 := manyOf_ge (most := most) hm h1
    have hMl := manyOf_le l.length most
    by_cases h : l.length = 1
    · rw [cnt_stop (.inl h)]
      refine ⟨by show s.cs.length ≤ _; omega, ?_, fun c hc => .inl hc, fun _ => rfl, fun hne => (hne h).elim⟩
      show (l.length : Int) = manyOf l.length most
      omega
    have hno : ¬ (l.length = 1 ∨ s.full = true) := by
      rintro (e | e)
      · exact h e
      · rw [hs] at e
        cases e
    have t1 : (l.take (l.length / 2)).length = l.length / 2 := by rw [List.length_take]; omega
    have t2 : (l.drop (l.length / 2)).length = l.length - l.length / 2 := List.length_drop
    obtain ⟨r1, hr1⟩ : ∃ r1, cnt most f s (l.take (l.length / 2)) = r1 := ⟨_, rfl⟩
    obtain ⟨r2, hr2⟩ : ∃ r2, cnt most f r1.2 (l.drop (l.length / 2)) = r2 := ⟨_, rfl⟩
    have hstep := cnt_next_step hno hr1 hr2
    obtain ⟨M, hM⟩ : ∃ M : Nat, manyOf l.length most = M := ⟨(manyOf l.length most).toNat, by omega⟩
    have g1 : ¬ (r2.2.full = true ∨ 65537 < r2.2.next + (M : Int)) := fun e => by
      rw [hM, if_pos e] at hstep
      rw [hstep] at hend
      cases hend
    rw [hM, Int.toNat_natCast, if_neg g1] at hstep
    have f2 : r2.2.full = false := by
      cases e : r2.2.full with
      | true => exact (g1 (.inl e)).elim
      | false => rfl
    have f1 : r1.2.full = false := by
      cases e : r1.2.full with
      | true =>
        have := cnt_full' (most := most) (f := f) (l := l.drop (l.length / 2)) e
        rw [hr2, f2] at this
        cases this
      | false => rfl
    have bn1 := cnt_next hm f s (l.take (l.length / 2)) hn1 hn2 (by omega) (by omega)
    rw [hr1] at bn1
    have bn2 := cnt_next hm f r1.2 (l.drop (l.length / 2)) (by omega) (by omega) (by omega) (by omega)
    rw [hr2] at bn2
    obtain ⟨a1, a2, a3, a4, a5⟩ := ih s (l.take (l.length / 2)) (by omega) (by omega) (by omega) hs hn1 hn2 (by rw [hr1]; exact f1)
    obtain ⟨b1, b2, b3, b4, b5⟩ := ih r1.2 (l.drop (l.length / 2)) (by omega) (by omega) (by omega) f1 (by omega) (by omega) (by rw [hr2]; exact f2)
    rw [hr1, t1] at a1 a2
    rw [hr1] at a3
    rw [hr2, t2] at b1 b2
    rw [hr2] at b3
    rw [hstep]
    have mm : ∀ n : Nat, manyOf n most = if most < (n : Int) then most else (n : Int) := fun n => rfl
    have q1 := manyOf_le (l.length / 2) most
    have q2 := manyOf_le (l.length - l.length / 2) most
    have hsum : (M : Int) ≤ r1.1.length + r2.1.length := by
      rw [a2, b2, ← hM, mm, mm, mm]
      split <;> split <;> split <;> omega
    have ml := mergeTo_len r1.1 r2.1 (outsOf r2.2.next M) M (r1.1.length + 1)
    have e1 : 2 * (r2.1.length + 1) * (r1.1.length + 1) ≤ 2 * 21 * 21 := Nat.mul_le_mul (Nat.mul_le_mul_left _ (by omega)) (by omega)
    refine ⟨?_, ?_, ?_, fun e => (h e).elim, fun _ x hx => ?_⟩
    · show (r2.2.cs ++ mergeTo r1.1 r2.1 (outsOf r2.2.next M) M (r1.1.length + 1)).length ≤ _
      rw [List.length_append]
      omega
    · show ((outsOf r2.2.next M).length : Int) = _
      rw [outsOf_length, hM]
    · intro c hc
      rcases List.mem_append.1 hc with hc | hc
      · rcases b3 c hc with hc | hc
        · exact a3 c hc
        · exact .inr hc
      · right
        unfold mergeTo rowTo at hc
        obtain ⟨i, hi, hc⟩ := List.mem_flatMap.1 hc
        obtain ⟨k, hk, hc⟩ := List.mem_flatMap.1 hc
        have hi := List.mem_range.1 hi
        have hk := List.mem_range.1 hk
        unfold pairC at hc
        rcases List.mem_append.1 hc with hc | hc
        · split at hc
          · rename_i hcond
            rw [List.mem_singleton] at hc
            subst hc
            unfold upC
            rw [show ((i : Int) + (k : Int) - 1) = ((i + k - 1 : Nat) : Int) from by omega, atL_some (l := outsOf r2.2.next M) (j := i + k - 1) (by rw [outsOf_length]; omega)]
            have l1 := notL_len (atL r1.1 ((i : Int) - 1))
            have l2 := notL_len (atL r2.1 ((k : Int) - 1))
            simp only [List.length_append, List.length_singleton]
            by_cases hi0 : 0 < i
            · rw [show ((i : Int) - 1) = ((i - 1 : Nat) : Int) from by omega, atL_some (l := r1.1) (j := i - 1) (by omega)]
              have e5 : (notL [r1.1.getD (i - 1) 0]).length = 1 := rfl
              omega
            · rw [show ((k : Int) - 1) = ((k - 1 : Nat) : Int) from by omega, atL_some (l := r2.1) (j := k - 1) (by omega)]
              have e5 : (notL [r2.1.getD (k - 1) 0]).length = 1 := rfl
              omega
          · cases hc
        · split at hc
          · rename_i hcond
            rw [List.mem_singleton] at hc
            subst hc
            unfold downC
            rw [show ((i : Int) + (k : Int)) = ((i + k : Nat) : Int) from by omega, atL_some (l := outsOf r2.2.next M) (j := i + k) (by rw [outsOf_length]; omega)]
            have l1 := atL_len r1.1 (i : Int)
            have l2 := atL_len r2.1 (k : Int)
            simp only [List.length_append, notL, List.length_singleton]
            by_cases hia : i < r1.1.length
            · rw [atL_some hia] at l1 ⊢
              simp only [List.length_singleton] at l1 ⊢
              omega
            · rw [atL_some (l := r2.1) (j := k) (by omega)] at l2 ⊢
              simp only [List.length_singleton] at l2 ⊢
              omega
          · cases hc
    · unfold outsOf at hx
      obtain ⟨j, hj, rfl⟩ := List.mem_map.1 hx
      have := List.mem_range.1 hj
      show s.next ≤ r2.2.next + (j : Int) ∧ r2.2.next + (j : Int) < r2.2.next + (M : Int)
      omega

theorem mayB_gd {m x : Int} (hm : m ≤ 65537) (h : Gd m x) : mayB (m - 1) x = true := by
  unfold Gd at h
  have e : wrap64 (-(m - 1)) = -(m - 1) := by unfold wrap64; omega
  unfold mayB QSmall.cnf_lit_may.f
  rw [e, if_neg (by omega), if_pos (by omega)]
  simp
  omega

end Go.Proofs.Ytdkfhpgbiohhoaa.G
