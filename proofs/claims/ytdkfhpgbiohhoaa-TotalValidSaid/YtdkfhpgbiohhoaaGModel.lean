/-
  The totalizer's clauses, under every assignment that satisfies them, make the outputs the unary count: in plain Lean.
-/
import Derived.Test.YtdkfhpgbiohhoaaGRefPure
import Derived.Test.YtdkfhpgbiohhoaaGTotal
import Derived.Test.YtdkfhpgbiohhoaaGShift
namespace Go.Proofs.Ytdkfhpgbiohhoaa.G
open Go.RowKit

section
variable {P : Int → Prop} (hP : ∀ x, P x → P (wrap64 (-x)))
include hP
omit hP in
theorem atL_all {l : List Int} (h : ∀ x ∈ l, P x) (j : Int) : ∀ x ∈ atL l j, P x := by
  intro x hx
  unfold atL at hx
  split at hx
  · rename_i hj
    rw [List.mem_singleton] at hx
    have hl : j.toNat < l.length := by omega
    subst hx
    exact h _ (by simp [List.getD_eq_getElem?_getD, hl])
  · cases hx
theorem notL_all {l : List Int} (h : ∀ x ∈ l, P x) : ∀ x ∈ notL l, P x := by
  intro x hx
  cases l with
  | nil => cases hx
  | cons y l =>
    have hy := h y (by simp)
    unfold notL at hx
    rw [List.mem_singleton] at hx
    subst hx
    exact hP y hy
theorem mergeTo_all {a b o : List Int} (ha : ∀ x ∈ a, P x) (hb : ∀ x ∈ b, P x) (ho : ∀ x ∈ o, P x) (many i : Nat) : ∀ c ∈ mergeTo a b o many i, ∀ x ∈ c, P x := by
  intro c hc
  unfold mergeTo rowTo at hc
  obtain ⟨j, _, hc⟩ := List.mem_flatMap.1 hc
  obtain ⟨k, _, hc⟩ := List.mem_flatMap.1 hc
  intro x hx
  unfold pairC at hc
  rcases List.mem_append.1 hc with hc | hc
  · split at hc
    · rw [List.mem_singleton] at hc
      subst hc
      unfold upC at hx
      simp only [List.mem_append] at hx
      rcases hx with (hx | hx) | hx
      · exact notL_all hP (atL_all ha _) x hx
      · exact notL_all hP (atL_all hb _) x hx
      · exact atL_all ho _ x hx
    · cases hc
  · split at hc
    · rw [List.mem_singleton] at hc
      subst hc
      unfold downC at hx
      simp only [List.mem_append] at hx
      rcases hx with (hx | hx) | hx
      · exact atL_all ha _ x hx
      · exact atL_all hb _ x hx
      · exact notL_all hP (atL_all ho _) x hx
    · cases hc
end

/-- A literal of one of the variables 1 to m - 1. -/
def Gd (m x : Int) : Prop := (1 ≤ x ∧ x < m) ∨ (1 ≤ -x ∧ -x < m)
theorem Gd.neg {m : Int} (hm : m ≤ 70000) : ∀ x, Gd m x → Gd m (wrap64 (-x)) := by
  intro x hx
  unfold Gd at *
  have : wrap64 (-x) = -x := by unfold wrap64; omega
  rw [this]
  omega
theorem Gd.mono {m n x : Int} (h : Gd m x) (hmn : m ≤ n) : Gd n x := by unfold Gd at *; omega

theorem cnt_gd {most : Int} (hm : 1 ≤ most) : ∀ f (s : TS) (l : List Int), 1 ≤ l.length → l.length ≤ f → l.length ≤ 40 → s.full = false → 1 ≤ s.next → s.next ≤ 65537 → (∀ x ∈ l, Gd s.next x) → (∀ c ∈ s.cs, ∀ x ∈ c, Gd s.next x) → (cnt most f s l).2.full = false →
    s.next ≤ (cnt most f s l).2.next ∧ (∀ x ∈ (cnt most f s l).1, Gd (cnt most f s l).2.next x) ∧ (∀ c ∈ (cnt most f s l).2.cs, ∀ x ∈ c, Gd (cnt most f s l).2.next x) := by
  intro f
  induction f with
  | zero => intro s l h1 h2; omega
  | succ f ih =>
    intro s l h1 h2 h3 hs hn1 hn2 hl hcs hend
    by_cases h : l.length = 1
    · rw [cnt_stop (.inl h)]
      exact ⟨Int.le_refl _, hl, hcs⟩
    have hno : ¬ (l.length = 1 ∨ s.full = true) := by
      rintro (e | e)
      · exact h e
      · rw [hs] at e
        cases e
    have t1 : (l.take (l.length / 2)).length = l.length / 2 := by rw [List.length_take]; omega
    have t2 : (l.drop (l.length / 2)).length = l.length - l.length / 2 := List.length_drop
    obtain ⟨r1, hr1⟩ : ∃ r1, cnt most f s (l.take (l.length / 2)) = r1 := ⟨_, rfl⟩
    obtain ⟨r2, hr2⟩ : ∃ r2, cnt most f r1.2 (l.drop (l.length / 2)) = r2 := ⟨_, rfl⟩
    have hstep := cnt_next_step hno hr1 hr2
    obtain ⟨M, hM⟩ : ∃ M : Nat, manyOf l.length most = M := ⟨(manyOf l.length most).toNat, by have := manyOf_ge (most := most) hm h1; omega⟩
    have b5 := manyOf_le l.length most
    have g1 : ¬ (r2.2.full = true ∨ 65537 < r2.2.next + (M : Int)) := fun e => by
      rw [hM, if_pos e] at hstep
      rw [hstep] at hend
      cases hend
    rw [hM, Int.toNat_natCast, if_neg g1] at hstep
    have f2 : r2.2.full = false := by
      cases e : r2.2.full with
      | true => exact (g1 (.inl e)).elim
      | false => rfl
    have f1 : r1.2.full = false := by
      cases e : r1.2.full with
      | true =>
        have := cnt_full' (most := most) (f := f) (l := l.drop (l.length / 2)) e
        rw [hr2, f2] at this
        cases this
      | false => rfl
    have bn1 := cnt_next hm f s (l.take (l.length / 2)) hn1 hn2 (by omega) (by omega)
    rw [hr1] at bn1
    have i1 := ih s (l.take (l.length / 2)) (by omega) (by omega) (by omega) hs hn1 hn2 (fun x hx => hl x (List.mem_of_mem_take hx)) hcs (by rw [hr1]; exact f1)
    rw [hr1] at i1
    have i2 := ih r1.2 (l.drop (l.length / 2)) (by omega) (by omega) (by omega) f1 (by omega) (by omega) (fun x hx => (hl x (List.mem_of_mem_drop hx)).mono i1.1) i1.2.2 (by rw [hr2]; exact f2)
    rw [hr2] at i2
    rw [hstep]
    have hgt : r2.2.next + (M : Int) ≤ 65537 := by
      have : ¬ 65537 < r2.2.next + (M : Int) := fun e => g1 (.inr e)
      omega
    have ho : ∀ x ∈ outsOf r2.2.next M, Gd (r2.2.next + M) x := by
      intro x hx
      unfold outsOf at hx
      obtain ⟨j, hj, rfl⟩ := List.mem_map.1 hx
      have := List.mem_range.1 hj
      unfold Gd
      omega
    refine ⟨by show s.next ≤ r2.2.next + M; omega, ho, ?_⟩
    intro c hc
    rcases List.mem_append.1 hc with hc | hc
    · exact fun x hx => (i2.2.2 c hc x hx).mono (by show r2.2.next ≤ r2.2.next + M; omega)
    · exact mergeTo_all (P := Gd (r2.2.next + M)) (Gd.neg (by omega)) (fun x hx => (i1.2.1 x hx).mono (by omega)) (fun x hx => (i2.2.1 x hx).mono (by omega)) ho _ _ c hc

/-- Under T the outputs o are the unary count of l. -/
def Una (T : Int → Bool) (most : Int) (o l : List Int) : Prop := (o.length : Int) = manyOf l.length most ∧ ∀ j, j < o.length → (T (o.getD j 0) = true ↔ j < l.countP T)

theorem atL_some {l : List Int} {j : Nat} (h : j < l.length) : atL l (j : Int) = [l.getD j 0] := by
  unfold atL
  rw [if_pos (by omega), Int.toNat_natCast]
theorem atL_none {l : List Int} {j : Int} (h : j < 0 ∨ (l.length : Int) ≤ j) : atL l j = [] := by
  unfold atL
  rw [if_neg (by omega)]

/-- One merge: halves of counts p and q. -/
theorem merge_una {T : Int → Bool} {a b o : List Int} {M : Nat} (hom : o.length = M) {p q : Nat} (ha : ∀ j, j < a.length → (T (a.getD j 0) = true ↔ j < p)) (hb : ∀ j, j < b.length → (T (b.getD j 0) = true ↔ j < q))
    (hnb : ∀ x, x ∈ a ∨ x ∈ b ∨ x ∈ o → T (wrap64 (-x)) = !(T x)) (hpa : p ≤ a.length ∨ M ≤ a.length) (hqb : q ≤ b.length ∨ M ≤ b.length) (hsum : M ≤ a.length + b.length ∨ M ≤ a.length ∨ M ≤ b.length)
    (hold : ∀ c ∈ mergeTo a b o M (a.length + 1), c.any T = true) : ∀ j, j < M → (T (o.getD j 0) = true ↔ j < p + q) := by
  have hin : ∀ i k, i ≤ a.length → k ≤ b.length → ∀ c ∈ pairC a b o M i k, c.any T = true := by
    intro i k hi hk c hc
    refine hold c ?_
    unfold mergeTo rowTo
    exact List.mem_flatMap.2 ⟨i, List.mem_range.2 (by omega), List.mem_flatMap.2 ⟨k, List.mem_range.2 (by omega), hc⟩⟩
  have mem : ∀ (l : List Int) (j : Nat), j < l.length → l.getD j 0 ∈ l := fun l j h => by simp [List.getD_eq_getElem?_getD, h]
  intro j hj
  constructor
  · intro ht
    by_cases hlt : j < p + q
    · exact hlt
    exfalso
    obtain ⟨i, k, hij, hi1, hi2, hk1, hk2⟩ : ∃ i k, i + k = j ∧ p ≤ i ∧ i ≤ a.length ∧ q ≤ k ∧ k ≤ b.length := by
      refine ⟨min a.length (j - q), j - min a.length (j - q), ?_, ?_, ?_, ?_, ?_⟩ <;> omega
    have h1 := hin i k hi2 hk2 (downC a b o i k) (by unfold pairC; rw [if_pos (show i + k < M by omega)]; simp)
    unfold downC at h1
    rw [List.any_append, List.any_append, show ((i : Int) + (k : Int)) = ((i + k : Nat) : Int) from by omega, atL_some (l := o) (j := i + k) (by omega)] at h1
    have z1 : (atL a (i : Int)).any T = false := by
      by_cases hia : i < a.length
      · rw [atL_some hia]
        have := ha i hia
        cases e : T (a.getD i 0) with
        | true => have := this.1 e; omega
        | false => simpa using e
      · rw [atL_none (by omega)]; rfl
    have z2 : (atL b (k : Int)).any T = false := by
      by_cases hkb : k < b.length
      · rw [atL_some hkb]
        have := hb k hkb
        cases e : T (b.getD k 0) with
        | true => have := this.1 e; omega
        | false => simpa using e
      · rw [atL_none (by omega)]; rfl
    rw [z1, z2, hij] at h1
    simp only [notL, List.any_cons, List.any_nil, Bool.or_false, Bool.false_or] at h1
    rw [hnb _ (.inr (.inr (mem o j (by omega)))), ht] at h1
    cases h1
  · intro hlt
    obtain ⟨i, k, hij, hi1, hi2, hk1, hk2⟩ : ∃ i k, i + k = j + 1 ∧ i ≤ p ∧ i ≤ a.length ∧ k ≤ q ∧ k ≤ b.length := by
      refine ⟨min (min p a.length) (j + 1), j + 1 - min (min p a.length) (j + 1), ?_, ?_, ?_, ?_, ?_⟩ <;> omega
    have h1 := hin i k hi2 hk2 (upC a b o i k) (by unfold pairC; rw [if_pos (show 0 < i + k ∧ i + k ≤ M by omega)]; simp)
    unfold upC at h1
    rw [List.any_append, List.any_append, show ((i : Int) + (k : Int) - 1) = (j : Int) from by omega, atL_some (l := o) (j := j) (by omega)] at h1
    have z1 : (notL (atL a ((i : Int) - 1))).any T = false := by
      by_cases hi0 : 0 < i
      · rw [show ((i : Int) - 1) = ((i - 1 : Nat) : Int) from by omega, atL_some (l := a) (j := i - 1) (by omega)]
        have := (ha (i - 1) (by omega)).2 (by omega)
        simp only [notL, List.any_cons, List.any_nil, Bool.or_false]
        rw [hnb _ (.inl (mem a (i - 1) (by omega))), this]
        rfl
      · rw [atL_none (by omega)]; rfl
    have z2 : (notL (atL b ((k : Int) - 1))).any T = false := by
      by_cases hk0 : 0 < k
      · rw [show ((k : Int) - 1) = ((k - 1 : Nat) : Int) from by omega, atL_some (l := b) (j := k - 1) (by omega)]
        have := (hb (k - 1) (by omega)).2 (by omega)
        simp only [notL, List.any_cons, List.any_nil, Bool.or_false]
        rw [hnb _ (.inr (.inl (mem b (k - 1) (by omega)))), this]
        rfl
      · rw [atL_none (by omega)]; rfl
    rw [z1, z2] at h1
    simpa using h1

theorem cnt_una {T : Int → Bool} {most : Int} (hm : 1 ≤ most) : ∀ f (s : TS) (l : List Int), 1 ≤ l.length → l.length ≤ f → l.length ≤ 40 → s.full = false → 1 ≤ s.next → s.next ≤ 65537 → (∀ x ∈ l, Gd s.next x) → (∀ c ∈ s.cs, ∀ x ∈ c, Gd s.next x) → (cnt most f s l).2.full = false →
    (∀ x, Gd (cnt most f s l).2.next x → T (wrap64 (-x)) = !(T x)) → (∀ c ∈ (cnt most f s l).2.cs, c.any T = true) → Una T most (cnt most f s l).1 l ∧ (∀ c ∈ s.cs, c.any T = true) := by
  intro f
  induction f with
  | zero => intro s l h1 h2; omega
  | succ f ih =>
    intro s l h1 h2 h3 hs hn1 hn2 hl hcs hend hT hold
    by_cases h : l.length = 1
    · rw [cnt_stop (.inl h)] at hold ⊢
      refine ⟨⟨?_, ?_⟩, hold⟩
      · show (l.length : Int) = manyOf l.length most
        rw [h]; unfold manyOf; split <;> omega
      · intro j hj
        have hj : j < l.length := hj
        obtain rfl : j = 0 := by omega
        obtain ⟨x, rfl⟩ := List.length_eq_one_iff.1 h
        show T x = true ↔ 0 < [x].countP T
        rw [List.countP_singleton]
        split <;> simp_all
    have hno : ¬ (l.length = 1 ∨ s.full = true) := by
      rintro (e | e)
      · exact h e
      · rw [hs] at e
        cases e
    have hG := cnt_gd hm (f + 1) s l h1 h2 h3 hs hn1 hn2 hl hcs hend
    have t1 : (l.take (l.length / 2)).length = l.length / 2 := by rw [List.length_take]; omega
    have t2 : (l.drop (l.length / 2)).length = l.length - l.length / 2 := List.length_drop
    obtain ⟨r1, hr1⟩ : ∃ r1, cnt most f s (l.take (l.length / 2)) = r1 := ⟨_, rfl⟩
    obtain ⟨r2, hr2⟩ : ∃ r2, cnt most f r1.2 (l.drop (l.length / 2)) = r2 := ⟨_, rfl⟩
    have hstep := cnt_next_step hno hr1 hr2
    have hM1 := manyOf_ge (most := most) hm h1
    obtain ⟨M, hM⟩ : ∃ M : Nat, manyOf l.length most = M := ⟨(manyOf l.length most).toNat, by omega⟩
    have g1 : ¬ (r2.2.full = true ∨ 65537 < r2.2.next + (M : Int)) := fun e => by
      rw [hM, if_pos e] at hstep
      rw [hstep] at hend
      cases hend
    rw [hM, Int.toNat_natCast, if_neg g1] at hstep
    have f2 : r2.2.full = false := by
      cases e : r2.2.full with
      | true => exact (g1 (.inl e)).elim
      | false => rfl
    have f1 : r1.2.full = false := by
      cases e : r1.2.full with
      | true =>
        have := cnt_full' (most := most) (f := f) (l := l.drop (l.length / 2)) e
        rw [hr2, f2] at this
        cases this
      | false => rfl
    have bn1 := cnt_next hm f s (l.take (l.length / 2)) hn1 hn2 (by omega) (by omega)
    rw [hr1] at bn1
    have i1 := cnt_gd hm f s (l.take (l.length / 2)) (by omega) (by omega) (by omega) hs hn1 hn2 (fun x hx => hl x (List.mem_of_mem_take hx)) hcs (by rw [hr1]; exact f1)
    rw [hr1] at i1
    have i2 := cnt_gd hm f r1.2 (l.drop (l.length / 2)) (by omega) (by omega) (by omega) f1 (by omega) (by omega) (fun x hx => (hl x (List.mem_of_mem_drop hx)).mono i1.1) i1.2.2 (by rw [hr2]; exact f2)
    rw [hr2] at i2
    rw [hstep] at hold hT ⊢
    have hT' : ∀ x, Gd (r2.2.next + M) x → T (wrap64 (-x)) = !(T x) := hT
    have hold' : ∀ c ∈ r2.2.cs ++ mergeTo r1.1 r2.1 (outsOf r2.2.next M) M (r1.1.length + 1), c.any T = true := hold
    obtain ⟨u2, c2⟩ := ih r1.2 (l.drop (l.length / 2)) (by omega) (by omega) (by omega) f1 (by omega) (by omega) (fun x hx => (hl x (List.mem_of_mem_drop hx)).mono i1.1) i1.2.2 (by rw [hr2]; exact f2)
      (by rw [hr2]; exact fun x hx => hT' x (hx.mono (by omega))) (by rw [hr2]; exact fun c hc => hold' c (List.mem_append_left _ hc))
    rw [hr2] at u2
    obtain ⟨u1, c1⟩ := ih s (l.take (l.length / 2)) (by omega) (by omega) (by omega) hs hn1 hn2 (fun x hx => hl x (List.mem_of_mem_take hx)) hcs (by rw [hr1]; exact f1)
      (by rw [hr1]; exact fun x hx => hT' x (hx.mono (by omega))) (by rw [hr1]; exact c2)
    rw [hr1] at u1
    refine ⟨⟨by show ((outsOf r2.2.next M).length : Int) = _; rw [outsOf_length, hM], ?_⟩, c1⟩
    obtain ⟨ul1, ua⟩ := u1
    obtain ⟨ul2, ub⟩ := u2
    rw [t1] at ul1
    rw [t2] at ul2
    have cp := List.countP_le_length (p := T) (l := l.take (l.length / 2))
    have cq := List.countP_le_length (p := T) (l := l.drop (l.length / 2))
    rw [t1] at cp
    rw [t2] at cq
    have hsum : l.countP T = (l.take (l.length / 2)).countP T + (l.drop (l.length / 2)).countP T := by rw [← List.countP_append, List.take_append_drop]
    intro j hj
    have hj' : j < M := by
      have : j < (outsOf r2.2.next M).length := hj
      rwa [outsOf_length] at this
    rw [hsum]
    have mm : ∀ n : Nat, manyOf n most = if most < (n : Int) then most else (n : Int) := fun n => rfl
    rw [mm] at ul1 ul2 hM
    have ho := hG.2.1
    rw [hstep] at ho
    refine merge_una (T := T) (a := r1.1) (b := r2.1) (o := outsOf r2.2.next M) (M := M) (outsOf_length _ _) ua ub ?_ ?_ ?_ ?_ (fun c hc => hold' c (List.mem_append_right _ hc)) j hj'
    · rintro x (hx | hx | hx)
      · exact hT' x ((i1.2.1 x hx).mono (by omega))
      · exact hT' x ((i2.2.1 x hx).mono (by omega))
      · exact hT' x (ho x hx)
    · split at ul1 <;> split at hM <;> omega
    · split at ul2 <;> split at hM <;> omega
    · split at ul1 <;> split at ul2 <;> split at hM <;> omega

#print axioms cnt_una

end Go.Proofs.Ytdkfhpgbiohhoaa.G
