/-
  The totalizer's clauses hold exactly where each new variable is the count that it stands for: in plain Lean.
-/
import Derived.Test.YtdkfhpgbiohhoaaGModel
namespace Go.Proofs.Ytdkfhpgbiohhoaa.G
open Go.RowKit

/-- What the new variables of count stand for, in their order. -/
def idl (T : Int → Bool) (most : Int) : Nat → List Int → List Bool
  | 0, _ => []
  | f + 1, l => if l.length = 1 then [] else idl T most f (l.take (l.length / 2)) ++ idl T most f (l.drop (l.length / 2)) ++ (List.range (manyOf l.length most).toNat).map (fun j => decide (j < l.countP T))

theorem idl_len {T : Int → Bool} {most : Int} (hm : 1 ≤ most) : ∀ f (l : List Int), 1 ≤ l.length → l.length ≤ f → ((idl T most f l).length : Int) = Vf most f l.length := by
  intro f
  induction f with
  | zero => intro l h1 h2; omega
  | succ f ih =>
    intro l h1 h2
    rw [idl, Vf]
    split
    · rfl
    · have t1 : (l.take (l.length / 2)).length = l.length / 2 := by rw [List.length_take]; omega
      have t2 : (l.drop (l.length / 2)).length = l.length - l.length / 2 := List.length_drop
      have i1 := ih (l.take (l.length / 2)) (by omega) (by omega)
      have i2 := ih (l.drop (l.length / 2)) (by omega) (by omega)
      rw [t1] at i1
      rw [t2] at i2
      have := manyOf_ge (most := most) hm h1
      simp only [List.length_append, List.length_map, List.length_range]
      omega

theorem idl_congr {T U : Int → Bool} {most : Int} : ∀ f (l : List Int), (∀ x ∈ l, T x = U x) → idl T most f l = idl U most f l := by
  intro f
  induction f with
  | zero => intro l _; rfl
  | succ f ih =>
    intro l h
    rw [idl, idl]
    have hc : l.countP T = l.countP U := List.countP_congr (fun x hx => by rw [h x hx])
    rw [ih (l.take (l.length / 2)) (fun x hx => h x (List.mem_of_mem_take hx)), ih (l.drop (l.length / 2)) (fun x hx => h x (List.mem_of_mem_drop hx)), hc]

/-- One merge: where the outputs are the count, its clauses hold. -/
theorem merge_holds {T : Int → Bool} {a b o : List Int} {M : Nat} (hom : o.length = M) {p q : Nat} (ha : ∀ j, j < a.length → (T (a.getD j 0) = true ↔ j < p)) (hb : ∀ j, j < b.length → (T (b.getD j 0) = true ↔ j < q))
    (ho : ∀ j, j < M → (T (o.getD j 0) = true ↔ j < p + q)) (hnb : ∀ x, x ∈ a ∨ x ∈ b ∨ x ∈ o → T (wrap64 (-x)) = !(T x)) (hpa : p ≤ a.length ∨ M ≤ a.length) (hqb : q ≤ b.length ∨ M ≤ b.length) :
    ∀ c ∈ mergeTo a b o M (a.length + 1), c.any T = true := by
  have mem : ∀ (l : List Int) (j : Nat), j < l.length → l.getD j 0 ∈ l := fun l j h => by simp [List.getD_eq_getElem?_getD, h]
  intro c hc
  unfold mergeTo rowTo at hc
  obtain ⟨i, hi, hc⟩ := List.mem_flatMap.1 hc
  obtain ⟨k, hk, hc⟩ := List.mem_flatMap.1 hc
  have hi := List.mem_range.1 hi
  have hk := List.mem_range.1 hk
  unfold pairC at hc
  rcases List.mem_append.1 hc with hc | hc
  · split at hc
    · rename_i hcond
      rw [List.mem_singleton] at hc
      subst hc
      unfold upC
      rw [List.any_append, List.any_append]
      by_cases hp : i ≤ p
      · by_cases hq : k ≤ q
        · have h3 : (atL o ((i : Int) + (k : Int) - 1)).any T = true := by
            rw [show ((i : Int) + (k : Int) - 1) = ((i + k - 1 : Nat) : Int) from by omega, atL_some (by omega)]
            simpa using (ho (i + k - 1) (by omega)).2 (by omega)
          rw [h3, Bool.or_true]
        · have h2 : (notL (atL b ((k : Int) - 1))).any T = true := by
            rw [show ((k : Int) - 1) = ((k - 1 : Nat) : Int) from by omega, atL_some (by omega)]
            simp only [notL, List.any_cons, List.any_nil, Bool.or_false]
            rw [hnb _ (.inr (.inl (mem b (k - 1) (by omega))))]
            have := hb (k - 1) (by omega)
            cases e : T (b.getD (k - 1) 0) with
            | true => have := this.1 e; omega
            | false => rfl
          rw [h2, Bool.or_true, Bool.true_or]
      · have h1 : (notL (atL a ((i : Int) - 1))).any T = true := by
          rw [show ((i : Int) - 1) = ((i - 1 : Nat) : Int) from by omega, atL_some (by omega)]
          simp only [notL, List.any_cons, List.any_nil, Bool.or_false]
          rw [hnb _ (.inl (mem a (i - 1) (by omega)))]
          have := ha (i - 1) (by omega)
          cases e : T (a.getD (i - 1) 0) with
          | true => have := this.1 e; omega
          | false => rfl
        rw [h1, Bool.true_or, Bool.true_or]
    · cases hc
  · split at hc
    · rename_i hcond
      rw [List.mem_singleton] at hc
      subst hc
      unfold downC
      rw [List.any_append, List.any_append]
      by_cases hp : i < p
      · have h1 : (atL a (i : Int)).any T = true := by
          rw [atL_some (by omega)]
          simpa using (ha i (by omega)).2 hp
        rw [h1, Bool.true_or, Bool.true_or]
      · by_cases hq : k < q
        · have h2 : (atL b (k : Int)).any T = true := by
            rw [atL_some (by omega)]
            simpa using (hb k (by omega)).2 hq
          rw [h2, Bool.or_true, Bool.true_or]
        · have h3 : (notL (atL o ((i : Int) + (k : Int)))).any T = true := by
            rw [show ((i : Int) + (k : Int)) = ((i + k : Nat) : Int) from by omega, atL_some (by omega)]
            simp only [notL, List.any_cons, List.any_nil, Bool.or_false]
            rw [hnb _ (.inr (.inr (mem o (i + k) (by omega))))]
            have := ho (i + k) (by omega)
            cases e : T (o.getD (i + k) 0) with
            | true => have := this.1 e; omega
            | false => rfl
          rw [h3, Bool.or_true]
    · cases hc

theorem outs_getD {next : Int} {M j : Nat} (h : j < M) : (outsOf next M).getD j 0 = next + (j : Int) := by
  unfold outsOf
  simp [List.getD_eq_getElem?_getD, h]

theorem getD_app1 {A B : List Bool} {i : Nat} (h : i < A.length) : (A ++ B).getD i false = A.getD i false := by
  simp [List.getD_eq_getElem?_getD, List.getElem?_append_left h]
theorem getD_app2 {A B : List Bool} (i : Nat) : (A ++ B).getD (A.length + i) false = B.getD i false := by
  simp [List.getD_eq_getElem?_getD, List.getElem?_append_right (Nat.le_add_right A.length i)]
theorem getD_rng {M j : Nat} {f : Nat → Bool} (h : j < M) : ((List.range M).map f).getD j false = f j := by
  simp [List.getD_eq_getElem?_getD, h]

theorem cnt_uniq {T : Int → Bool} {most : Int} (hm : 1 ≤ most) : ∀ f (s : TS) (l : List Int), 1 ≤ l.length → l.length ≤ f → l.length ≤ 40 → s.full = false → 1 ≤ s.next → s.next ≤ 65537 → (∀ x ∈ l, Gd s.next x) → (∀ c ∈ s.cs, ∀ x ∈ c, Gd s.next x) → (cnt most f s l).2.full = false →
    (∀ x, Gd (cnt most f s l).2.next x → T (wrap64 (-x)) = !(T x)) → (∀ c ∈ s.cs, c.any T = true) →
    ((∀ c ∈ (cnt most f s l).2.cs, c.any T = true) ↔ ∀ i, i < (idl T most f l).length → T (s.next + (i : Int)) = (idl T most f l).getD i false) ∧ ((∀ i, i < (idl T most f l).length → T (s.next + (i : Int)) = (idl T most f l).getD i false) → Una T most (cnt most f s l).1 l) := by
  intro f
  induction f with
  | zero => intro s l h1 h2; omega
  | succ f ih =>
    intro s l h1 h2 h3 hs hn1 hn2 hl hcs hend hT hold0
    by_cases h : l.length = 1
    · have hu := (cnt_una (T := T) hm (f + 1) s l h1 h2 h3 hs hn1 hn2 hl hcs hend hT (by rw [cnt_stop (.inl h)]; exact hold0)).1
      rw [idl, if_pos h]
      refine ⟨⟨fun _ i hi => (by cases hi), fun _ => by rw [cnt_stop (.inl h)]; exact hold0⟩, fun _ => hu⟩
    have hno : ¬ (l.length = 1 ∨ s.full = true) := by
      rintro (e | e)
      · exact h e
      · rw [hs] at e
        cases e
    have hG := cnt_gd hm (f + 1) s l h1 h2 h3 hs hn1 hn2 hl hcs hend
    have t1 : (l.take (l.length / 2)).length = l.length / 2 := by rw [List.length_take]; omega
    have t2 : (l.drop (l.length / 2)).length = l.length - l.length / 2 := List.length_drop
    obtain ⟨r1, hr1⟩ : ∃ r1, cnt most f s (l.take (l.length / 2)) = r1 := ⟨_, rfl⟩
    obtain ⟨r2, hr2⟩ : ∃ r2, cnt most f r1.2 (l.drop (l.length / 2)) = r2 := ⟨_, rfl⟩
    have hstep := cnt_next_step hno hr1 hr2
    have hM1 := manyOf_ge (most := most) hm h1
    obtain ⟨M, hM⟩ : ∃ M : Nat, manyOf l.length most = M := ⟨(manyOf l.length most).toNat, by omega⟩
    have g1 : ¬ (r2.2.full = true ∨ 65537 < r2.2.next + (M : Int)) := fun e => by
      rw [hM, if_pos e] at hstep
      rw [hstep] at hend
      cases hend
    rw [hM, Int.toNat_natCast, if_neg g1] at hstep
    have f2 : r2.2.full = false := by
      cases e : r2.2.full with
      | true => exact (g1 (.inl e)).elim
      | false => rfl
    have f1 : r1.2.full = false := by
      cases e : r1.2.full with
      | true =>
        have := cnt_full' (most := most) (f := f) (l := l.drop (l.length / 2)) e
        rw [hr2, f2] at this
        cases this
      | false => rfl
    have bn1 := cnt_next hm f s (l.take (l.length / 2)) hn1 hn2 (by omega) (by omega)
    rw [hr1] at bn1
    have bn2 := cnt_next hm f r1.2 (l.drop (l.length / 2)) (by omega) (by omega) (by omega) (by omega)
    rw [hr2] at bn2
    have v1 := cnt_vars hm f s (l.take (l.length / 2)) (by omega) (by omega) (by omega) hs hn2
    rw [hr1, t1] at v1
    have n1 : r1.2.next = s.next + Vf most f (l.length / 2) := by
      by_cases c : s.next + Vf most f (l.length / 2) ≤ 65537
      · exact (v1.1 c).2
      · rw [v1.2 (by omega)] at f1; cases f1
    have v2 := cnt_vars hm f r1.2 (l.drop (l.length / 2)) (by omega) (by omega) (by omega) f1 (by omega)
    rw [hr2, t2] at v2
    have n2 : r2.2.next = r1.2.next + Vf most f (l.length - l.length / 2) := by
      by_cases c : r1.2.next + Vf most f (l.length - l.length / 2) ≤ 65537
      · exact (v2.1 c).2
      · rw [v2.2 (by omega)] at f2; cases f2
    have i1 := cnt_gd hm f s (l.take (l.length / 2)) (by omega) (by omega) (by omega) hs hn1 hn2 (fun x hx => hl x (List.mem_of_mem_take hx)) hcs (by rw [hr1]; exact f1)
    rw [hr1] at i1
    have i2 := cnt_gd hm f r1.2 (l.drop (l.length / 2)) (by omega) (by omega) (by omega) f1 (by omega) (by omega) (fun x hx => (hl x (List.mem_of_mem_drop hx)).mono i1.1) i1.2.2 (by rw [hr2]; exact f2)
    rw [hr2] at i2
    have hT' : ∀ x, Gd (r2.2.next + M) x → T (wrap64 (-x)) = !(T x) := by rw [hstep] at hT; exact hT
    have L1 := idl_len (T := T) hm f (l.take (l.length / 2)) (by omega) (by omega)
    have L2 := idl_len (T := T) hm f (l.drop (l.length / 2)) (by omega) (by omega)
    rw [t1] at L1
    rw [t2] at L2
    obtain ⟨D1, hD1⟩ : ∃ D1, idl T most f (l.take (l.length / 2)) = D1 := ⟨_, rfl⟩
    obtain ⟨D2, hD2⟩ : ∃ D2, idl T most f (l.drop (l.length / 2)) = D2 := ⟨_, rfl⟩
    have hI : idl T most (f + 1) l = D1 ++ D2 ++ (List.range M).map (fun j => decide (j < l.countP T)) := by
      rw [idl, if_neg h, hD1, hD2, hM, Int.toNat_natCast]
    rw [hD1] at L1
    rw [hD2] at L2
    obtain ⟨j1, u1⟩ := ih s (l.take (l.length / 2)) (by omega) (by omega) (by omega) hs hn1 hn2 (fun x hx => hl x (List.mem_of_mem_take hx)) hcs (by rw [hr1]; exact f1) (by rw [hr1]; exact fun x hx => hT' x (hx.mono (by omega))) hold0
    rw [hr1, hD1] at j1 u1
    have cp := List.countP_le_length (p := T) (l := l.take (l.length / 2))
    have cq := List.countP_le_length (p := T) (l := l.drop (l.length / 2))
    rw [t1] at cp
    rw [t2] at cq
    have hsum : l.countP T = (l.take (l.length / 2)).countP T + (l.drop (l.length / 2)).countP T := by rw [← List.countP_append, List.take_append_drop]
    have mm : ∀ n : Nat, manyOf n most = if most < (n : Int) then most else (n : Int) := fun n => rfl
    have hM' := hM
    rw [mm] at hM'
    -- the parts of the list
    have part : (∀ i, i < (idl T most (f + 1) l).length → T (s.next + (i : Int)) = (idl T most (f + 1) l).getD i false) ↔
        (∀ i, i < D1.length → T (s.next + (i : Int)) = D1.getD i false) ∧ (∀ i, i < D2.length → T (r1.2.next + (i : Int)) = D2.getD i false) ∧ (∀ j, j < M → T (r2.2.next + (j : Int)) = decide (j < l.countP T)) := by
      rw [hI]
      constructor
      · intro hall
        refine ⟨fun i hi => ?_, fun i hi => ?_, fun j hj => ?_⟩
        · have := hall i (by simp only [List.length_append]; omega)
          rw [this, List.append_assoc, getD_app1 hi]
        · have := hall (D1.length + i) (by simp only [List.length_append]; omega)
          rw [show r1.2.next + (i : Int) = s.next + ((D1.length + i : Nat) : Int) from by omega, this, List.append_assoc, getD_app2, getD_app1 hi]
        · have := hall ((D1 ++ D2).length + j) (by simp only [List.length_append, List.length_map, List.length_range]; omega)
          rw [show r2.2.next + (j : Int) = s.next + (((D1 ++ D2).length + j : Nat) : Int) from by rw [List.length_append]; omega, this, getD_app2, getD_rng hj]
      · rintro ⟨p1, p2, p3⟩ i hi
        simp only [List.length_append, List.length_map, List.length_range] at hi
        by_cases c1 : i < D1.length
        · rw [p1 i c1, List.append_assoc, getD_app1 c1]
        · by_cases c2 : i < D1.length + D2.length
          · obtain ⟨q, rfl⟩ : ∃ q, i = D1.length + q := ⟨i - D1.length, by omega⟩
            rw [show s.next + ((D1.length + q : Nat) : Int) = r1.2.next + (q : Int) from by omega, p2 q (by omega), List.append_assoc, getD_app2, getD_app1 (by omega)]
          · obtain ⟨q, rfl⟩ : ∃ q, i = (D1 ++ D2).length + q := ⟨i - (D1 ++ D2).length, by rw [List.length_append]; omega⟩
            have hL : (D1 ++ D2).length = D1.length + D2.length := List.length_append
            rw [show s.next + (((D1 ++ D2).length + q : Nat) : Int) = r2.2.next + (q : Int) from by omega, p3 q (by omega), getD_app2, getD_rng (by omega)]
    have hcsr : (cnt most (f + 1) s l).2.cs = r2.2.cs ++ mergeTo r1.1 r2.1 (outsOf r2.2.next M) M (r1.1.length + 1) := by rw [hstep]
    have hor : (cnt most (f + 1) s l).1 = outsOf r2.2.next M := by rw [hstep]
    have ho := hG.2.1
    rw [hor, hstep] at ho
    have outsCount : (∀ j, j < M → T (r2.2.next + (j : Int)) = decide (j < l.countP T)) ↔ ∀ j, j < M → (T ((outsOf r2.2.next M).getD j 0) = true ↔ j < l.countP T) := by
      constructor
      · intro h4 j hj
        rw [outs_getD hj, h4 j hj, decide_eq_true_iff]
      · intro h4 j hj
        have := h4 j hj
        rw [outs_getD hj] at this
        rw [Bool.eq_iff_iff, this, decide_eq_true_iff]
    have una : (∀ j, j < M → T (r2.2.next + (j : Int)) = decide (j < l.countP T)) → Una T most (cnt most (f + 1) s l).1 l := fun h4 => by
      rw [hor]
      exact ⟨by rw [outsOf_length, hM], fun j hj => outsCount.1 h4 j (by rwa [outsOf_length] at hj)⟩
    refine ⟨?_, fun hall => una (part.1 hall).2.2⟩
    rw [part, hcsr]
    constructor
    · intro hold
      have c2 : ∀ c ∈ r2.2.cs, c.any T = true := fun c hc => hold c (List.mem_append_left _ hc)
      have hu2 := cnt_una (T := T) hm f r1.2 (l.drop (l.length / 2)) (by omega) (by omega) (by omega) f1 (by omega) (by omega) (fun x hx => (hl x (List.mem_of_mem_drop hx)).mono i1.1) i1.2.2 (by rw [hr2]; exact f2)
        (by rw [hr2]; exact fun x hx => hT' x (hx.mono (by omega))) (by rw [hr2]; exact c2)
      obtain ⟨j2, u2⟩ := ih r1.2 (l.drop (l.length / 2)) (by omega) (by omega) (by omega) f1 (by omega) (by omega) (fun x hx => (hl x (List.mem_of_mem_drop hx)).mono i1.1) i1.2.2 (by rw [hr2]; exact f2)
        (by rw [hr2]; exact fun x hx => hT' x (hx.mono (by omega))) hu2.2
      rw [hr2, hD2] at j2 u2
      have hall := cnt_una (T := T) hm (f + 1) s l h1 h2 h3 hs hn1 hn2 hl hcs hend hT (by rw [hcsr]; exact hold)
      have huo := hall.1.2
      rw [hor, outsOf_length] at huo
      exact ⟨j1.1 hu2.2, j2.1 c2, outsCount.2 huo⟩
    · rintro ⟨p1, p2, p3⟩ c hc
      have c1 := j1.2 p1
      obtain ⟨j2, u2⟩ := ih r1.2 (l.drop (l.length / 2)) (by omega) (by omega) (by omega) f1 (by omega) (by omega) (fun x hx => (hl x (List.mem_of_mem_drop hx)).mono i1.1) i1.2.2 (by rw [hr2]; exact f2)
        (by rw [hr2]; exact fun x hx => hT' x (hx.mono (by omega))) c1
      rw [hr2, hD2] at j2 u2
      rcases List.mem_append.1 hc with hc | hc
      · exact j2.2 p2 c hc
      · obtain ⟨ul1, ua⟩ := u1 p1
        obtain ⟨ul2, ub⟩ := u2 p2
        rw [t1, mm] at ul1
        rw [t2, mm] at ul2
        refine merge_holds (T := T) (a := r1.1) (b := r2.1) (o := outsOf r2.2.next M) (M := M) (outsOf_length _ _) ua ub (fun j hj => by rw [← hsum]; exact outsCount.1 p3 j hj) ?_ ?_ ?_ c hc
        · rintro x (hx | hx | hx)
          · exact hT' x ((i1.2.1 x hx).mono (by omega))
          · exact hT' x ((i2.2.1 x hx).mono (by omega))
          · exact hT' x (ho x hx)
        · split at ul1 <;> split at hM' <;> omega
        · split at ul2 <;> split at hM' <;> omega

#print axioms cnt_uniq

end Go.Proofs.Ytdkfhpgbiohhoaa.G
