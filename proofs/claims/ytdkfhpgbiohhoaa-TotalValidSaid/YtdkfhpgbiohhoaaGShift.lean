/-
  A larger first variable shifts what total.Total makes, in plain Lean.
-/
import Derived.Test.YtdkfhpgbiohhoaaGRefPure
import Derived.Test.YtdkfhpgbiohhoaaGTotal
namespace Go.Proofs.Ytdkfhpgbiohhoaa.G
open Go.RowKit Go.Proofs.YtdkfhpgbiohhoaaW.PrintWords Go.Proofs.YtdkfhpgbiohhoaaW.PrintLast Go.Proofs.YtdkfhpgbiohhoaaW.PrintMore

/-- A literal, its variable shifted by d if it is n or more. -/
def mu (n d x : Int) : Int := if n ≤ x then x + d else if n ≤ -x then x - d else x
/-- Small enough that no negation wraps. -/
def Bd (x : Int) : Prop := -70000 ≤ x ∧ x ≤ 70000

theorem mu_neg {n d x : Int} (hn : 1 ≤ n) : mu n d (-x) = -(mu n d x) := by unfold mu; split <;> split <;> (try split) <;> omega
theorem mu_small {n d x : Int} (h1 : -n < x) (h2 : x < n) : mu n d x = x := by unfold mu; rw [if_neg (by omega), if_neg (by omega)]
theorem mu_id {n d : Int} {l : List Int} (h : ∀ x ∈ l, -n < x ∧ x < n) : l.map (mu n d) = l := by
  have e : l.map (mu n d) = l.map id := List.map_congr_left (fun x hx => mu_small (h x hx).1 (h x hx).2)
  rw [e, List.map_id]

theorem notL_map {n d : Int} (hn : 1 ≤ n) (hd : 0 ≤ d ∧ d ≤ 255) {l : List Int} (h : ∀ x ∈ l, Bd x) : notL (l.map (mu n d)) = (notL l).map (mu n d) := by
  cases l with
  | nil => rfl
  | cons x l =>
    have hx := h x (by simp)
    unfold Bd at hx
    have e1 : wrap64 (-x) = -x := by unfold wrap64; omega
    have e2 : wrap64 (-(mu n d x)) = -(mu n d x) := by
      have : -80000 ≤ mu n d x ∧ mu n d x ≤ 80000 := by unfold mu; split <;> (try split) <;> omega
      unfold wrap64; omega
    simp only [List.map_cons, notL, List.map_nil, e1, e2, mu_neg hn]
theorem atL_map (f : Int → Int) (l : List Int) (j : Int) : atL (l.map f) j = (atL l j).map f := by
  unfold atL
  rw [List.length_map]
  by_cases h : 0 ≤ j ∧ j < (l.length : Int)
  · rw [if_pos h, if_pos h]
    have hl : j.toNat < l.length := by omega
    simp [List.getD_eq_getElem?_getD, hl]
  · rw [if_neg h, if_neg h]
    rfl
theorem atL_bd {l : List Int} (h : ∀ x ∈ l, Bd x) (j : Int) : ∀ x ∈ atL l j, Bd x := by
  intro x hx
  unfold atL at hx
  split at hx
  · rename_i hj
    rw [List.mem_singleton] at hx
    have hl : j.toNat < l.length := by omega
    subst hx
    exact h _ (by simp [List.getD_eq_getElem?_getD, hl])
  · cases hx
theorem notL_bd {l : List Int} (h : ∀ x ∈ l, Bd x) : ∀ x ∈ notL l, Bd x := by
  intro x hx
  cases l with
  | nil => cases hx
  | cons y l =>
    have hy := h y (by simp)
    unfold notL at hx
    rw [List.mem_singleton] at hx
    subst hx
    unfold Bd wrap64 at *
    omega

section
variable {n d : Int} {a b o : List Int}
theorem upC_map (hn : 1 ≤ n) (hd : 0 ≤ d ∧ d ≤ 255) (ha : ∀ x ∈ a, Bd x) (hb : ∀ x ∈ b, Bd x) (i k : Nat) : upC (a.map (mu n d)) (b.map (mu n d)) (o.map (mu n d)) i k = (upC a b o i k).map (mu n d) := by
  unfold upC
  simp only [atL_map, List.map_append]
  rw [notL_map hn hd (atL_bd ha _), notL_map hn hd (atL_bd hb _)]
theorem downC_map (hn : 1 ≤ n) (hd : 0 ≤ d ∧ d ≤ 255) (ho : ∀ x ∈ o, Bd x) (i k : Nat) : downC (a.map (mu n d)) (b.map (mu n d)) (o.map (mu n d)) i k = (downC a b o i k).map (mu n d) := by
  unfold downC
  simp only [atL_map, List.map_append]
  rw [notL_map hn hd (atL_bd ho _)]
theorem pairC_map (hn : 1 ≤ n) (hd : 0 ≤ d ∧ d ≤ 255) (ha : ∀ x ∈ a, Bd x) (hb : ∀ x ∈ b, Bd x) (ho : ∀ x ∈ o, Bd x) (many i k : Nat) : pairC (a.map (mu n d)) (b.map (mu n d)) (o.map (mu n d)) many i k = (pairC a b o many i k).map (List.map (mu n d)) := by
  unfold pairC
  rw [upC_map hn hd ha hb, downC_map hn hd ho, List.map_append]
  congr 1
  · split <;> rfl
  · split <;> rfl
theorem mergeTo_map (hn : 1 ≤ n) (hd : 0 ≤ d ∧ d ≤ 255) (ha : ∀ x ∈ a, Bd x) (hb : ∀ x ∈ b, Bd x) (ho : ∀ x ∈ o, Bd x) (many i : Nat) : mergeTo (a.map (mu n d)) (b.map (mu n d)) (o.map (mu n d)) many i = (mergeTo a b o many i).map (List.map (mu n d)) := by
  unfold mergeTo rowTo
  have e : ∀ j, pairC (a.map (mu n d)) (b.map (mu n d)) (o.map (mu n d)) many j = fun k => (pairC a b o many j k).map (List.map (mu n d)) := fun j => funext fun k => pairC_map hn hd ha hb ho many j k
  simp only [List.length_map, List.map_flatMap, e]
theorem pairC_bd (ha : ∀ x ∈ a, Bd x) (hb : ∀ x ∈ b, Bd x) (ho : ∀ x ∈ o, Bd x) (many i k : Nat) : ∀ c ∈ pairC a b o many i k, ∀ x ∈ c, Bd x := by
  intro c hc x hx
  unfold pairC at hc
  rcases List.mem_append.1 hc with hc | hc
  · split at hc
    · rw [List.mem_singleton] at hc
      subst hc
      unfold upC at hx
      simp only [List.mem_append] at hx
      rcases hx with (hx | hx) | hx
      · exact notL_bd (atL_bd ha _) x hx
      · exact notL_bd (atL_bd hb _) x hx
      · exact atL_bd ho _ x hx
    · cases hc
  · split at hc
    · rw [List.mem_singleton] at hc
      subst hc
      unfold downC at hx
      simp only [List.mem_append] at hx
      rcases hx with (hx | hx) | hx
      · exact atL_bd ha _ x hx
      · exact atL_bd hb _ x hx
      · exact notL_bd (atL_bd ho _) x hx
    · cases hc
theorem mergeTo_bd (ha : ∀ x ∈ a, Bd x) (hb : ∀ x ∈ b, Bd x) (ho : ∀ x ∈ o, Bd x) (many i : Nat) : ∀ c ∈ mergeTo a b o many i, ∀ x ∈ c, Bd x := by
  intro c hc
  unfold mergeTo rowTo at hc
  obtain ⟨j, _, hc⟩ := List.mem_flatMap.1 hc
  obtain ⟨k, _, hc⟩ := List.mem_flatMap.1 hc
  exact pairC_bd ha hb ho many j k c hc
end

theorem outsOf_map {n d next : Int} (hn : n ≤ next) (many : Nat) : outsOf (next + d) many = (outsOf next many).map (mu n d) := by
  unfold outsOf
  rw [List.map_map]
  apply List.map_congr_left
  intro j _
  show next + d + (j : Int) = mu n d (next + (j : Int))
  unfold mu
  rw [if_pos (by omega)]
  omega
theorem outsOf_bd {next : Int} {many : Nat} (h1 : 1 ≤ next) (h2 : next ≤ 65537) (h3 : many ≤ 40) : ∀ x ∈ outsOf next many, Bd x := by
  intro x hx
  unfold outsOf at hx
  obtain ⟨j, hj, rfl⟩ := List.mem_map.1 hx
  have := List.mem_range.1 hj
  unfold Bd
  omega

/-- The state, shifted. -/
def TS.sh (n d : Int) (s : TS) : TS := ⟨s.next + d, s.full, s.cs.map (List.map (mu n d))⟩

theorem cnt_shift {most n d : Int} (hm : 1 ≤ most) (hn : 1 ≤ n) (hn2 : n ≤ 65537) (hd : 0 ≤ d ∧ d ≤ 255) : ∀ f (s : TS) (l : List Int), 1 ≤ l.length → l.length ≤ f → l.length ≤ 40 → s.full = false → n ≤ s.next → s.next + d + Vf most f l.length ≤ 65537 → (∀ x ∈ l, -n < x ∧ x < n) → (∀ c ∈ s.cs, ∀ x ∈ c, Bd x) →
    cnt most f (s.sh n d) l = ((cnt most f s l).1.map (mu n d), (cnt most f s l).2.sh n d) ∧ (∀ x ∈ (cnt most f s l).1, Bd x) ∧ (∀ c ∈ (cnt most f s l).2.cs, ∀ x ∈ c, Bd x) := by
  intro f
  induction f with
  | zero => intro s l h1 h2; omega
  | succ f ih =>
    intro s l h1 h2 h3 hs hns hb hl hcs
    have hlb : ∀ x ∈ l, Bd x := fun x hx => by have := hl x hx; unfold Bd; omega
    by_cases h : l.length = 1
    · rw [cnt_stop (.inl h), cnt_stop (.inl h)]
      exact ⟨by rw [mu_id hl], hlb, hcs⟩
    have hno : ¬ (l.length = 1 ∨ s.full = true) := by
      rintro (e | e)
      · exact h e
      · rw [hs] at e
        cases e
    rw [Vf, if_neg h] at hb
    have t1 : (l.take (l.length / 2)).length = l.length / 2 := by rw [List.length_take]; omega
    have t2 : (l.drop (l.length / 2)).length = l.length - l.length / 2 := List.length_drop
    have b1 := Vf_bound hm f (l.length / 2) (by omega) (by omega) (by omega)
    have b2 := Vf_bound hm f (l.length - l.length / 2) (by omega) (by omega) (by omega)
    have b4 := manyOf_ge (most := most) hm h1
    have b5 := manyOf_le l.length most
    obtain ⟨r1, hr1⟩ : ∃ r1, cnt most f s (l.take (l.length / 2)) = r1 := ⟨_, rfl⟩
    obtain ⟨r2, hr2⟩ : ∃ r2, cnt most f r1.2 (l.drop (l.length / 2)) = r2 := ⟨_, rfl⟩
    have v1 := (cnt_vars hm f s (l.take (l.length / 2)) (by omega) (by omega) (by omega) hs (by omega)).1
    rw [t1, hr1] at v1
    obtain ⟨f1, n1⟩ := v1 (by omega)
    have v2 := (cnt_vars hm f r1.2 (l.drop (l.length / 2)) (by omega) (by omega) (by omega) f1 (by omega)).1
    rw [t2, hr2] at v2
    obtain ⟨f2, n2⟩ := v2 (by omega)
    obtain ⟨e1, x1, c1⟩ := ih s (l.take (l.length / 2)) (by omega) (by omega) (by omega) hs hns (by rw [t1]; omega) (fun x hx => hl x (List.mem_of_mem_take hx)) hcs
    rw [hr1] at e1 x1 c1
    obtain ⟨e2, x2, c2⟩ := ih r1.2 (l.drop (l.length / 2)) (by omega) (by omega) (by omega) f1 (by omega) (by rw [t2]; omega) (fun x hx => hl x (List.mem_of_mem_drop hx)) c1
    rw [hr2] at e2 x2 c2
    obtain ⟨M, hM⟩ : ∃ M : Nat, manyOf l.length most = M := ⟨(manyOf l.length most).toNat, by omega⟩
    have hx := outsOf_bd (next := r2.2.next) (many := M) (by omega) (by omega) (by omega)
    have g1 : ¬ (r2.2.full = true ∨ 65537 < r2.2.next + (M : Int)) := by
      rintro (e | e)
      · rw [f2] at e; cases e
      · omega
    have g2 : ¬ ((r2.2.sh n d).full = true ∨ 65537 < (r2.2.sh n d).next + (M : Int)) := by
      rintro (e | e)
      · rw [show (r2.2.sh n d).full = r2.2.full from rfl, f2] at e; cases e
      · rw [show (r2.2.sh n d).next = r2.2.next + d from rfl] at e; omega
    rw [cnt_next_step hno hr1 hr2, cnt_next_step (r1 := (r1.1.map (mu n d), r1.2.sh n d)) (r2 := (r2.1.map (mu n d), r2.2.sh n d)) (s := s.sh n d) hno e1 e2]
    rw [hM, Int.toNat_natCast, if_neg g1, if_neg g2]
    refine ⟨?_, hx, ?_⟩
    · have eo := outsOf_map (n := n) (d := d) (next := r2.2.next) (by omega) M
      have em := mergeTo_map hn hd x1 x2 hx M (r1.1.length + 1)
      simp only [TS.sh, List.length_map, List.map_append]
      rw [eo, em]
      congr 2
      omega
    · intro c hc
      rcases List.mem_append.1 hc with hc | hc
      · exact c2 c hc
      · exact mergeTo_bd x1 x2 hx _ _ c hc

theorem apartFrom_mono {n m : Int} (h : n ≤ m) : ∀ (l : List Int) (S : Int → Bool), apartFrom n S l = true → apartFrom m S l = true := by
  intro l
  induction l with
  | nil => intro S _; rfl
  | cons x l ih =>
    intro S hx
    simp only [apartFrom] at hx ⊢
    split at hx
    · cases hx
    split at hx
    · cases hx
    split at hx
    · cases hx
    rename_i h1 h2 h3
    rw [if_neg h1, if_neg (by omega), if_neg h3]
    exact ih _ hx
theorem apartFrom_small {n : Int} : ∀ (l : List Int) (S : Int → Bool), (∀ x ∈ l, (Lit.int .i64 x).wf = true) → apartFrom n S l = true → ∀ x ∈ l, -n < x ∧ x < n := by
  intro l
  induction l with
  | nil => intro S _ _ x hx; cases hx
  | cons y l ih =>
    intro S hw hx x hm
    simp only [apartFrom] at hx
    split at hx
    · cases hx
    split at hx
    · cases hx
    split at hx
    · cases hx
    rename_i h1 h2 h3
    rcases List.mem_cons.1 hm with rfl | hm
    · have hmin : IntKind.i64.min = -9223372036854775808 := rfl
      have hmax : IntKind.i64.max = 9223372036854775807 := rfl
      have hxw := hw x (by simp)
      simp only [Lit.wf, Bool.and_eq_true, decide_eq_true_eq] at hxw
      unfold vabs wrap64 at h1 h2
      split at h1 <;> omega
    · exact ih _ (fun z hz => hw z (by simp [hz])) hx x hm

theorem totalOf_shift {l : List Int} {most next d : Int} (hl : l.length ≤ 20) (hw : ∀ x ∈ l, (Lit.int .i64 x).wf = true) (h1 : 1 ≤ next) (h2 : next ≤ 2000) (hd : 0 ≤ d ∧ d ≤ 255) (h0 : (totalOf l most next).2.2.2 = 0) :
    totalOf l most (next + d) = ((totalOf l most next).1.map (mu next d), (totalOf l most next).2.1.map (List.map (mu next d)), (totalOf l most next).2.2.1 + d, 0) ∧ (∀ x ∈ (totalOf l most next).1, Bd x) ∧ (∀ c ∈ (totalOf l most next).2.1, ∀ x ∈ c, Bd x) := by
  unfold totalOf at h0 ⊢
  by_cases c1 : next < 1 ∨ 65537 < next ∨ most < 0 ∨ 1099511627776 < most
  · rw [if_pos c1] at h0; cases h0
  rw [if_neg c1] at h0 ⊢
  rw [if_neg (show ¬ (next + d < 1 ∨ 65537 < next + d ∨ most < 0 ∨ 1099511627776 < most) by omega)]
  by_cases c2 : apartB l next = false
  · rw [if_pos c2] at h0; cases h0
  rw [if_neg c2] at h0 ⊢
  have c2' : apartB l next = true := by simpa using c2
  have c3 : apartB l (next + d) = true := apartFrom_mono (by omega) l _ c2'
  rw [if_neg (by rw [c3]; decide)]
  by_cases c4 : l.length = 0 ∨ most = 0
  · rw [if_pos c4, if_pos c4]
    exact ⟨rfl, fun x hx => (by cases hx), fun x hx => (by cases hx)⟩
  rw [if_neg c4] at h0 ⊢
  rw [if_neg c4]
  have hm : 1 ≤ most := by omega
  have hlen : 1 ≤ l.length := by omega
  have vb := Vf_bound hm l.length l.length hlen (Nat.le_refl _) (by omega)
  have v := (cnt_vars hm l.length ⟨next, false, []⟩ l hlen (Nat.le_refl _) (by omega) rfl (by show next ≤ 65537; omega)).1 (by show next + _ ≤ 65537; omega)
  obtain ⟨e1, x1, k1⟩ := cnt_shift (n := next) (d := d) hm h1 (by omega) hd l.length ⟨next, false, []⟩ l hlen (Nat.le_refl _) (by omega) rfl (Int.le_refl _) (by show next + d + _ ≤ 65537; omega) (apartFrom_small l _ hw c2') (fun c hc => by cases hc)
  unfold mainS
  have e0 : (⟨next + d, false, []⟩ : TS) = TS.sh next d ⟨next, false, []⟩ := rfl
  rw [e0, e1]
  dsimp only
  have f1 : (cnt most l.length ⟨next, false, []⟩ l).2.full = false := v.1
  have f2 : ¬ (TS.sh next d (cnt most l.length ⟨next, false, []⟩ l).2).full = true := by
    show ¬ (cnt most l.length ⟨next, false, []⟩ l).2.full = true
    rw [f1]; decide
  have f3 : ¬ (cnt most l.length ⟨next, false, []⟩ l).2.full = true := by rw [f1]; decide
  rw [if_neg f2, if_neg f3]
  exact ⟨rfl, x1, k1⟩

#print axioms totalOf_shift

end Go.Proofs.Ytdkfhpgbiohhoaa.G
