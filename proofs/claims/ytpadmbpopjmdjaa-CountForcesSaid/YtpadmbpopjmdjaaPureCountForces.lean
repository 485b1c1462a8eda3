/-
  The plain law of CountForces: unit propagation over the clauses of Least comes to a conflict exactly if fewer than k literals are true.
-/
import Derived.Test.YtpadmbpopjmdjaaQFox2
import Derived.Test.YtpadmbpopjmdjaaGForce
namespace Go.Proofs.Ytpadmbpopjmdjaa.Pure
set_option linter.unusedVariables false
set_option linter.unusedSimpArgs false
open Go.RowKit Go.Proofs.Ytpadmbpopjmdjaa.QFo Go.Proofs.YtpadmbpopjmdjaaW.PrintWords Go.Proofs.YtpadmbpopjmdjaaW.PrintLast
open G (Gr tv Hold cntT tl asg opn stepC pass Val rg sm crow crows cl1 cl2 cl12)

/-- What is known at the start: the variables of the assignment alone. -/
def Init (y : List Bool) (A : Nat) (t : List Int) : Prop := t.length = A ∧ ∀ v, t.getD v 0 = if v < y.length then (if y.getD v false = true then 1 else -1) else 0
theorem Init.val {y A t} (h : Init y A t) : Val t := by intro v; rw [h.2 v]; split <;> (try split) <;> simp

/-! Enough literals are true: what is known agrees with a satisfying assignment. -/
def Agr (b : List Bool) (A : Nat) (t : List Int) : Prop := Val t ∧ t.length = A ∧ ∀ v, t.getD v 0 ≠ 0 → t.getD v 0 = if b.getD v false = true then 1 else -1
theorem Agr.lit {b A t x} (h : Agr b A t) : tl t x = 0 ∨ tl t x = if tv b x = true then 1 else -1 := by
  unfold tl tv
  by_cases hs : x < 0
  · rw [if_pos hs, if_pos hs]
    by_cases h0 : t.getD (-x).toNat 0 = 0
    · exact .inl (by omega)
    · rw [h.2.2 _ h0]
      cases b.getD (-x).toNat false <;> simp
  · rw [if_neg hs, if_neg hs]
    by_cases h0 : t.getD x.toNat 0 = 0
    · exact .inl h0
    · exact .inr (h.2.2 _ h0)
theorem Agr.step {b A t c} (h : Agr b A t) (hg : ∀ x ∈ c, Gr (A : Int) x) (hc : Hold b c) : ∃ r, stepC t c = some r ∧ Agr b A r.1 := by
  obtain ⟨x, hx, hxt⟩ := hc
  unfold stepC
  by_cases ha : c.any (fun x => tl t x == 1) = true
  · rw [if_pos ha]; exact ⟨_, rfl, h⟩
  rw [if_neg ha]
  have hx0 : tl t x = 0 := by
    rcases h.lit (x := x) with e | e
    · exact e
    · rw [if_pos hxt] at e
      exact (ha (List.any_eq_true.2 ⟨x, hx, by rw [e]; rfl⟩)).elim
  have hm : x ∈ opn t c := List.mem_filter.2 ⟨hx, by rw [hx0]; rfl⟩
  match ho : opn t c, hm with
  | [], hm => cases hm
  | [y], hm =>
    obtain rfl : x = y := by simpa using hm
    refine ⟨_, rfl, G.asg_val h.1, (G.asg_len _ _).trans h.2.1, ?_⟩
    obtain ⟨g0, g1, g2⟩ := hg x hx
    intro v hv
    show (asg t x).getD v 0 = _
    change (asg t x).getD v 0 ≠ 0 at hv
    unfold asg at hv ⊢
    unfold tv at hxt
    by_cases hp : x > 0
    · rw [if_pos hp, G.getD_set] at hv ⊢
      rw [if_neg (by omega)] at hxt
      by_cases e : x.toNat = v ∧ v < t.length
      · rw [if_pos e, ← e.1, hxt]; rfl
      · rw [if_neg e] at hv ⊢; exact h.2.2 v hv
    · rw [if_neg hp, G.getD_set] at hv ⊢
      rw [if_pos (by omega)] at hxt
      by_cases e : (-x).toNat = v ∧ v < t.length
      · rw [if_pos e, ← e.1, show b.getD (-x).toNat false = false by simpa using hxt]; rfl
      · rw [if_neg e] at hv ⊢; exact h.2.2 v hv
  | y :: z :: w, _ => exact ⟨_, rfl, h⟩
theorem Init.agr {y e : List Bool} {A t} (h : Init y A t) : Agr (y ++ e) A t := by
  refine ⟨h.val, h.1, fun v hv => ?_⟩
  rw [h.2 v] at hv ⊢
  by_cases hl : v < y.length
  · rw [if_pos hl, show (y ++ e).getD v false = y.getD v false by simp only [List.getD_eq_getElem?_getD, List.getElem?_append_left hl]]
  · rw [if_neg hl] at hv; exact (hv rfl).elim

/-! Too few: the first pass makes the registers false row by row. -/
def InvA (y : List Bool) (l : List Int) (k A i j : Nat) (t : List Int) : Prop :=
  Val t ∧ t.length = A ∧ (∀ v, v < y.length → t.getD v 0 = if y.getD v false = true then 1 else -1) ∧
  ∀ i' j', i' < l.length → 1 ≤ j' → j' ≤ min (i' + 1) k → t.getD (rg (y.length : Int) k i' j').toNat 0 = if (i' < i ∨ (i' = i ∧ j' ≤ j)) ∧ cntT y l (i' + 1) < j' then -1 else 0

theorem InvA.next {y l k A i t} (h : InvA y l k A i (min (i + 1) k) t) : InvA y l k A (i + 1) 0 t := by
  refine ⟨h.1, h.2.1, h.2.2.1, fun i' j' a b c => ?_⟩
  rw [h.2.2.2 i' j' a b c]
  by_cases e : i' ≤ i
  · by_cases e2 : cntT y l (i' + 1) < j'
    · have h1 : i' < i ∨ (i' = i ∧ j' ≤ min (i + 1) k) := by
        by_cases h : i' < i
        · exact .inl h
        · obtain rfl : i' = i := by omega
          exact .inr ⟨rfl, c⟩
      rw [if_pos ⟨h1, e2⟩, if_pos ⟨.inl (by omega), e2⟩]
    · rw [if_neg (fun h => e2 h.2), if_neg (fun h => e2 h.2)]
  · rw [if_neg (by omega), if_neg (by omega)]

theorem tl_neg {t : List Int} {x : Int} (h : 0 < x) : tl t (-x) = -(t.getD x.toNat 0) := by unfold tl; rw [if_pos (by omega), Int.neg_neg]
theorem tl_pos {t : List Int} {x : Int} (h : 0 < x) : tl t x = t.getD x.toNat 0 := by unfold tl; rw [if_neg (by omega)]

theorem tl_y {y l k A i j t} (h : InvA y l k A i j t) {x : Int} (hx : Gr (y.length : Int) x) : tl t x = if tv y x = true then 1 else -1 := by
  obtain ⟨g0, g1, g2⟩ := hx
  unfold tl tv
  by_cases hs : x < 0
  · rw [if_pos hs, if_pos hs, h.2.2.1 _ (by omega)]
    cases y.getD (-x).toNat false <;> simp
  · rw [if_neg hs, if_neg hs, h.2.2.1 _ (by omega)]

theorem step_cl1 {next : Int} {k i j : Nat} {x : Int} {t : List Int} {P : Bool} {c : Nat} (hr : tl t (-(rg next k i j)) = 0) (hn : ¬ (rg next k i j) ≤ 0) (hx : tl t x = if P = true then 1 else -1)
    (hq : j ≤ min i k → tl t (rg next k (i - 1) j) = if c < j then -1 else 0) (hc : ¬ j ≤ min i k → c < j) :
    stepC t (cl1 next k i x j) = some (if P = true then (t, false) else if c < j then (t.set (rg next k i j).toNat (-1), true) else (t, false)) := by
  have ha : asg t (-(rg next k i j)) = t.set (rg next k i j).toNat (-1) := by unfold asg; rw [if_neg (by omega), Int.neg_neg]
  unfold cl1
  by_cases hj : j ≤ min i k
  · rw [if_pos hj]
    show stepC t [-(rg next k i j), rg next k (i - 1) j, x] = _
    have hq := hq hj
    unfold stepC opn
    cases P <;> by_cases h : c < j <;> simp [hr, hx, hq, h, ha]
  · rw [if_neg hj]
    show stepC t [-(rg next k i j), x] = _
    have h := hc hj
    unfold stepC opn
    cases P <;> simp [hr, hx, h, ha]

theorem step_cl2 {next : Int} {k i j : Nat} {t : List Int} {c : Nat} (hr : tl t (-(rg next k i (j + 1))) = 0) (hn : ¬ (rg next k i (j + 1)) ≤ 0)
    (hq : j + 1 ≤ min i k → tl t (rg next k (i - 1) (j + 1)) = if c < j + 1 then -1 else 0) (hp : tl t (rg next k (i - 1) j) = if c < j then -1 else 0) :
    stepC t (cl2 next k i (j + 1)) = some (if c < j then (t.set (rg next k i (j + 1)).toNat (-1), true) else (t, false)) := by
  have ha : asg t (-(rg next k i (j + 1))) = t.set (rg next k i (j + 1)).toNat (-1) := by unfold asg; rw [if_neg (by omega), Int.neg_neg]
  have e2 : next + (sm k (i - 1) : Int) + ((j + 1 : Nat) : Int) - 2 = rg next k (i - 1) j := by unfold rg; omega
  unfold cl2
  rw [e2]
  by_cases hj : j + 1 ≤ min i k
  · rw [if_pos hj]
    show stepC t [-(rg next k i (j + 1)), rg next k (i - 1) (j + 1), rg next k (i - 1) j] = _
    have hq := hq hj
    unfold stepC opn
    by_cases h : c < j
    · have h2 : c < j + 1 := by omega
      simp [hr, hq, hp, h, h2, ha]
    · by_cases h2 : c < j + 1 <;> simp [hr, hq, hp, h, h2, ha]
  · rw [if_neg hj]
    show stepC t [-(rg next k i (j + 1)), rg next k (i - 1) j] = _
    unfold stepC opn
    by_cases h : c < j <;> simp [hr, hp, h, ha]

/-- The clauses of one register. -/
theorem pass_cl12 {y : List Bool} {l : List Int} {k A i j : Nat} {t : List Int} {m : Bool} (hy : 1 ≤ y.length) (h : InvA y l k A i j t) (hi : i < l.length) (hj : j + 1 ≤ min (i + 1) k) (hx : Gr (y.length : Int) (l.getD i 0)) (hA : y.length + sm k l.length ≤ A) :
    ∃ t' m', pass (cl12 (y.length : Int) k i (l.getD i 0) (j + 1)) t m = some (t', m') ∧ InvA y l k A i (j + 1) t' := by
  obtain ⟨hv, hl, hb, hreg⟩ := h
  have h : InvA y l k A i j t := ⟨hv, hl, hb, hreg⟩
  have hs1 := G.sm_succ k i
  have hsm := G.sm_mono (k := k) (show i + 1 ≤ l.length by omega)
  have hrp : 0 < rg (y.length : Int) k i (j + 1) := G.rg_pos (by omega) (by omega)
  have hrA : (rg (y.length : Int) k i (j + 1)).toNat < A := by unfold rg; omega
  have hry : y.length ≤ (rg (y.length : Int) k i (j + 1)).toNat := by unfold rg; omega
  have hc1 := G.cntT_le y l i
  have hr : tl t (-(rg (y.length : Int) k i (j + 1))) = 0 := by
    rw [tl_neg hrp, hreg i (j + 1) hi (by omega) hj, if_neg (by omega)]; rfl
  have hxv := tl_y h hx
  have hq : j + 1 ≤ min i k → tl t (rg (y.length : Int) k (i - 1) (j + 1)) = if cntT y l i < j + 1 then -1 else 0 := fun hm => by
    rw [tl_pos (G.rg_pos (by omega) (by omega)), hreg (i - 1) (j + 1) (by omega) (by omega) (by omega), show i - 1 + 1 = i by omega]
    by_cases hc : cntT y l i < j + 1
    · rw [if_pos ⟨.inl (by omega), hc⟩, if_pos hc]
    · rw [if_neg (fun h => hc h.2), if_neg hc]
  have hp : 1 ≤ j → tl t (rg (y.length : Int) k (i - 1) j) = if cntT y l i < j then -1 else 0 := fun hm => by
    rw [tl_pos (G.rg_pos (by omega) (by omega)), hreg (i - 1) j (by omega) (by omega) (by omega), show i - 1 + 1 = i by omega]
    by_cases hc : cntT y l i < j
    · rw [if_pos ⟨.inl (by omega), hc⟩, if_pos hc]
    · rw [if_neg (fun h => hc h.2), if_neg hc]
  have hstep := G.cntT_step y l i
  -- both ends
  have hset : cntT y l (i + 1) < j + 1 → InvA y l k A i (j + 1) (t.set (rg (y.length : Int) k i (j + 1)).toNat (-1)) := fun hc => by
    refine ⟨?_, by rw [List.length_set]; exact hl, ?_, ?_⟩
    · intro v; rw [G.getD_set]; split
      · exact .inl rfl
      · exact hv v
    · intro v hvy; rw [G.getD_set, if_neg (by omega)]; exact hb v hvy
    · intro i' j' a1 a2 a3
      rw [G.getD_set]
      have q1 := G.sm_succ k i'
      by_cases e : i' = i ∧ j' = j + 1
      · obtain ⟨rfl, rfl⟩ := e
        rw [if_pos ⟨rfl, by omega⟩, if_pos ⟨.inr ⟨rfl, Nat.le_refl _⟩, hc⟩]
      · have hne : ¬ ((rg (y.length : Int) k i (j + 1)).toNat = (rg (y.length : Int) k i' j').toNat) := by
          intro hh
          unfold rg at hh
          rcases Nat.lt_trichotomy i' i with q | q | q
          · have := G.sm_mono (k := k) (show i' + 1 ≤ i by omega); omega
          · subst q; omega
          · have := G.sm_mono (k := k) (show i + 1 ≤ i' by omega); omega
        rw [if_neg (fun h => hne h.1), hreg i' j' a1 a2 a3]
        by_cases e2 : cntT y l (i' + 1) < j'
        · by_cases e3 : i' < i ∨ (i' = i ∧ j' ≤ j)
          · rw [if_pos ⟨e3, e2⟩, if_pos ⟨by omega, e2⟩]
          · rw [if_neg (fun h => e3 h.1), if_neg (by omega)]
        · rw [if_neg (fun h => e2 h.2), if_neg (fun h => e2 h.2)]
  have hstay : ¬ cntT y l (i + 1) < j + 1 → InvA y l k A i (j + 1) t := fun hc => by
    refine ⟨hv, hl, hb, fun i' j' a1 a2 a3 => ?_⟩
    rw [hreg i' j' a1 a2 a3]
    by_cases e2 : cntT y l (i' + 1) < j'
    · by_cases e3 : i' < i ∨ (i' = i ∧ j' ≤ j)
      · rw [if_pos ⟨e3, e2⟩, if_pos ⟨by omega, e2⟩]
      · rw [if_neg (fun h => e3 h.1)]
        by_cases e4 : i' = i ∧ j' = j + 1
        · obtain ⟨rfl, rfl⟩ := e4; exact (hc e2).elim
        · rw [if_neg (by omega)]
    · rw [if_neg (fun h => e2 h.2), if_neg (fun h => e2 h.2)]
  have s1 := step_cl1 (P := tv y (l.getD i 0)) (c := cntT y l i) hr (by omega) hxv hq (by omega)
  unfold cl12
  by_cases hj1 : 1 < j + 1
  · rw [if_pos hj1]
    show ∃ t' m', (stepC t (cl1 (y.length : Int) k i (l.getD i 0) (j + 1))).bind (fun r => (stepC r.1 (cl2 (y.length : Int) k i (j + 1))).bind fun r2 => some (r2.1, (m || r.2) || r2.2)) = some (t', m') ∧ _
    rw [s1]
    simp only [Option.bind_some]
    by_cases ht : tv y (l.getD i 0) = true
    · have hcc := G.cntT_true ht
      rw [if_pos ht, step_cl2 hr (by omega) hq (hp (by omega))]
      simp only [Option.bind_some]
      by_cases hc : cntT y l i < j
      · rw [if_pos hc]; exact ⟨_, _, rfl, hset (by omega)⟩
      · rw [if_neg hc]; exact ⟨_, _, rfl, hstay (by omega)⟩
    · have hcc := G.cntT_false (b := y) (l := l) (i := i) (by simpa using ht)
      rw [if_neg ht]
      by_cases hc : cntT y l i < j + 1
      · rw [if_pos hc]
        have e1 : tl (t.set (rg (y.length : Int) k i (j + 1)).toNat (-1)) (-(rg (y.length : Int) k i (j + 1))) = 1 := by
          rw [tl_neg hrp, G.getD_set, if_pos ⟨rfl, by omega⟩]; rfl
        have e2 : stepC (t.set (rg (y.length : Int) k i (j + 1)).toNat (-1)) (cl2 (y.length : Int) k i (j + 1)) = some (t.set (rg (y.length : Int) k i (j + 1)).toNat (-1), false) := by
          unfold stepC
          rw [if_pos]
          rw [List.any_eq_true]
          refine ⟨-(rg (y.length : Int) k i (j + 1)), ?_, by rw [e1]; rfl⟩
          unfold cl2
          split <;> exact List.mem_cons_self
        show ∃ t' m', (stepC (t.set (rg (y.length : Int) k i (j + 1)).toNat (-1)) (cl2 (y.length : Int) k i (j + 1))).bind _ = some (t', m') ∧ _
        rw [e2]
        exact ⟨_, _, rfl, hset (by omega)⟩
      · rw [if_neg hc, step_cl2 hr (by omega) hq (hp (by omega))]
        simp only [Option.bind_some]
        rw [if_neg (by omega)]
        exact ⟨_, _, rfl, hstay (by omega)⟩
  · rw [if_neg hj1]
    show ∃ t' m', (stepC t (cl1 (y.length : Int) k i (l.getD i 0) (j + 1))).bind (fun r => some (r.1, m || r.2)) = some (t', m') ∧ _
    rw [s1]
    simp only [Option.bind_some]
    by_cases ht : tv y (l.getD i 0) = true
    · have hcc := G.cntT_true ht
      rw [if_pos ht]; exact ⟨_, _, rfl, hstay (by omega)⟩
    · have hcc := G.cntT_false (b := y) (l := l) (i := i) (by simpa using ht)
      rw [if_neg ht]
      by_cases hc : cntT y l i < j + 1
      · rw [if_pos hc]; exact ⟨_, _, rfl, hset (by omega)⟩
      · rw [if_neg hc]; exact ⟨_, _, rfl, hstay (by omega)⟩

theorem pass_crow {y : List Bool} {l : List Int} {k A i : Nat} (hy : 1 ≤ y.length) (hi : i < l.length) (hx : Gr (y.length : Int) (l.getD i 0)) (hA : y.length + sm k l.length ≤ A) : ∀ (j : Nat), j ≤ min (i + 1) k → ∀ {t m}, InvA y l k A i 0 t →
    ∃ t' m', pass (crow (y.length : Int) k i (l.getD i 0) j) t m = some (t', m') ∧ InvA y l k A i j t'
  | 0, _, t, m, h => ⟨t, m, rfl, h⟩
  | j + 1, hj, t, m, h => by
    obtain ⟨t1, m1, e1, h1⟩ := pass_crow hy hi hx hA j (by omega) (t := t) (m := m) h
    obtain ⟨t2, m2, e2, h2⟩ := pass_cl12 (m := m1) hy h1 hi hj hx hA
    refine ⟨t2, m2, ?_, h2⟩
    show pass (crow (y.length : Int) k i (l.getD i 0) j ++ cl12 (y.length : Int) k i (l.getD i 0) (j + 1)) t m = _
    rw [G.pass_append, e1]
    exact e2
theorem pass_crows {y : List Bool} {l : List Int} {k A : Nat} (hy : 1 ≤ y.length) (hx : ∀ x ∈ l, Gr (y.length : Int) x) (hA : y.length + sm k l.length ≤ A) : ∀ (i : Nat), i ≤ l.length → ∀ {t m}, InvA y l k A 0 0 t →
    ∃ t' m', pass (crows (y.length : Int) k l i) t m = some (t', m') ∧ InvA y l k A i 0 t'
  | 0, _, t, m, h => ⟨t, m, rfl, h⟩
  | i + 1, hi, t, m, h => by
    obtain ⟨t1, m1, e1, h1⟩ := pass_crows hy hx hA i (by omega) (t := t) (m := m) h
    have hm : l.getD i 0 ∈ l := by simp [List.getD_eq_getElem?_getD, show i < l.length by omega]
    obtain ⟨t2, m2, e2, h2⟩ := pass_crow (m := m1) hy (show i < l.length by omega) (hx _ hm) hA (min (i + 1) k) (Nat.le_refl _) h1
    refine ⟨t2, m2, ?_, h2.next⟩
    show pass (crows (y.length : Int) k l i ++ crow (y.length : Int) k i (l.getD i 0) (min (i + 1) k)) t m = _
    rw [G.pass_append, e1]
    exact e2
theorem Init.inv {y l k A t} (hy : 1 ≤ y.length) (h : Init y A t) : InvA y l k A 0 0 t := by
  refine ⟨h.val, h.1, fun v hv => by rw [h.2 v, if_pos hv], fun i' j' _ h1 h2 => ?_⟩
  rw [h.2, if_neg (by unfold rg; omega), if_neg (by omega)]
theorem pass_least {y : List Bool} {l : List Int} {k A : Nat} {t : List Int} (hy : 1 ≤ y.length) (hk : 1 ≤ k) (hkl : k ≤ l.length) (hx : ∀ x ∈ l, Gr (y.length : Int) x) (hA : y.length + sm k l.length ≤ A) (h : Init y A t) (hc : cntT y l l.length < k) : pass (G.leastCs (y.length : Int) k l) t false = none := by
  obtain ⟨t1, m1, e1, h1⟩ := pass_crows hy hx hA l.length (Nat.le_refl _) (m := false) (h.inv hy (l := l) (k := k))
  unfold G.leastCs
  rw [G.pass_append, e1]
  show (stepC t1 [rg (y.length : Int) k (l.length - 1) k]).bind _ = none
  have e : tl t1 (rg (y.length : Int) k (l.length - 1) k) = -1 := by
    rw [tl_pos (G.rg_pos (by omega) (by omega)), h1.2.2.2 (l.length - 1) k (by omega) hk (by omega), show l.length - 1 + 1 = l.length by omega, if_pos ⟨.inl (by omega), hc⟩]
  have : stepC t1 [rg (y.length : Int) k (l.length - 1) k] = none := by unfold stepC opn; simp [e]
  rw [this]; rfl

/-! The setting of the truth values. -/
theorem set_run {l0 : List Int} {a1 : Int} {y : List Bool} {c : List (List Int)} (hy : y.length ≤ 1000) {A : Nat} (hA : y.length ≤ A) (hA2 : A ≤ 100000) {F : Nat} {R : Option Bool} (hend : ∀ t K, Init y A t → F ≤ K → ((chalklinelaw16_forced.f K c t).bind fun bt124 => ((QRef.chalklinelaw16_many.f K l0 y).bind fun t126 => (some (bt124.1 == (decide (t126 < a1)))))) = R) : ∀ (d i K : Nat) (t : List Int), y.length = i + d → F + d + 1 ≤ K → (t.length = A ∧ ∀ v, t.getD v 0 = if v < i then (if y.getD v false = true then 1 else -1) else 0) →
    chalklinelaw16_CountForces.l0 K l0 a1 y c t y (y.length : Int) (i : Int) = R := by
  intro d
  induction d with
  | zero =>
    intro i K t hd hK h
    obtain ⟨K, rfl⟩ : ∃ j, K = j + 1 := ⟨K - 1, by omega⟩
    obtain rfl : i = y.length := by omega
    rw [chalklinelaw16_CountForces.l0, if_neg (Int.lt_irrefl _)]
    exact hend t K h (by omega)
  | succ d ih =>
    intro i K t hd hK h
    obtain ⟨K, rfl⟩ : ∃ j, K = j + 1 := ⟨K - 1, by omega⟩
    have ei : wrap64 ((i : Int) + 1) = ((i + 1 : Nat) : Int) := by unfold wrap64; omega
    rw [chalklinelaw16_CountForces.l0, if_pos (by omega), if_pos (by omega), if_pos (by omega), if_pos (by omega), ei]
    simp only [Option.bind_some, Int.toNat_natCast]
    have hrd : rdOf false y (i : Int) = y.getD i false := rfl
    rw [hrd]
    by_cases hb : y.getD i false = true
    · rw [if_pos hb]
      refine ih (i + 1) K _ (by omega) (by omega) ⟨by simp [h.1], fun v => ?_⟩
      rw [G.getD_set, G.getD_set, List.length_set]
      by_cases e : i = v ∧ v < t.length
      · rw [if_pos e, if_pos (show v < i + 1 by omega), ← e.1, if_pos hb]
      · rw [if_neg e, if_neg e, h.2 v]
        by_cases e2 : v < i
        · rw [if_pos e2, if_pos (show v < i + 1 by omega)]
        · rw [if_neg e2, if_neg (show ¬ v < i + 1 by omega)]
    · rw [if_neg hb]
      refine ih (i + 1) K _ (by omega) (by omega) ⟨by simp [h.1], fun v => ?_⟩
      rw [G.getD_set]
      by_cases e : i = v ∧ v < t.length
      · rw [if_pos e, if_pos (show v < i + 1 by omega), ← e.1, if_neg hb]
      · rw [if_neg e, h.2 v]
        by_cases e2 : v < i
        · rw [if_pos e2, if_pos (show v < i + 1 by omega)]
        · rw [if_neg e2, if_neg (show ¬ v < i + 1 by omega)]

def ForcesPure : Prop := ∀ (l0 : List Int) (a1 : Int) (l2 : List Bool), (∀ x ∈ l0, (Lit.int .i64 x).wf = true) → ∃ k, chalklinelaw16_CountForces.f k l0 a1 l2 = some true

theorem CountForces : ForcesPure := by
  intro l0 a1 l2 hw
  obtain ⟨K, hK⟩ : ∃ K : Nat, K = 2000000000 := ⟨_, rfl⟩
  refine ⟨K + 3, ?_⟩
  have hj : chalklinelaw16_CountForces.j0 (K + 3) l0 a1 l2 true = some true := by rw [chalklinelaw16_CountForces.j0, if_pos rfl]
  unfold chalklinelaw16_CountForces.f G.chalklinelaw16_live.f
  simp only [Option.bind_some, if_true]
  by_cases h1 : (l2.length : Int) > 30
  · rw [if_pos h1]; exact hj
  rw [if_neg h1]
  by_cases h2 : (l0.length : Int) > 30
  · rw [decide_eq_true h2]; exact hj
  rw [decide_eq_false h2, chalklinelaw16_CountForces.j0, if_neg (by decide)]
  simp only [Option.bind_some, List.length_cons, List.length_nil]
  rw [if_pos (by omega)]
  obtain ⟨a, ha⟩ : ∃ a, [false] ++ l2 = a := ⟨_, rfl⟩
  have hal : a.length = l2.length + 1 := by rw [← ha]; simp
  rw [ha]
  have hwf : G.wfL l0 = true := by simpa [G.wfL] using hw
  have t1 : G.count_Least.f l0 a1 (a.length : Int) = some (G.leastOf l0 a1 (a.length : Int)) := by unfold G.count_Least.f; rw [if_pos ⟨by omega, hwf⟩]
  rw [t1]
  simp only [Option.bind_some]
  by_cases h0 : (G.leastOf l0 a1 (a.length : Int)).2.2 = 0
  · obtain ⟨hr, hcase⟩ := G.leastOf_ok h0
    have hg := G.right_gr hr hw
    obtain ⟨⟨b1, b2⟩, _, hgr⟩ := G.leastOf_gr hw h0
    have hs := G.leastOf_small l0 a1 (a.length : Int)
    have sat := fun (n : Nat) hn => G.least_sat (a := a) (n := n) hw h0 hn
    obtain ⟨A, hA⟩ : ∃ A : Nat, (G.leastOf l0 a1 (a.length : Int)).2.1 = A := ⟨(G.leastOf l0 a1 (a.length : Int)).2.1.toNat, by omega⟩
    have hAb : A ≤ 2000 := by
      have hb := Nat.le_trans (G.sm_le a1.toNat l0.length) (Nat.mul_le_mul (show l0.length ≤ 30 by omega) (Nat.le_refl a1.toNat))
      rcases hcase with ⟨_, e⟩ | ⟨_, e⟩ | ⟨k, rfl, h1, h2, h3, e⟩
      · rw [e] at hA; simp only at hA; omega
      · rw [e] at hA; simp only at hA; omega
      · rw [e] at hA; simp only at hA; rw [Int.toNat_natCast] at hb; omega
    rw [if_pos h0, hA]
    rw [hA] at b1 b2 hgr sat
    rw [if_neg (by omega), if_pos (by omega), if_pos (by omega)]
    have hyA : a.length ≤ A := by omega
    have hyes : cntT a l0 l0.length < a1 → ∀ t, Init a A t → pass (G.leastOf l0 a1 (a.length : Int)).1 t false = none := fun hc t ht => by
      rcases hcase with ⟨hk, e⟩ | ⟨hk, e⟩ | ⟨k, rfl, h1, h2, h3, e⟩
      · omega
      · rw [e]; rfl
      · rw [e] at hA ⊢
        simp only at hA
        exact pass_least (by omega) h1 h2 hg (by omega) ht (by omega)
    have hno : a1 ≤ cntT a l0 l0.length → ∃ e : List Bool, ∀ c ∈ (G.leastOf l0 a1 (a.length : Int)).1, Hold (a ++ e) c := fun hc => by
      obtain ⟨e, he, hh⟩ := (sat (A - a.length) (by omega)).2 hc
      refine ⟨e, fun c hx => (G.holdsB_iff (m := (A : Int)) (hgr c hx) (by omega) (by rw [List.length_append]; omega)).1 (hh c hx)⟩
    obtain ⟨c, hc⟩ : ∃ c, (G.leastOf l0 a1 (a.length : Int)).1 = c := ⟨_, rfl⟩
    rw [hc] at hyes hno hs hgr ⊢
    have hm := fun K (hK : 100001 < K) => G.many_f hg (by omega) (by omega) (by omega) (K := K) (a := a) hK
    refine set_run (by omega) hyA (by omega) (F := 1000000000) (fun t K hi hK => ?_) a.length 0 (K + 2) _ (by omega) (by omega) ⟨by rw [List.length_replicate]; omega, fun v => ?_⟩
    · rw [hm K (by omega)]
      by_cases hk : (cntT a l0 l0.length : Int) < a1
      · obtain ⟨t', e⟩ := G.forced_yes (by omega) hs.2 (A := A) (by omega) hgr hi.val hi.1 (hyes hk t hi) (K := K) (by omega)
        rw [e]
        simp only [Option.bind_some, decide_eq_true hk]; rfl
      · obtain ⟨e, he⟩ := hno (by omega)
        have hmul : (A + 1) * (5 * c.length + 3) ≤ 2001 * (5 * 65537 + 3) := Nat.mul_le_mul (by omega) (by omega)
        obtain ⟨t', e⟩ := G.forced_no (by omega) hs.2 (A := A) (by omega) hgr (Agr (a ++ e) A) (fun t ht => ⟨ht.1, ht.2.1, fun c hc => ht.step (hgr c hc) (he c hc)⟩) hi.agr (K := K) (by omega)
        rw [e]
        simp only [Option.bind_some, decide_eq_false hk]; rfl
    · rw [if_neg (by omega), List.getD_eq_getElem?_getD, List.getElem?_replicate]
      split <;> rfl
  · obtain ⟨e1, e2⟩ := G.leastOf_err h0
    rw [if_neg h0, e1]
    rfl

#print axioms CountForces
end Go.Proofs.Ytpadmbpopjmdjaa.Pure
