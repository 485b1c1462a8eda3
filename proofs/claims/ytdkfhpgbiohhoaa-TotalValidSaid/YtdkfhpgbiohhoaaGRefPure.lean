/-
  What the reference's Lits and vars compute is what total's apart and count are held to: in plain Lean.
-/
import Derived.Test.YtdkfhpgbiohhoaaQRefx1
import Derived.Test.YtdkfhpgbiohhoaaGTotalS
import Derived.Test.YtdkfhpgbiohhoaaGCountS
namespace Go.Proofs.Ytdkfhpgbiohhoaa.G
open Go.RowKit Go.Proofs.YtdkfhpgbiohhoaaW.PrintWords Go.Proofs.YtdkfhpgbiohhoaaW.PrintLast Go.Proofs.YtdkfhpgbiohhoaaW.PrintMore

theorem rd_nat (l : List Int) (i : Nat) : rd l (i : Int) = l.getD i 0 := by simp [rd]
theorem rdOf_set {xs : List Bool} {v z : Int} (hv : 0 ≤ v) (hl : v.toNat < xs.length) (hz : 0 ≤ z) : rdOf false (xs.set v.toNat true) z = if z = v then true else rdOf false xs z := by
  simp only [rdOf, List.getD_eq_getElem?_getD, List.getElem?_set]
  by_cases h : z = v
  · subst h
    simp [hl]
  · rw [if_neg (show v.toNat ≠ z.toNat from by omega), if_neg h]

theorem lits_l0 (l : List Int) (next : Int) (hn : 1 ≤ next) (hlen : l.length ≤ 1000000) (hw : ∀ x ∈ l, (Lit.int .i64 x).wf = true) : ∀ (m i : Nat) (xs : List Bool) (S : Int → Bool), i + m = l.length → xs.length = next.toNat →
    (∀ z, 1 ≤ z → z < next → rdOf false xs z = S z) → S 0 = true → QRef.chalklineref15_Lits.l0 (m + 1) l next xs i = some (if apartFrom next S (l.drop i) = true then 0 else 140) := by
  intro m
  induction m with
  | zero =>
    intro i xs S h1 h2 h3 h4
    have : ¬ (i : Int) < (l.length : Int) := by omega
    rw [QRef.chalklineref15_Lits.l0, if_neg this, List.drop_eq_nil_of_le (by omega)]
    simp [apartFrom]
  | succ m ih =>
    intro i xs S h1 h2 h3 h4
    have hi : i < l.length := by omega
    rw [QRef.chalklineref15_Lits.l0, if_pos (show (i : Int) < (l.length : Int) by omega), if_pos (show (0 : Int) ≤ (i : Int) by omega), drop_rd hi, rd_nat]
    obtain ⟨x, hx⟩ : ∃ x, l.getD i 0 = x := ⟨_, rfl⟩
    have hxw : (Lit.int .i64 x).wf = true := hw x (by rw [← hx]; simp [List.getD_eq_getElem?_getD, hi])
    rw [hx]
    have hmin : IntKind.i64.min = -9223372036854775808 := rfl
    have hmax : IntKind.i64.max = 9223372036854775807 := rfl
    simp only [Lit.wf, Bool.and_eq_true, decide_eq_true_eq] at hxw
    have hi1 : wrap64 ((i : Int) + 1) = ((i + 1 : Nat) : Int) := by unfold wrap64; omega
    have main : ∀ v : Int, vabs x = v → (if v < 1 then some 140 else if v ≥ next then some 140 else if 0 ≤ v then if v < (xs.length : Int) then if rdOf false xs v = true then some 140 else QRef.chalklineref15_Lits.l0 (m + 1) l next (xs.set v.toNat true) (wrap64 ((i : Int) + 1)) else none else none)
        = some (if apartFrom next S (x :: l.drop (i + 1)) = true then 0 else 140) := by
      intro v hv
      simp only [apartFrom, hv]
      by_cases c1 : v < 0
      · rw [if_pos (by omega), if_pos c1]; simp
      rw [if_neg c1]
      by_cases c0 : v = 0
      · subst c0
        rw [if_pos (show (0 : Int) < 1 by omega), if_neg (show ¬ next ≤ 0 by omega), if_pos h4]; simp
      rw [if_neg (by omega)]
      by_cases c2 : next ≤ v
      · rw [if_pos c2, if_pos c2]; simp
      rw [if_neg c2, if_neg c2, if_pos (by omega), if_pos (by omega), h3 v (by omega) (by omega)]
      by_cases c3 : S v = true
      · rw [if_pos c3, if_pos c3]; simp
      rw [if_neg c3, if_neg c3, hi1]
      refine ih (i + 1) _ _ (by omega) (by rw [List.length_set]; exact h2) (fun z z1 z2 => ?_) (by rw [if_neg (by omega)]; exact h4)
      rw [rdOf_set (by omega) (by omega) (by omega), h3 z z1 z2]
    by_cases hneg : x < 0
    · rw [if_pos hneg]
      by_cases hm : x = -9223372036854775808
      · have e : wrap64 (-x) = x := by unfold wrap64; omega
        rw [e]
        exact main x (by unfold vabs; rw [e, if_neg (by omega)])
      · have e : wrap64 (-x) = -x := by unfold wrap64; omega
        exact main (wrap64 (-x)) (by unfold vabs; rw [e, if_pos (by omega)])
    · rw [if_neg hneg]
      have e : wrap64 (-x) = -x := by unfold wrap64; omega
      exact main x (by unfold vabs; rw [e, if_neg (by omega)])

theorem lits_f (l : List Int) (next : Int) (hn : 1 ≤ next) (hn2 : next ≤ 65537) (hlen : l.length ≤ 1000000) (hw : ∀ x ∈ l, (Lit.int .i64 x).wf = true) : QRef.chalklineref15_Lits.f (l.length + 1) l next = some (if apartB l next = true then 0 else 140) := by
  have hmx : mx 0 next = next := by unfold mx; rw [if_pos (by omega)]
  unfold QRef.chalklineref15_Lits.f
  rw [hmx, if_pos (by omega), if_pos (by omega)]
  have := lits_l0 l next hn hlen hw l.length 0 (List.replicate next.toNat false) (fun z => if z = 0 then true else false) (by omega) (by simp) (fun z z1 z2 => by
    rw [if_neg (by omega)]
    simp only [rdOf, List.getD_eq_getElem?_getD, List.getElem?_replicate]
    split <;> rfl) (by simp)
  simpa [apartB] using this

/-- The new variables of n literals. -/
def Vf (most : Int) : Nat → Nat → Int
  | 0, _ => 0
  | f + 1, n => if n = 1 then 0 else Vf most f (n / 2) + Vf most f (n - n / 2) + manyOf n most

theorem Vf_bound {most : Int} (hm : 1 ≤ most) : ∀ f n, 1 ≤ n → n ≤ f → n ≤ 40 → 0 ≤ Vf most f n ∧ Vf most f n ≤ 40 * (n - 1) := by
  intro f
  induction f with
  | zero => intro n h1 h2; omega
  | succ f ih =>
    intro n h1 h2 h3
    rw [Vf]
    split
    · omega
    · have i1 := ih (n / 2) (by omega) (by omega) (by omega)
      have i2 := ih (n - n / 2) (by omega) (by omega) (by omega)
      have := manyOf_le n most
      have := manyOf_ge (most := most) hm h1
      omega

theorem vars_f {most : Int} (hm : 1 ≤ most) : ∀ f n, 1 ≤ n → n ≤ f → n ≤ 40 → QRef.chalklineref15_vars.f f n most = some (Vf most f n) := by
  intro f
  induction f with
  | zero => intro n h1 h2; omega
  | succ f ih =>
    intro n h1 h2 h3
    rw [QRef.chalklineref15_vars.f, Vf]
    by_cases h : n = 1
    · rw [if_pos (by omega), if_pos h]
    · rw [if_neg (by omega), if_neg h]
      have e1 : wrap64 (Int.tdiv (n : Int) 2) = ((n / 2 : Nat) : Int) := by
        rw [Int.tdiv_eq_ediv_of_nonneg (by omega)]
        unfold wrap64
        omega
      have e2 : wrap64 ((n : Int) - ((n / 2 : Nat) : Int)) = ((n - n / 2 : Nat) : Int) := by unfold wrap64; omega
      rw [e1, e2, ih (n / 2) (by omega) (by omega) (by omega), ih (n - n / 2) (by omega) (by omega) (by omega)]
      have b1 := Vf_bound hm f (n / 2) (by omega) (by omega) (by omega)
      have b2 := Vf_bound hm f (n - n / 2) (by omega) (by omega) (by omega)
      have b3 := manyOf_le n most
      have b4 := manyOf_ge (most := most) hm h1
      have e3 : mn (n : Int) most = manyOf n most := rfl
      simp only [Option.bind_some, e3]
      congr 1
      unfold wrap64
      omega

theorem cnt_full' {most : Int} {f : Nat} {s : TS} {l : List Int} (h : s.full = true) : (cnt most f s l).2.full = true := by
  cases f with
  | zero => exact h
  | succ f => rw [cnt_stop (.inr h)]; exact h

/-- Is count full in the end? -/
theorem cnt_vars {most : Int} (hm : 1 ≤ most) : ∀ f (s : TS) (l : List Int), 1 ≤ l.length → l.length ≤ f → l.length ≤ 40 → s.full = false → s.next ≤ 65537 →
    (s.next + Vf most f l.length ≤ 65537 → (cnt most f s l).2.full = false ∧ (cnt most f s l).2.next = s.next + Vf most f l.length) ∧ (65537 < s.next + Vf most f l.length → (cnt most f s l).2.full = true) := by
  intro f
  induction f with
  | zero => intro s l h1 h2; omega
  | succ f ih =>
    intro s l h1 h2 h3 hs hn
    by_cases h : l.length = 1
    · rw [cnt_stop (.inl h), Vf, if_pos h]
      exact ⟨fun _ => ⟨hs, by simp⟩, fun h => by omega⟩
    have hno : ¬ (l.length = 1 ∨ s.full = true) := by
      rintro (e | e)
      · exact h e
      · rw [hs] at e
        cases e
    rw [cnt_next_step hno rfl rfl, Vf, if_neg h]
    have t1 : (l.take (l.length / 2)).length = l.length / 2 := by rw [List.length_take]; omega
    have t2 : (l.drop (l.length / 2)).length = l.length - l.length / 2 := List.length_drop
    have i1 := ih s (l.take (l.length / 2)) (by omega) (by omega) (by omega) hs hn
    rw [t1] at i1
    have b1 := Vf_bound hm f (l.length / 2) (by omega) (by omega) (by omega)
    have b2 := Vf_bound hm f (l.length - l.length / 2) (by omega) (by omega) (by omega)
    have b4 := manyOf_ge (most := most) hm h1
    obtain ⟨r1, hr1⟩ : ∃ r1, cnt most f s (l.take (l.length / 2)) = r1 := ⟨_, rfl⟩
    rw [hr1] at i1 ⊢
    by_cases c1 : s.next + Vf most f (l.length / 2) ≤ 65537
    · obtain ⟨f1, n1⟩ := i1.1 c1
      have i2 := ih r1.2 (l.drop (l.length / 2)) (by omega) (by omega) (by omega) f1 (by omega)
      rw [t2] at i2
      obtain ⟨r2, hr2⟩ : ∃ r2, cnt most f r1.2 (l.drop (l.length / 2)) = r2 := ⟨_, rfl⟩
      rw [hr2] at i2 ⊢
      by_cases c2 : r1.2.next + Vf most f (l.length - l.length / 2) ≤ 65537
      · obtain ⟨f2, n2⟩ := i2.1 c2
        constructor
        · intro hle
          rw [if_neg (by rw [f2]; rintro (e | e); cases e; omega)]
          exact ⟨rfl, by show r2.2.next + _ = _; omega⟩
        · intro hlt
          rw [if_pos (.inr (by omega))]
      · have f2 := i2.2 (by omega)
        rw [if_pos (.inl f2)]
        exact ⟨fun hle => by omega, fun _ => rfl⟩
    · have f1 := i1.2 (by omega)
      rw [if_pos (.inl (cnt_full' f1))]
      exact ⟨fun hle => by omega, fun _ => rfl⟩

#print axioms cnt_vars

end Go.Proofs.Ytdkfhpgbiohhoaa.G
