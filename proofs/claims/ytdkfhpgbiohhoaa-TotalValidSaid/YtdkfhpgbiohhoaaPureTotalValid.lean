/-
  The plain law of TotalValid.
-/
import Derived.Test.YtdkfhpgbiohhoaaQVax2
import Derived.Test.YtdkfhpgbiohhoaaGValid
namespace Go.Proofs.Ytdkfhpgbiohhoaa.Pure
open Go.RowKit Go.Proofs.Ytdkfhpgbiohhoaa.QVa Go.Proofs.YtdkfhpgbiohhoaaW.PrintWords Go.Proofs.YtdkfhpgbiohhoaaW.PrintLast
open G (Gd)

theorem totalOf_vd {l : List Int} {most next : Int} (hl : l.length ≤ 40) (h : (G.totalOf l most next).2.2.2 = 0) :
    (l.length = 1 → (G.totalOf l most next).1 = l ∨ (G.totalOf l most next).1 = []) ∧ (l.length ≠ 1 → ∀ x ∈ (G.totalOf l most next).1, next ≤ x ∧ x < (G.totalOf l most next).2.2.1) ∧ (G.totalOf l most next).2.1.length ≤ 36000 ∧ (∀ c ∈ (G.totalOf l most next).2.1, 2 ≤ c.length ∧ c.length ≤ 3) := by
  unfold G.totalOf at h ⊢
  split
  · rename_i c; rw [if_pos c] at h; cases h
  rename_i c1
  rw [if_neg c1] at h
  split
  · rename_i c; rw [if_pos c] at h; cases h
  rename_i c2
  rw [if_neg c2] at h
  split
  · exact ⟨fun _ => .inr rfl, fun _ x hx => (by cases hx), by simp, fun c hc => (by cases hc)⟩
  rename_i c3
  rw [if_neg c3] at h
  unfold G.mainS at h ⊢
  dsimp only at h ⊢
  split
  · rename_i c; rw [if_pos c] at h; cases h
  rename_i c4
  have c5 : (G.cnt most l.length ⟨next, false, []⟩ l).2.full = false := by simpa using c4
  obtain ⟨v1, v2, v3, v4, v5⟩ := G.cnt_vd (most := most) (by omega) l.length ⟨next, false, []⟩ l (by omega) (Nat.le_refl _) hl rfl (by show 1 ≤ next; omega) (by show next ≤ 65537; omega) c5
  have e0 : ([] : List (List Int)).length = 0 := rfl
  dsimp only at v1 v5 ⊢
  refine ⟨fun e => .inl (v4 e), v5, by omega, fun c hc => (v3 c hc).resolve_left (fun h => by cases h)⟩

theorem valid_l1 {A : Int} (hA : 1 ≤ A ∧ A ≤ 65537) {cs : List (List Int)} (hl : cs.length ≤ 36000) (hr : ∀ c ∈ cs, 2 ≤ c.length ∧ c.length ≤ 3) (hg : ∀ c ∈ cs, ∀ x ∈ c, Gd A x) : ∀ d i k, i + d = cs.length → d < k → chalklinelaw15_TotalValid.l1 k cs A i = some true := by
  intro d
  induction d with
  | zero =>
    intro i k h1 h2
    obtain ⟨k, rfl⟩ : ∃ j, k = j + 1 := ⟨k - 1, by omega⟩
    have ew : wrap64 (A - 1) = A - 1 := by unfold wrap64; omega
    have hc : G.cnf_Check.f (A - 1) cs = some 0 := by
      unfold G.cnf_Check.f
      have hall : cs.all (fun l => decide (l.length ≤ 1000000) && G.wfL l) = true := by
        rw [List.all_eq_true]
        intro c hc
        have := hr c hc
        rw [Bool.and_eq_true, decide_eq_true_iff]
        refine ⟨by omega, ?_⟩
        unfold G.wfL
        rw [List.all_eq_true]
        exact fun x hx => (hg c hc x hx).wf (by omega)
      rw [if_pos ⟨by omega, by omega, hall⟩]
      have hno : ¬ cs.any (fun l => l.any (fun x => !(G.mayB (A - 1) x))) = true := by
        rw [List.any_eq_true]
        rintro ⟨c, hc, h⟩
        rw [List.any_eq_true] at h
        obtain ⟨x, hx, h⟩ := h
        rw [G.mayB_gd (by omega) (hg c hc x hx)] at h
        cases h
      unfold G.checkB
      rw [if_neg (by omega), if_neg hno, if_neg (by omega)]
    rw [chalklinelaw15_TotalValid.l1, if_neg (show ¬ (i : Int) < (cs.length : Int) by omega), ew, hc]
    rfl
  | succ d ih =>
    intro i k h1 h2
    obtain ⟨k, rfl⟩ : ∃ j, k = j + 1 := ⟨k - 1, by omega⟩
    have hi : i < cs.length := by omega
    have hm : rd_L1 cs (i : Int) ∈ cs := by simp [rd_L1, List.getD_eq_getElem?_getD, hi]
    have := hr _ hm
    rw [chalklinelaw15_TotalValid.l1, if_pos (show (i : Int) < (cs.length : Int) by omega), if_pos (show (0 : Int) ≤ (i : Int) by omega), if_neg (by omega), if_neg (by omega), show wrap64 ((i : Int) + 1) = ((i + 1 : Nat) : Int) from by unfold wrap64; omega]
    exact ih (i + 1) k (by omega) (by omega)

theorem valid_l0 {A a2 : Int} {l0 outs : List Int} {cs : List (List Int)} (hb : ∀ k, 36000 < k → chalklinelaw15_TotalValid.l1 k cs A 0 = some true) (v1 : l0.length = 1 → outs = l0 ∨ outs = []) (v2 : l0.length ≠ 1 → ∀ x ∈ outs, a2 ≤ x ∧ x < A) (hol : outs.length ≤ 1000) :
    ∀ d i k, i + d = outs.length → 36100 + d < k → chalklinelaw15_TotalValid.l0 k l0 a2 outs cs A i = some true := by
  intro d
  induction d with
  | zero =>
    intro i k h1 h2
    obtain ⟨k, rfl⟩ : ∃ j, k = j + 1 := ⟨k - 1, by omega⟩
    rw [chalklinelaw15_TotalValid.l0, if_neg (show ¬ (i : Int) < (outs.length : Int) by omega)]
    exact hb k (by omega)
  | succ d ih =>
    intro i k h1 h2
    obtain ⟨k, rfl⟩ : ∃ j, k = j + 1 := ⟨k - 1, by omega⟩
    have hi : i < outs.length := by omega
    have hm : rd outs (i : Int) ∈ outs := by simp [rd, List.getD_eq_getElem?_getD, hi]
    have ew : wrap64 ((i : Int) + 1) = ((i + 1 : Nat) : Int) := by unfold wrap64; omega
    have hnext := ih (i + 1) k (by omega) (by omega)
    rw [chalklinelaw15_TotalValid.l0, if_pos (show (i : Int) < (outs.length : Int) by omega)]
    by_cases hone : l0.length = 1
    · have e1 : outs = l0 := (v1 hone).resolve_right (fun e => by rw [e, List.length_nil] at hi; omega)
      have e2 : i = 0 := by rw [e1] at hi; omega
      have e3 : rd outs (i : Int) = rd l0 0 := by rw [e1, e2]; rfl
      rw [if_pos (show (l0.length : Int) = 1 by omega), if_pos (show (0 : Int) ≤ (i : Int) by omega), if_pos (show (0 : Int) < (l0.length : Int) by omega), if_pos e3, if_neg (show ¬ (l0.length : Int) > 1 by omega), ew]
      exact hnext
    · have := v2 hone _ hm
      rw [if_neg (show ¬ (l0.length : Int) = 1 by omega)]
      by_cases h1l : (l0.length : Int) > 1
      · rw [if_pos h1l, if_pos (show (0 : Int) ≤ (i : Int) by omega), if_neg (show ¬ rd outs (i : Int) < a2 by omega), if_neg (show ¬ rd outs (i : Int) ≥ A by omega), ew]
        exact hnext
      · rw [if_neg h1l, ew]
        exact hnext

theorem TotalValid : chalklinelaw15_TotalValid.Pure := by
  intro l0 a1 a2 hlen hsz hw hw1 hw2
  obtain ⟨K, hK⟩ : ∃ K : Nat, K = 1000000 := ⟨_, rfl⟩
  refine ⟨K, ?_⟩
  unfold chalklinelaw15_TotalValid.f G.chalklinelaw15_live.f
  simp only [Option.bind_some, if_true]
  by_cases h40 : (l0.length : Int) > 40
  · rw [if_pos h40]
  rw [if_neg h40]
  have hl : l0.length ≤ 40 := by omega
  have hwf : G.wfL l0 = true := by simpa [G.wfL] using hw
  have t1 : G.total_Total.f l0 a1 a2 = some (G.totalOf l0 a1 a2) := by unfold G.total_Total.f; rw [if_pos ⟨hl, hwf⟩]
  rw [t1]
  simp only [Option.bind_some]
  by_cases h0 : (G.totalOf l0 a1 a2).2.2.2 = 0
  · rw [if_pos h0]
    obtain ⟨k1, k2, k3, k4, k5, k6, k7⟩ := G.totalOf_ok hl hw h0
    obtain ⟨b1, b2, b3⟩ := G.totalOf_bounds l0 a1 a2 hl
    have ha := G.totalOf_after l0 a1 a2 hl
    obtain ⟨v1, v2, v3, v4⟩ := totalOf_vd hl h0
    obtain ⟨x, hx⟩ : ∃ x, G.totalOf l0 a1 a2 = x := ⟨_, rfl⟩
    rw [hx] at k2 k3 k5 k6 k7 b1 b2 b3 ha v1 v2 v3 v4 ⊢
    have hb : ∀ k, 36000 < k → chalklinelaw15_TotalValid.l1 k x.2.1 x.2.2.1 0 = some true := fun k hk => by
      have hh := valid_l1 (A := x.2.2.1) (by omega) v3 v4 k6 x.2.1.length 0 k (by omega) (by omega)
      rwa [show ((0 : Nat) : Int) = 0 from rfl] at hh
    have := valid_l0 (l0 := l0) hb v1 v2 (by omega) x.1.length 0 K (by omega) (by omega)
    rwa [show ((0 : Nat) : Int) = 0 from rfl] at this
  · rw [if_neg h0]
    obtain ⟨e1, e2, e3⟩ := G.totalOf_err h0
    rw [e1, e2, e3]
    simp

end Go.Proofs.Ytdkfhpgbiohhoaa.Pure
