/-
  The plain law of TotalShift.
-/
import Derived.Test.YtdkfhpgbiohhoaaQShx2
import Derived.Test.YtdkfhpgbiohhoaaGShift
import Derived.Test.YtdkfhpgbiohhoaaGBounds
namespace Go.Proofs.Ytdkfhpgbiohhoaa.Pure
open Go.RowKit Go.Proofs.Ytdkfhpgbiohhoaa.QSh Go.Proofs.YtdkfhpgbiohhoaaW.PrintWords Go.Proofs.YtdkfhpgbiohhoaaW.PrintLast
open G (mu Bd)

theorem moved_mu {n d x : Int} (_hn : 1 ≤ n ∧ n ≤ 2000) (hd : 0 ≤ d ∧ d ≤ 255) (hx : Bd x) : chalklinelaw15_moved.f x n d = some (mu n d x) := by
  unfold Bd at hx
  have e1 : wrap64 (-x) = -x := by unfold wrap64; omega
  have e2 : wrap64 (x + d) = x + d := by unfold wrap64; omega
  have e3 : wrap64 (x - d) = x - d := by unfold wrap64; omega
  unfold chalklinelaw15_moved.f mu
  rw [e1, e2, e3]
  by_cases h1 : n ≤ x
  · rw [if_pos h1, if_pos h1]
  · rw [if_neg h1, if_neg h1]
    by_cases h2 : n ≤ -x
    · rw [if_pos h2, if_pos h2]
    · rw [if_neg h2, if_neg h2]

theorem rd_map (f : Int → Int) (l : List Int) (i : Nat) (h : i < l.length) : rd (l.map f) (i : Int) = f (rd l (i : Int)) ∧ rd l (i : Int) ∈ l := by
  constructor
  · simp [rd, List.getD_eq_getElem?_getD, h]
  · simp [rd, List.getD_eq_getElem?_getD, h]
theorem rdL_map (f : List Int → List Int) (l : List (List Int)) (i : Nat) (h : i < l.length) : rd_L1 (l.map f) (i : Int) = f (rd_L1 l (i : Int)) ∧ rd_L1 l (i : Int) ∈ l := by
  constructor
  · simp [rd_L1, List.getD_eq_getElem?_getD, h]
  · simp [rd_L1, List.getD_eq_getElem?_getD, h]

section
variable {n d : Int} (hn : 1 ≤ n ∧ n ≤ 2000) (hd : 0 ≤ d ∧ d ≤ 255) {cs : List (List Int)} (hb : cs.length ≤ 1000000) (hr : ∀ c ∈ cs, c.length ≤ 3) (hx : ∀ c ∈ cs, ∀ x ∈ c, Bd x)
include hn hd hb hr hx

theorem shift_l2 (i m : Nat) (hi : i + m + 1 = cs.length) (ih : ∀ k, 6 * m + 6 < k → chalklinelaw15_TotalShift.l1 k n d cs (cs.map (List.map (mu n d))) ((i + 1 : Nat) : Int) = some true) :
    ∀ p j k, j + p = (rd_L1 cs (i : Int)).length → p + 1 + 6 * m + 6 < k → chalklinelaw15_TotalShift.l2 k n d cs (cs.map (List.map (mu n d))) i j = some true := by
  have hil : i < cs.length := by omega
  obtain ⟨e1, e2⟩ := rdL_map (List.map (mu n d)) cs i hil
  have hw : wrap64 d = d := by unfold wrap64; omega
  have h3 := hr _ e2
  intro p
  induction p with
  | zero =>
    intro j k h1 h2
    obtain ⟨k, rfl⟩ : ∃ j, k = j + 1 := ⟨k - 1, by omega⟩
    rw [chalklinelaw15_TotalShift.l2, if_pos (show (0 : Int) ≤ (i : Int) by omega), if_pos (show (i : Int) < (cs.length : Int) by omega), if_neg (show ¬ (j : Int) < ((rd_L1 cs (i : Int)).length : Int) by omega),
      show wrap64 ((i : Int) + 1) = ((i + 1 : Nat) : Int) from by unfold wrap64; omega]
    exact ih k (by omega)
  | succ p ihp =>
    intro j k h1 h2
    obtain ⟨k, rfl⟩ : ∃ j, k = j + 1 := ⟨k - 1, by omega⟩
    obtain ⟨g1, g2⟩ := rd_map (mu n d) (rd_L1 cs (i : Int)) j (by omega)
    rw [chalklinelaw15_TotalShift.l2, if_pos (show (0 : Int) ≤ (i : Int) by omega), if_pos (show (i : Int) < (cs.length : Int) by omega), if_pos (show (j : Int) < ((rd_L1 cs (i : Int)).length : Int) by omega), if_pos (show (0 : Int) ≤ (j : Int) by omega), hw,
      moved_mu hn hd (hx _ e2 _ g2)]
    simp only [Option.bind_some]
    rw [e1, if_pos (show (i : Int) < ((cs.map (List.map (mu n d))).length : Int) by rw [List.length_map]; omega), if_pos (show (j : Int) < (((rd_L1 cs (i : Int)).map (mu n d)).length : Int) by rw [List.length_map]; omega), g1, if_pos rfl,
      show wrap64 ((j : Int) + 1) = ((j + 1 : Nat) : Int) from by unfold wrap64; omega]
    exact ihp (j + 1) k (by omega) (by omega)

theorem shift_l1 : ∀ m i k, i + m = cs.length → 6 * m + 6 < k → chalklinelaw15_TotalShift.l1 k n d cs (cs.map (List.map (mu n d))) i = some true := by
  intro m
  induction m with
  | zero =>
    intro i k h1 h2
    obtain ⟨k, rfl⟩ : ∃ j, k = j + 1 := ⟨k - 1, by omega⟩
    rw [chalklinelaw15_TotalShift.l1, if_neg (show ¬ (i : Int) < (cs.length : Int) by omega)]
  | succ m ih =>
    intro i k h1 h2
    obtain ⟨k, rfl⟩ : ∃ j, k = j + 1 := ⟨k - 1, by omega⟩
    obtain ⟨e1, e2⟩ := rdL_map (List.map (mu n d)) cs i (by omega)
    have h3 := hr _ e2
    rw [chalklinelaw15_TotalShift.l1, if_pos (show (i : Int) < (cs.length : Int) by omega), if_pos (show (0 : Int) ≤ (i : Int) by omega), if_pos (show (i : Int) < ((cs.map (List.map (mu n d))).length : Int) by rw [List.length_map]; omega), e1,
      if_pos (show ((rd_L1 cs (i : Int)).length : Int) = (((rd_L1 cs (i : Int)).map (mu n d)).length : Int) by rw [List.length_map])]
    exact shift_l2 hn hd hb hr hx i m (by omega) (fun k hk => ih (i + 1) k (by omega) hk) (rd_L1 cs (i : Int)).length 0 k (by omega) (by omega)

theorem shift_l0 {xs : List Int} (hxb : xs.length ≤ 1000000) (hxx : ∀ x ∈ xs, Bd x) : ∀ m i k, i + m = xs.length → m + 6 * cs.length + 7 < k → chalklinelaw15_TotalShift.l0 k n d xs cs (xs.map (mu n d)) (cs.map (List.map (mu n d))) i = some true := by
  have hw : wrap64 d = d := by unfold wrap64; omega
  intro m
  induction m with
  | zero =>
    intro i k h1 h2
    obtain ⟨k, rfl⟩ : ∃ j, k = j + 1 := ⟨k - 1, by omega⟩
    rw [chalklinelaw15_TotalShift.l0, if_neg (show ¬ (i : Int) < (xs.length : Int) by omega)]
    exact shift_l1 hn hd hb hr hx cs.length 0 k (by omega) (by omega)
  | succ m ih =>
    intro i k h1 h2
    obtain ⟨k, rfl⟩ : ∃ j, k = j + 1 := ⟨k - 1, by omega⟩
    obtain ⟨g1, g2⟩ := rd_map (mu n d) xs i (by omega)
    rw [chalklinelaw15_TotalShift.l0, if_pos (show (i : Int) < (xs.length : Int) by omega), if_pos (show (0 : Int) ≤ (i : Int) by omega), hw, moved_mu hn hd (hxx _ g2)]
    simp only [Option.bind_some]
    rw [if_pos (show (i : Int) < ((xs.map (mu n d)).length : Int) by rw [List.length_map]; omega), g1, if_pos rfl,
      show wrap64 ((i : Int) + 1) = ((i + 1 : Nat) : Int) from by unfold wrap64; omega]
    exact ih (i + 1) k (by omega) (by omega)
end

theorem TotalShift : chalklinelaw15_TotalShift.Pure := by
  intro l0 a1 a2 a3 hlen hsz hw hw1 hw2 hw3
  refine ⟨1000001, ?_⟩
  have hj : ∀ x b c e k, chalklinelaw15_TotalShift.j0 (k + 1) x b c e true = some true := fun x b c e k => by rw [chalklinelaw15_TotalShift.j0, if_pos rfl]
  unfold chalklinelaw15_TotalShift.f G.chalklinelaw15_live.f
  simp only [Option.bind_some, if_true]
  by_cases h20 : (l0.length : Int) > 20
  · rw [if_pos h20]; exact hj _ _ _ _ _
  rw [if_neg h20]
  by_cases hn1 : a2 < 1
  · rw [if_pos hn1]; exact hj _ _ _ _ _
  rw [if_neg hn1]
  by_cases hn2 : a2 > 2000
  · rw [decide_eq_true hn2]; exact hj _ _ _ _ _
  rw [decide_eq_false hn2, chalklinelaw15_TotalShift.j0, if_neg (by decide)]
  have hd : 0 ≤ a3 ∧ a3 ≤ 255 := by
    have hmin : IntKind.u8.min = 0 := rfl
    have hmax : IntKind.u8.max = 255 := rfl
    simp only [Lit.wf, Bool.and_eq_true, decide_eq_true_eq] at hw3
    omega
  have e3 : wrap64 a3 = a3 := by unfold wrap64; omega
  have e4 : wrap64 (a2 + a3) = a2 + a3 := by unfold wrap64; omega
  have hl : l0.length ≤ 40 := by omega
  have hwf : G.wfL l0 = true := by simpa [G.wfL] using hw
  have t1 : G.total_Total.f l0 a1 a2 = some (G.totalOf l0 a1 a2) := by unfold G.total_Total.f; rw [if_pos ⟨hl, hwf⟩]
  have t2 : G.total_Total.f l0 a1 (a2 + a3) = some (G.totalOf l0 a1 (a2 + a3)) := by unfold G.total_Total.f; rw [if_pos ⟨hl, hwf⟩]
  rw [e3, e4, t1, t2]
  simp only [Option.bind_some]
  by_cases h0 : (G.totalOf l0 a1 a2).2.2.2 = 0
  · rw [if_pos h0]
    obtain ⟨es, x1, x2⟩ := G.totalOf_shift (d := a3) (by omega) hw (by omega) (by omega) hd h0
    obtain ⟨b1, b2, b3⟩ := G.totalOf_bounds l0 a1 a2 hl
    have hafter := G.totalOf_after l0 a1 a2 hl
    rw [es, if_pos rfl]
    dsimp only
    rw [if_pos (by rw [List.length_map]), if_pos (by rw [List.length_map]), show wrap64 ((G.totalOf l0 a1 a2).2.2.1 + a3) = (G.totalOf l0 a1 a2).2.2.1 + a3 from by unfold wrap64; omega]
    rw [bne_self_eq_false, chalklinelaw15_TotalShift.j1, if_neg (by decide)]
    exact shift_l0 ⟨by omega, by omega⟩ hd (by omega) b3 x2 (by omega) x1 (G.totalOf l0 a1 a2).1.length 0 _ (by omega) (by omega)
  · rw [if_neg h0]

end Go.Proofs.Ytdkfhpgbiohhoaa.Pure
