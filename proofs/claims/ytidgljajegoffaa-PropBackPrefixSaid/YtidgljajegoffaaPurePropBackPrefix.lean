/-
  The plain law of PropBackPrefix: Back gives the longest prefix whose levels do not exceed the level, and it is a valid trail.
-/
import Derived.Test.YtidgljajegoffaaQBpx3
import Derived.Test.YtidgljajegoffaaPLev
namespace Go.Proofs.Ytidgljajegoffaa.Pure
set_option linter.unusedVariables false
open Go.RowKit Go.Proofs.Ytidgljajegoffaa.QBp Go.Proofs.Ytidgljajegoffaa.QRef Go.Proofs.YtidgljajegoffaaW.PrintWords Go.Proofs.YtidgljajegoffaaW.PrintLast Go.Proofs.YtidgljajegoffaaW.PrintMore

/-- Rows' literals in Go's range, rows no longer than memory lets them be. -/
def RowsOk (cs : List (List Int)) : Prop := (∀ c ∈ cs, c.length ≤ 140737488355328) ∧ ∀ c ∈ cs, ∀ x ∈ c, (Lit.int .i64 x).wf = true

theorem okC_of {cs : List (List Int)} (h : RowsOk cs) (h1 : cs.length ≤ 200) (h2 : ∀ c ∈ cs, c.length ≤ 1000) : G.okC cs = true := by
  unfold G.okC
  rw [Bool.and_eq_true, decide_eq_true_iff, List.all_eq_true]
  refine ⟨by omega, fun c hc => ?_⟩
  rw [Bool.and_eq_true, decide_eq_true_iff]
  have := h2 c hc
  exact ⟨by omega, by unfold G.wfL; rw [List.all_eq_true]; exact h.2 c hc⟩

/-- The level behind a step. -/
def nx (n : Int) (s : S32) : Int := if s.f1 = -1 then n + 1 else n
theorem nx_le (n : Int) (s : S32) : n ≤ nx n s ∧ nx n s ≤ n + 1 := by unfold nx; split <;> omega
theorem levF_cons (n : Int) (s : S32) (t : List S32) : G.levF n (s :: t) = nx n s :: G.levF (nx n s) t := by
  unfold nx; rw [G.levF]; split <;> rfl
theorem backF_cons (k n : Int) (s : S32) (t : List S32) : G.backF k n (s :: t) = if nx n s ≤ k then s :: G.backF k (nx n s) t else G.backF k (nx n s) t := by
  unfold nx; rw [G.backF]; split <;> rfl
theorem lev_ge : ∀ (n : Int) (t : List S32) (i : Nat), i < t.length → n ≤ (G.levF n t).getD i 0
  | _, [], i, h => by simp at h
  | n, s :: t, 0, h => by rw [levF_cons]; exact (nx_le n s).1
  | n, s :: t, i + 1, h => by
    rw [levF_cons]
    have := lev_ge (nx n s) t i (by simpa using h)
    have h2 := (nx_le n s).1
    simp only [List.getD_cons_succ]
    omega
theorem lev_step : ∀ (n : Int) (t : List S32) (i : Nat), i + 1 < t.length → (G.levF n t).getD i 0 ≤ (G.levF n t).getD (i + 1) 0 ∧ (G.levF n t).getD (i + 1) 0 ≤ (G.levF n t).getD i 0 + 1
  | _, [], i, h => by simp at h
  | n, [s], i, h => by simp at h
  | n, s :: s2 :: t, 0, h => by
    rw [levF_cons, levF_cons]
    simp only [List.getD_cons_succ, List.getD_cons_zero]
    exact nx_le _ s2
  | n, s :: s2 :: t, i + 1, h => by
    rw [levF_cons]
    simp only [List.getD_cons_succ]
    exact lev_step (nx n s) (s2 :: t) i (by simpa using h)
theorem lev_mono (n : Int) (t : List S32) (i : Nat) : ∀ d, i + d < t.length → (G.levF n t).getD i 0 ≤ (G.levF n t).getD (i + d) 0
  | 0, h => Int.le_refl _
  | d + 1, h => by
    have h1 := lev_mono n t i d (by omega)
    have h2 := (lev_step n t (i + d) (by omega)).1
    rw [← Nat.add_assoc]
    omega
theorem back_none (k : Int) : ∀ (n : Int) (t : List S32), k < n → G.backF k n t = []
  | _, [], _ => rfl
  | n, s :: t, h => by
    have := (nx_le n s).1
    rw [backF_cons, if_neg (by omega)]
    exact back_none k _ t (by omega)
theorem back_take (k : Int) : ∀ (n : Int) (t : List S32), ∃ m, m ≤ t.length ∧ G.backF k n t = t.take m ∧ ∀ i, i < t.length → (i < m ↔ (G.levF n t).getD i 0 ≤ k)
  | _, [] => ⟨0, Nat.le_refl _, rfl, fun i h => by simp at h⟩
  | n, s :: t => by
    rw [backF_cons, levF_cons]
    by_cases h : nx n s ≤ k
    · obtain ⟨m, hm, hb, hi⟩ := back_take k (nx n s) t
      refine ⟨m + 1, by simpa using hm, by rw [if_pos h, hb, List.take_succ_cons], fun i hil => ?_⟩
      cases i with
      | zero => simp [h]
      | succ i =>
        simp only [List.getD_cons_succ]
        rw [← hi i (by simpa using hil)]
        omega
    · refine ⟨0, Nat.zero_le _, by rw [if_neg h, back_none k _ t (by omega), List.take_zero], fun i hil => ?_⟩
      cases i with
      | zero => simp; omega
      | succ i =>
        have := lev_ge (nx n s) t i (by simpa using hil)
        simp only [List.getD_cons_succ]
        omega
theorem back_back (k : Int) : ∀ (n : Int) (t : List S32), G.backF k n (G.backF k n t) = G.backF k n t
  | _, [] => rfl
  | n, s :: t => by
    rw [backF_cons]
    by_cases h : nx n s ≤ k
    · rw [if_pos h, backF_cons, if_pos h, back_back k (nx n s) t]
    · rw [if_neg h, back_none k _ t (by omega)]; rfl
theorem chk_take (n : Int) (cs : List (List Int)) : ∀ (t : List S32) (T : Int → Bool) (m : Nat), G.chkT n cs T t = 0 → G.chkT n cs T (t.take m) = 0
  | [], T, m, h => by rw [List.take_nil]; exact h
  | s :: t, T, 0, h => rfl
  | s :: t, T, m + 1, h => by
    rw [List.take_succ_cons]
    unfold G.chkT at h ⊢
    by_cases q1 : s.f0 = 0
    · rw [if_pos q1] at h; cases h
    rw [if_neg q1] at h ⊢
    by_cases q2 : n < s.f0
    · rw [if_pos q2] at h; cases h
    rw [if_neg q2] at h ⊢
    by_cases q3 : s.f0 < -n
    · rw [if_pos q3] at h; cases h
    rw [if_neg q3] at h ⊢
    by_cases q4 : (T s.f0 || T (-s.f0)) = true
    · rw [if_pos q4] at h; cases h
    rw [if_neg q4] at h ⊢
    by_cases q5 : s.f1 < -1
    · rw [if_pos q5] at h; cases h
    rw [if_neg q5] at h ⊢
    by_cases q6 : (cs.length : Int) ≤ s.f1
    · rw [if_pos q6] at h; cases h
    rw [if_neg q6] at h ⊢
    by_cases q7 : s.f1 < 0
    · rw [if_pos q7] at h ⊢; exact chk_take n cs t _ m h
    rw [if_neg q7] at h ⊢
    by_cases q8 : (cs.getD s.f1.toNat []).contains s.f0 = false
    · rw [if_pos q8] at h; cases h
    rw [if_neg q8] at h ⊢
    by_cases q9 : (cs.getD s.f1.toNat []).any (G.openB s T) = true
    · rw [if_pos q9] at h; cases h
    rw [if_neg q9] at h ⊢
    exact chk_take n cs t _ m h

theorem rd_cast (l : List Int) (i : Nat) : rd l (i : Int) = l.getD i 0 := by simp [rd]

theorem bp_l0 (k : Int) (t : List S32) (ht : t.length ≤ 60) (n : Int) (cs : List (List Int)) : ∀ (d i K : Nat), t.length = i + d → 100 + d + 1 ≤ K →
    chalklinelaw19_PropBackPrefix.l0 K t k (G.backF k 0 t) (G.levF 0 t) (i : Int) = some true := by
  obtain ⟨m, hm, hb, hi⟩ := back_take k 0 t
  have hlen : (G.backF k 0 t).length = m := by rw [hb, List.length_take]; omega
  have hll : (G.levF 0 t).length = t.length := G.levF_len 0 t
  intro d
  induction d with
  | zero =>
    intro i K hd hK
    obtain ⟨K, rfl⟩ : ∃ j, K = j + 1 := ⟨K - 1, by omega⟩
    rw [chalklinelaw19_PropBackPrefix.l0, if_neg (by omega), G.pback_f (by omega) k (by omega)]
    simp only [Option.bind_some]
    rw [back_back, G.steps_self (by omega) (by omega)]
    simp only [Option.bind_some, if_true]
    by_cases h0 : ((G.levF 0 t).length : Int) = 0
    · rw [if_pos h0]
    · have e : wrap64 (((G.levF 0 t).length : Int) - 1) = ((t.length - 1 : Nat) : Int) := by unfold wrap64; omega
      rw [if_neg h0, e, if_pos (by omega), if_pos (by omega), G.pback_f (by omega) _ (by omega)]
      simp only [Option.bind_some]
      obtain ⟨m2, hm2, hb2, hi2⟩ := back_take (rd (G.levF 0 t) ((t.length - 1 : Nat) : Int)) 0 t
      have : m2 = t.length := by
        rcases Nat.lt_or_ge m2 t.length with q | q
        · exfalso
          have h1 := lev_mono 0 t m2 (t.length - 1 - m2) (by omega)
          rw [show m2 + (t.length - 1 - m2) = t.length - 1 by omega, ← rd_cast] at h1
          have := (hi2 m2 q).2 h1
          omega
        · omega
      rw [hb2, this, List.take_length, beq_self_eq_true]
  | succ d ih =>
    intro i K hd hK
    obtain ⟨K, rfl⟩ : ∃ j, K = j + 1 := ⟨K - 1, by omega⟩
    have ei : wrap64 ((i : Int) + 1) = ((i + 1 : Nat) : Int) := by unfold wrap64; omega
    have hnext := ih (i + 1) K (by omega) (by omega)
    have hrest : (if (i : Int) > 0 then (if 0 ≤ (wrap64 ((i : Int) - 1)) then (if (wrap64 ((i : Int) - 1)) < ((G.levF 0 t).length : Int) then (if (rd (G.levF 0 t) (i : Int)) = (rd (G.levF 0 t) (wrap64 ((i : Int) - 1))) then (chalklinelaw19_PropBackPrefix.l0 K t k (G.backF k 0 t) (G.levF 0 t) (wrap64 ((i : Int) + 1))) else (if (rd (G.levF 0 t) (i : Int)) = (wrap64 ((rd (G.levF 0 t) (wrap64 ((i : Int) - 1))) + 1)) then (chalklinelaw19_PropBackPrefix.l0 K t k (G.backF k 0 t) (G.levF 0 t) (wrap64 ((i : Int) + 1))) else (some false))) else (none)) else (none)) else (chalklinelaw19_PropBackPrefix.l0 K t k (G.backF k 0 t) (G.levF 0 t) (wrap64 ((i : Int) + 1)))) = some true := by
      rw [ei, hnext]
      by_cases hp : (i : Int) > 0
      · have e : wrap64 ((i : Int) - 1) = ((i - 1 : Nat) : Int) := by unfold wrap64; omega
        rw [if_pos hp, e, if_pos (by omega), if_pos (by omega), rd_cast, rd_cast]
        by_cases h1 : (G.levF 0 t).getD i 0 = (G.levF 0 t).getD (i - 1) 0
        · rw [if_pos h1]
        · have h2 := lev_step 0 t (i - 1) (by omega)
          rw [show i - 1 + 1 = i by omega] at h2
          have h3 := lev_ge 0 t (i - 1) (by omega)
          have h4 : ∀ (j : Nat), j < t.length → (G.levF 0 t).getD j 0 ≤ j + 1 := by
            intro j
            induction j with
            | zero => intro hj; cases t with
              | nil => simp at hj
              | cons s t => rw [levF_cons]; have := (nx_le 0 s).2; simp; omega
            | succ j ihj => intro hj; have h5 := ihj (by omega); have h6 := (lev_step 0 t j (by omega)).2; push_cast; omega
          have h5 := h4 (i - 1) (by omega)
          rw [if_neg h1, if_pos]
          unfold wrap64
          omega
      · rw [if_neg hp]
    rw [chalklinelaw19_PropBackPrefix.l0, if_pos (by omega), if_pos (by omega), if_pos (by omega), rd_cast, hlen]
    have hii := hi i (by omega)
    have hd1 : decide ((i : Int) < (m : Int)) = decide ((G.levF 0 t).getD i 0 ≤ k) := by
      rw [decide_eq_decide, ← hii]
      omega
    rw [hd1, if_neg (by simp)]
    rw [rd_cast] at hrest
    by_cases hx : (i : Int) < (m : Int)
    · have e0 : rd_T32 (G.backF k 0 t) (i : Int) = rd_T32 t (i : Int) := by
        rw [hb]
        have : i < m := by omega
        simp [rd_T32, List.getD_eq_getElem?_getD, this]
      rw [if_pos hx, e0, if_neg (by simp)]
      exact hrest
    · rw [if_neg hx]
      exact hrest

def BackPrefixPure : Prop := ∀ (a0_0 : Int) (l0_1 : List (List Int)) (l1 : List S32) (a2 : Int), RowsOk l0_1 → ∃ k, chalklinelaw19_PropBackPrefix.f k a0_0 l0_1 l1 a2 = some true

theorem PropBackPrefix : BackPrefixPure := by
  intro n cs t k hw
  refine ⟨50 + (300000 + cs.length), ?_⟩
  obtain ⟨K, hK⟩ : ∃ K, 300000 + cs.length = K := ⟨_, rfl⟩
  rw [hK]
  unfold chalklinelaw19_PropBackPrefix.f
  rw [G.live_f K]
  simp only [Option.bind_some, if_true]
  obtain ⟨b, hb, hbb⟩ := G.few_f (n := n) (t := t) hw.1 (K := 50 + K) (by omega)
  rw [hb]
  simp only [Option.bind_some]
  obtain ⟨K2, hK2⟩ : ∃ K2, 50 + K = K2 + 1 := ⟨49 + K, by omega⟩
  rw [hK2]
  cases b with
  | false => rw [if_neg (by decide), chalklinelaw19_PropBackPrefix.j0, if_pos rfl]
  | true =>
    obtain ⟨h1, h2, h3⟩ := hbb rfl
    have hok := okC_of hw h1 h2
    have hp : ∀ t' : List S32, t'.length ≤ 60 → G.prop_Check.f n cs t' = some (G.checkP n cs t') := fun t' ht' => by unfold G.prop_Check.f; rw [if_pos ⟨hok, by omega⟩]
    rw [if_pos rfl, hp t h3]
    simp only [Option.bind_some]
    by_cases hc : G.checkP n cs t = 0
    · obtain ⟨m, hm, hbk, _⟩ := back_take k 0 t
      have hbl := G.backF_len k 0 t
      have hc2 : G.checkP n cs (G.backF k 0 t) = 0 := by
        unfold G.checkP at hc ⊢
        split at hc
        · rename_i h; exact (h hc).elim
        · rename_i h; rw [if_neg h, hbk]; exact chk_take n cs t _ m hc
      obtain ⟨K3, hK3⟩ : ∃ K3, K2 = K3 + 1 := ⟨K2 - 1, by omega⟩
      rw [hc, chalklinelaw19_PropBackPrefix.j0, if_neg (by decide), G.pback_f (by omega) k (by omega)]
      simp only [Option.bind_some]
      rw [G.plev_f (by omega) (by omega)]
      simp only [Option.bind_some]
      rw [if_pos (by rw [G.levF_len]), hp _ (by omega), hc2]
      simp only [Option.bind_some, if_true]
      rw [decide_eq_false (by omega), hK3, chalklinelaw19_PropBackPrefix.j1, if_neg (by decide)]
      exact bp_l0 k t h3 n cs t.length 0 K3 (by omega) (by omega)
    · rw [chalklinelaw19_PropBackPrefix.j0, if_pos (by simpa using hc)]

#print axioms PropBackPrefix
end Go.Proofs.Ytidgljajegoffaa.Pure
