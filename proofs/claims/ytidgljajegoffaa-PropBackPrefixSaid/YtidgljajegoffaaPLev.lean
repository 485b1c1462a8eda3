/-
  Levels and Back, and the references' Levels, Back, Ints, Steps: what they compute, in plain Lean.
-/
import Derived.Test.YtidgljajegoffaaPPlain
namespace Go.Proofs.Ytidgljajegoffaa.G
set_option linter.unusedVariables false
open Go.RowKit Go.Proofs.YtidgljajegoffaaW.PrintWords Go.Proofs.YtidgljajegoffaaW.PrintLast Go.Proofs.YtidgljajegoffaaW.PrintMore
open Go.Proofs.Ytidgljajegoffaa.QRef

theorem drop32 {t : List S32} {i : Nat} (h : i < t.length) : t.drop i = rd_T32 t (i : Int) :: t.drop (i + 1) := by
  rw [List.drop_eq_getElem_cons h]
  simp [rd_T32, List.getD_eq_getElem?_getD, h]
theorem levF_len : ∀ (n : Int) (t : List S32), (levF n t).length = t.length
  | _, [] => rfl
  | n, s :: t => by unfold levF; split <;> simp [levF_len]

theorem plev_l0 {t : List S32} (ht : t.length ≤ 100000) : ∀ (d i : Nat) (acc : List Int) (n : Int) (K : Nat), t.length = i + d → d + 1 ≤ K → acc.length = i → 0 ≤ n ∧ n ≤ i → prop_Levels.l0 K acc n t (t.length : Int) (i : Int) = some (acc ++ levF n (t.drop i)) := by
  intro d
  induction d with
  | zero =>
    intro i acc n K hd hK ha hn
    obtain ⟨K, rfl⟩ : ∃ j, K = j + 1 := ⟨K - 1, by omega⟩
    rw [prop_Levels.l0, if_neg (by omega), List.drop_of_length_le (by omega)]
    simp [levF]
  | succ d ih =>
    intro i acc n K hd hK ha hn
    obtain ⟨K, rfl⟩ : ∃ j, K = j + 1 := ⟨K - 1, by omega⟩
    have ei : wrap64 ((i : Int) + 1) = ((i + 1 : Nat) : Int) := by unfold wrap64; omega
    have en : wrap64 (n + 1) = n + 1 := by unfold wrap64; omega
    rw [prop_Levels.l0, if_pos (by omega), if_pos (by omega), if_pos (by omega), ei, en, drop32 (show i < t.length by omega)]
    unfold levF
    by_cases h : (rd_T32 t (i : Int)).f1 = -1
    · rw [if_pos h, if_pos (by omega), if_pos h, ih (i + 1) _ _ K (by omega) (by omega) (by simp [ha]) (by omega)]
      simp
    · rw [if_neg h, if_pos (by omega), if_neg h, ih (i + 1) _ _ K (by omega) (by omega) (by simp [ha]) (by omega)]
      simp
theorem rlev_l0 {t : List S32} (ht : t.length ≤ 100000) : ∀ (d i : Nat) (acc : List Int) (n : Int) (K : Nat), t.length = i + d → d + 1 ≤ K → acc.length = i → 0 ≤ n ∧ n ≤ i → chalklineref19_Levels.l0 K t acc n (i : Int) = some (acc ++ levF n (t.drop i)) := by
  intro d
  induction d with
  | zero =>
    intro i acc n K hd hK ha hn
    obtain ⟨K, rfl⟩ : ∃ j, K = j + 1 := ⟨K - 1, by omega⟩
    rw [chalklineref19_Levels.l0, if_neg (by omega), List.drop_of_length_le (by omega)]
    simp [levF]
  | succ d ih =>
    intro i acc n K hd hK ha hn
    obtain ⟨K, rfl⟩ : ∃ j, K = j + 1 := ⟨K - 1, by omega⟩
    have ei : wrap64 ((i : Int) + 1) = ((i + 1 : Nat) : Int) := by unfold wrap64; omega
    have en : wrap64 (n + 1) = n + 1 := by unfold wrap64; omega
    rw [chalklineref19_Levels.l0, if_pos (by omega), if_pos (by omega), ei, en, drop32 (show i < t.length by omega)]
    unfold levF
    by_cases h : (rd_T32 t (i : Int)).f1 = -1
    · rw [if_pos h, if_pos (by omega), if_pos h, ih (i + 1) _ _ K (by omega) (by omega) (by simp [ha]) (by omega)]
      simp
    · rw [if_neg h, if_pos (by omega), if_neg h, ih (i + 1) _ _ K (by omega) (by omega) (by simp [ha]) (by omega)]
      simp
theorem plev_f {t : List S32} (ht : t.length ≤ 100000) {K : Nat} (hK : t.length + 1 ≤ K) : prop_Levels.f K t = some (levF 0 t) := by
  have h := plev_l0 ht t.length 0 [] 0 K (by omega) hK rfl (by omega)
  rw [List.drop_zero, List.nil_append] at h
  exact h
theorem rlev_f {t : List S32} (ht : t.length ≤ 100000) {K : Nat} (hK : t.length + 1 ≤ K) : chalklineref19_Levels.f K t = some (levF 0 t) := by
  have h := rlev_l0 ht t.length 0 [] 0 K (by omega) hK rfl (by omega)
  rw [List.drop_zero, List.nil_append] at h
  exact h

theorem lev_head {lv : List Int} {t : List S32} {n : Int} {i : Nat} (hi : i < t.length) (h : lv.drop i = levF n (t.drop i)) : rd lv (i : Int) = (if (rd_T32 t (i : Int)).f1 = -1 then n + 1 else n) ∧ lv.drop (i + 1) = levF (if (rd_T32 t (i : Int)).f1 = -1 then n + 1 else n) (t.drop (i + 1)) := by
  rw [drop32 hi] at h
  unfold levF at h
  have hl : i < lv.length := by
    rcases Nat.lt_or_ge i lv.length with q | q
    · exact q
    · rw [List.drop_of_length_le q] at h; split at h <;> cases h
  rw [drop_rd hl] at h
  have e : rd lv (i : Int) = lv.getD i 0 := by simp [rd]
  rw [e]
  split at h
  · rename_i q; injection h with h1 h2; rw [if_pos q]; exact ⟨h1, h2⟩
  · rename_i q; injection h with h1 h2; rw [if_neg q]; exact ⟨h1, h2⟩

theorem pback_l0 {t : List S32} (ht : t.length ≤ 100000) (k : Int) {lv : List Int} (hlv : lv.length = t.length) : ∀ (d i : Nat) (acc : List S32) (n : Int) (K : Nat), t.length = i + d → d + 1 ≤ K → acc.length ≤ i → lv.drop i = levF n (t.drop i) → prop_Back.l0 K t k acc lv (lv.length : Int) (i : Int) = some (acc ++ backF k n (t.drop i)) := by
  intro d
  induction d with
  | zero =>
    intro i acc n K hd hK ha hn
    obtain ⟨K, rfl⟩ : ∃ j, K = j + 1 := ⟨K - 1, by omega⟩
    rw [prop_Back.l0, if_neg (by omega), List.drop_of_length_le (by omega)]
    simp [backF]
  | succ d ih =>
    intro i acc n K hd hK ha hn
    obtain ⟨K, rfl⟩ : ∃ j, K = j + 1 := ⟨K - 1, by omega⟩
    have ei : wrap64 ((i : Int) + 1) = ((i + 1 : Nat) : Int) := by unfold wrap64; omega
    obtain ⟨h1, h2⟩ := lev_head (show i < t.length by omega) hn
    rw [prop_Back.l0, if_pos (by omega), if_pos (by omega), if_pos (by omega), ei, h1, drop32 (show i < t.length by omega)]
    unfold backF
    by_cases h : (rd_T32 t (i : Int)).f1 = -1
    · rw [if_pos h] at h2 ⊢
      rw [if_pos h]
      by_cases hk : n + 1 ≤ k
      · rw [if_pos hk, if_pos (by omega), if_pos (by omega), if_pos hk, ih (i + 1) _ _ K (by omega) (by omega) (by simp; omega) h2]
        simp
      · rw [if_neg hk, if_neg hk, ih (i + 1) _ _ K (by omega) (by omega) (by omega) h2]
    · rw [if_neg h] at h2 ⊢
      rw [if_neg h]
      by_cases hk : n ≤ k
      · rw [if_pos hk, if_pos (by omega), if_pos (by omega), if_pos hk, ih (i + 1) _ _ K (by omega) (by omega) (by simp; omega) h2]
        simp
      · rw [if_neg hk, if_neg hk, ih (i + 1) _ _ K (by omega) (by omega) (by omega) h2]
theorem rback_l0 {t : List S32} (ht : t.length ≤ 100000) (k : Int) {lv : List Int} (hlv : lv.length = t.length) : ∀ (d i : Nat) (acc : List S32) (n : Int) (K : Nat), t.length = i + d → d + 1 ≤ K → acc.length ≤ i → lv.drop i = levF n (t.drop i) → chalklineref19_Back.l0 K t k acc lv (i : Int) = some (acc ++ backF k n (t.drop i)) := by
  intro d
  induction d with
  | zero =>
    intro i acc n K hd hK ha hn
    obtain ⟨K, rfl⟩ : ∃ j, K = j + 1 := ⟨K - 1, by omega⟩
    rw [chalklineref19_Back.l0, if_neg (by omega), List.drop_of_length_le (by omega)]
    simp [backF]
  | succ d ih =>
    intro i acc n K hd hK ha hn
    obtain ⟨K, rfl⟩ : ∃ j, K = j + 1 := ⟨K - 1, by omega⟩
    have ei : wrap64 ((i : Int) + 1) = ((i + 1 : Nat) : Int) := by unfold wrap64; omega
    obtain ⟨h1, h2⟩ := lev_head (show i < t.length by omega) hn
    rw [chalklineref19_Back.l0, if_pos (by omega), if_pos (by omega), if_pos (by omega), ei, h1, drop32 (show i < t.length by omega)]
    unfold backF
    by_cases h : (rd_T32 t (i : Int)).f1 = -1
    · rw [if_pos h] at h2 ⊢
      rw [if_pos h]
      by_cases hk : n + 1 ≤ k
      · rw [if_pos hk, if_pos (by omega), if_pos hk, ih (i + 1) _ _ K (by omega) (by omega) (by simp; omega) h2]
        simp
      · rw [if_neg hk, if_neg hk, ih (i + 1) _ _ K (by omega) (by omega) (by omega) h2]
    · rw [if_neg h] at h2 ⊢
      rw [if_neg h]
      by_cases hk : n ≤ k
      · rw [if_pos hk, if_pos (by omega), if_pos hk, ih (i + 1) _ _ K (by omega) (by omega) (by simp; omega) h2]
        simp
      · rw [if_neg hk, if_neg hk, ih (i + 1) _ _ K (by omega) (by omega) (by omega) h2]
theorem pback_f {t : List S32} (ht : t.length ≤ 100000) (k : Int) {K : Nat} (hK : t.length + 1 ≤ K) : prop_Back.f K t k = some (backF k 0 t) := by
  unfold prop_Back.f
  rw [plev_f ht hK]
  have h := pback_l0 ht k (levF_len 0 t) t.length 0 [] 0 K (by omega) hK (by simp) rfl
  rw [List.drop_zero, List.nil_append] at h
  exact h
theorem rback_f {t : List S32} (ht : t.length ≤ 100000) (k : Int) {K : Nat} (hK : t.length + 1 ≤ K) : chalklineref19_Back.f K t k = some (backF k 0 t) := by
  unfold chalklineref19_Back.f
  rw [rlev_f ht hK]
  have h := rback_l0 ht k (levF_len 0 t) t.length 0 [] 0 K (by omega) hK (by simp) rfl
  rw [List.drop_zero, List.nil_append] at h
  exact h

theorem ints_self_l0 {l : List Int} (hl : l.length ≤ 1000000) : ∀ (d i K : Nat), l.length = i + d → d + 1 ≤ K → chalklineref14_Ints.l0 K l l (i : Int) = some true := by
  intro d
  induction d with
  | zero =>
    intro i K hd hK
    obtain ⟨K, rfl⟩ : ∃ j, K = j + 1 := ⟨K - 1, by omega⟩
    rw [chalklineref14_Ints.l0, if_neg (by omega)]
  | succ d ih =>
    intro i K hd hK
    obtain ⟨K, rfl⟩ : ∃ j, K = j + 1 := ⟨K - 1, by omega⟩
    rw [chalklineref14_Ints.l0, if_pos (by omega), if_pos (by omega), if_pos (by omega), if_pos rfl, show wrap64 ((i : Int) + 1) = ((i + 1 : Nat) : Int) from by unfold wrap64; omega]
    exact ih (i + 1) K (by omega) (by omega)
theorem ints_self {l : List Int} (hl : l.length ≤ 1000000) {K : Nat} (hK : l.length + 1 ≤ K) : chalklineref14_Ints.f K l l = some true := by
  unfold chalklineref14_Ints.f
  rw [if_pos rfl]
  exact ints_self_l0 hl l.length 0 K (by omega) hK
theorem steps_self_l0 {l : List S32} (hl : l.length ≤ 1000000) : ∀ (d i K : Nat), l.length = i + d → d + 1 ≤ K → chalklineref19_Steps.l0 K l l (i : Int) = some true := by
  intro d
  induction d with
  | zero =>
    intro i K hd hK
    obtain ⟨K, rfl⟩ : ∃ j, K = j + 1 := ⟨K - 1, by omega⟩
    rw [chalklineref19_Steps.l0, if_neg (by omega)]
  | succ d ih =>
    intro i K hd hK
    obtain ⟨K, rfl⟩ : ∃ j, K = j + 1 := ⟨K - 1, by omega⟩
    rw [chalklineref19_Steps.l0, if_pos (by omega), if_pos (by omega), if_pos (by omega), if_neg (by simp), show wrap64 ((i : Int) + 1) = ((i + 1 : Nat) : Int) from by unfold wrap64; omega]
    exact ih (i + 1) K (by omega) (by omega)
theorem steps_self {l : List S32} (hl : l.length ≤ 1000000) {K : Nat} (hK : l.length + 1 ≤ K) : chalklineref19_Steps.f K l l = some true := by
  unfold chalklineref19_Steps.f
  rw [if_pos rfl]
  exact steps_self_l0 hl l.length 0 K (by omega) hK
theorem backF_len (k : Int) : ∀ (n : Int) (t : List S32), (backF k n t).length ≤ t.length
  | _, [] => Nat.le_refl _
  | n, s :: t => by
    have h1 := backF_len k (n + 1) t
    have h2 := backF_len k n t
    unfold backF
    split
    · split <;> simp <;> omega
    · split <;> simp <;> omega

#print axioms pback_f
#print axioms rback_f
#print axioms steps_self
end Go.Proofs.Ytidgljajegoffaa.G
