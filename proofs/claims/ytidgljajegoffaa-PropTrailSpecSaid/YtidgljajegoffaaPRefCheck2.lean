/-
  The reference's Check of a trail says what prop.Check says: in plain Lean.
-/
import Derived.Test.YtidgljajegoffaaPRefCheck
namespace Go.Proofs.Ytidgljajegoffaa.G
set_option linter.unusedVariables false
open Go.RowKit Go.Proofs.YtidgljajegoffaaW.PrintWords Go.Proofs.YtidgljajegoffaaW.PrintLast Go.Proofs.YtidgljajegoffaaW.PrintMore
open Go.Proofs.Ytidgljajegoffaa.QRef

theorem all_any {p q : Int → Bool} (h : ∀ y, p y = !(q y)) : ∀ {l : List Int}, l.all p = !(l.any q)
  | [] => rfl
  | y :: l => by rw [List.all_cons, List.any_cons, h y, all_any h, Bool.not_or]

def litsOf (t : List S32) : List Int := t.map (fun s => s.f0)
theorem lits_l0 {t : List S32} (ht : t.length ≤ 100000) : ∀ (d i : Nat) (acc : List Int) (K : Nat), t.length = i + d → d + 1 ≤ K → acc.length = i → chalklineref19_Lits.l0 K t acc (i : Int) = some (acc ++ litsOf (t.drop i)) := by
  intro d
  induction d with
  | zero =>
    intro i acc K hd hK ha
    obtain ⟨K, rfl⟩ : ∃ j, K = j + 1 := ⟨K - 1, by omega⟩
    rw [chalklineref19_Lits.l0, if_neg (by omega), List.drop_of_length_le (by omega)]
    simp [litsOf]
  | succ d ih =>
    intro i acc K hd hK ha
    obtain ⟨K, rfl⟩ : ∃ j, K = j + 1 := ⟨K - 1, by omega⟩
    rw [chalklineref19_Lits.l0, if_pos (by omega), if_pos (by omega), if_pos (by omega), show wrap64 ((i : Int) + 1) = ((i + 1 : Nat) : Int) from by unfold wrap64; omega, ih (i + 1) _ K (by omega) (by omega) (by simp [ha]), drop32 (show i < t.length by omega)]
    simp [litsOf]
theorem lits_f {t : List S32} (ht : t.length ≤ 100000) {K : Nat} (hK : t.length + 1 ≤ K) : chalklineref19_Lits.f K t = some (litsOf t) := by
  have h := lits_l0 ht t.length 0 [] K (by omega) hK rfl
  rw [List.drop_zero, List.nil_append] at h
  exact h

theorem by_l0 {l known : List Int} {x : Int} (hl : l.length ≤ 1000) (hk : known.length ≤ 1000) (hb : ∀ y ∈ l, LitP y) : ∀ (d i K : Nat), l.length = i + d → d + 1100 ≤ K → chalklineref19_by.l0 K l x known (i : Int) = some ((l.drop i).all (fun y => y == x || known.contains (-y)) && l.contains x) := by
  intro d
  induction d with
  | zero =>
    intro i K hd hK
    obtain ⟨K, rfl⟩ : ∃ j, K = j + 1 := ⟨K - 1, by omega⟩
    rw [chalklineref19_by.l0, if_neg (by omega), List.drop_of_length_le (by omega), has_f (by omega) (by omega)]
    simp
  | succ d ih =>
    intro i K hd hK
    obtain ⟨K, rfl⟩ : ∃ j, K = j + 1 := ⟨K - 1, by omega⟩
    have hi : i < l.length := by omega
    have hm : l.getD i 0 ∈ l := by simp [List.getD_eq_getElem?_getD, hi]
    obtain ⟨b0, b1, b2⟩ := hb _ hm
    have en : wrap64 (-(l.getD i 0)) = -(l.getD i 0) := by unfold wrap64; omega
    rw [chalklineref19_by.l0, if_pos (by omega), if_pos (by omega), show wrap64 ((i : Int) + 1) = ((i + 1 : Nat) : Int) from by unfold wrap64; omega, show rd l (i : Int) = l.getD i 0 by simp [rd], drop_rd hi, en, List.all_cons, ih (i + 1) K (by omega) (by omega), has_f (by omega) (by omega)]
    by_cases h : l.getD i 0 = x
    · rw [if_pos h, beq_iff_eq.2 h]; simp
    · rw [if_neg h, beq_eq_false_iff_ne.2 h]
      simp only [Option.bind_some, Bool.false_or]
      cases known.contains (-(l.getD i 0)) with
      | true => simp
      | false => simp

theorem chk_l0 {n : Int} (hn : 0 ≤ n ∧ n ≤ 65536) {cs : List (List Int)} (hc : cs.length ≤ 200) (hr : ∀ c ∈ cs, c.length ≤ 1000) (hb : ∀ c ∈ cs, ∀ y ∈ c, LitP y) {t : List S32} (ht : t.length ≤ 60) : ∀ (d i K : Nat) (T : Int → Bool), t.length = i + d → 2 * d + 3000 ≤ K → (∀ y, T y = ((litsOf t).take i).contains y) →
    chalklineref19_Check.l0 K t (litsOf t) (i : Int) n cs = some (chkT n cs T (t.drop i)) := by
  intro d
  induction d with
  | zero =>
    intro i K T hd hK hT
    obtain ⟨K, rfl⟩ : ∃ j, K = j + 1 := ⟨K - 1, by omega⟩
    rw [chalklineref19_Check.l0, if_neg (by omega), List.drop_of_length_le (by omega)]
    rfl
  | succ d ih =>
    intro i K T hd hK hT
    obtain ⟨K, rfl⟩ : ∃ j, K = j + 2 := ⟨K - 2, by omega⟩
    have hi : i < t.length := by omega
    have hll : (litsOf t).length = t.length := by unfold litsOf; simp
    have ei : wrap64 ((i : Int) + 1) = ((i + 1 : Nat) : Int) := by unfold wrap64; omega
    obtain ⟨s, hs⟩ : ∃ s, rd_T32 t (i : Int) = s := ⟨_, rfl⟩
    have hsi : t[i] = s := by rw [← hs]; simp [rd_T32, List.getD_eq_getElem?_getD, hi]
    have hj1 : ∀ a b, chalklineref19_Check.j1 (K + 1) t (litsOf t) (i : Int) true n cs a b = some 1 := fun a b => by rw [chalklineref19_Check.j1, if_pos rfl]
    have hlen : ((litsOf t).take i).length ≤ 1000 := by rw [List.length_take]; omega
    have hTn : ∀ y, updT T s.f0 y = ((litsOf t).take (i + 1)).contains y := fun y => by
      have e : (litsOf t).take (i + 1) = (litsOf t).take i ++ [s.f0] := by
        rw [List.take_succ_eq_append_getElem (by omega)]
        congr 1
        unfold litsOf
        simp [hsi]
      rw [e]
      unfold updT
      rw [hT y]
      simp only [List.contains_eq_mem, List.mem_append, List.mem_singleton]
      by_cases h : y = s.f0
      · simp [h]
      · simp [h]
    have hnext := ih (i + 1) K (updT T s.f0) (by omega) (by omega) hTn
    rw [chalklineref19_Check.l0, if_pos (by omega), if_pos (by omega), hs, is_f hn, drop32 hi, hs]
    simp only [Option.bind_some, Int.toNat_natCast]
    unfold chkT
    by_cases q1 : s.f0 = 0
    · rw [if_pos q1, if_neg (by simp [q1])]; exact hj1 _ _
    rw [if_neg q1]
    by_cases q2 : n < s.f0
    · rw [if_pos q2, if_neg (by rw [decide_eq_true_eq]; omega)]; exact hj1 _ _
    rw [if_neg q2]
    by_cases q3 : s.f0 < -n
    · rw [if_pos q3, if_neg (by rw [decide_eq_true_eq]; omega)]; exact hj1 _ _
    rw [if_neg q3, if_pos (by rw [decide_eq_true_eq]; omega), if_pos (by omega), has_f (by omega) (by omega), has_f (by omega) (by omega), show wrap64 (-s.f0) = -s.f0 from by unfold wrap64; omega, ← hT, ← hT]
    simp only [Option.bind_some]
    cases hT1 : T s.f0 with
    | true => rw [if_pos rfl, if_pos (by simp)]; exact hj1 _ _
    | false =>
      rw [if_neg (by decide)]
      cases hT2 : T (-s.f0) with
      | true => rw [if_pos rfl, if_pos (by simp)]; exact hj1 _ _
      | false =>
        rw [if_neg (by decide), if_neg (show ¬ ((false || false) = true) by decide)]
        by_cases q4 : s.f1 < -1
        · rw [if_pos q4, if_pos q4]; exact hj1 _ _
        rw [if_neg q4, if_neg q4]
        by_cases q5 : (cs.length : Int) ≤ s.f1
        · rw [if_pos q5, decide_eq_true (show s.f1 ≥ (cs.length : Int) from q5)]; exact hj1 _ _
        rw [if_neg q5, decide_eq_false (show ¬ s.f1 ≥ (cs.length : Int) from q5), chalklineref19_Check.j1, if_neg (by decide), ei]
        by_cases q6 : s.f1 < 0
        · rw [if_pos q6, if_neg (by omega)]; exact hnext
        rw [if_neg q6, if_pos (by omega), if_pos (by omega), if_pos (by omega), if_pos (by omega), if_pos (by omega)]
        have hm : cs.getD s.f1.toNat [] ∈ cs := by simp [List.getD_eq_getElem?_getD, show s.f1.toNat < cs.length by omega]
        have hby := by_l0 (x := s.f0) (known := (litsOf t).take i) (hr _ hm) hlen (hb _ hm) (cs.getD s.f1.toNat []).length 0 K (by omega) (by have := hr _ hm; omega)
        rw [List.drop_zero] at hby
        have hrd : rd_L2 cs s.f1 = cs.getD s.f1.toNat [] := rfl
        unfold chalklineref19_by.f
        rw [hrd, show (0 : Int) = ((0 : Nat) : Int) from rfl, Int.toNat_natCast, hby]
        simp only [Option.bind_some]
        have hall : (cs.getD s.f1.toNat []).all (fun y => y == s.f0 || ((litsOf t).take i).contains (-y)) = !((cs.getD s.f1.toNat []).any (openB s T)) := by
          refine all_any (fun y => ?_)
          unfold openB
          rw [hT (-y)]
          by_cases h : y = s.f0
          · simp [h]
          · simp [h]
        rw [hall]
        cases (cs.getD s.f1.toNat []).contains s.f0 with
        | false => rw [if_pos rfl, Bool.and_false, if_neg (by decide)]
        | true =>
          rw [if_neg (show ¬ (true = false) by decide), Bool.and_true]
          cases (cs.getD s.f1.toNat []).any (openB s T) with
          | true => rw [if_pos rfl]; rfl
          | false => rw [if_neg (show ¬ (false = true) by decide)]; exact hnext

theorem rcheck_f {n : Int} {cs : List (List Int)} (hc : cs.length ≤ 200) (hr : ∀ c ∈ cs, c.length ≤ 1000) {t : List S32} (ht : t.length ≤ 60) {K : Nat} (hK : 300000 ≤ K) : chalklineref19_Check.f K n cs t = some (checkP n cs t) := by
  unfold chalklineref19_Check.f checkP
  rw [rc_f hc hr hK]
  simp only [Option.bind_some]
  by_cases h0 : checkB n cs = 0
  · obtain ⟨l1, l2, l3⟩ := checkB_lit h0
    have h := chk_l0 l1 hc hr (fun c hcm x hx => by obtain ⟨a, b, d⟩ := l3 c hcm x hx; exact ⟨a, by omega, by omega⟩) ht t.length 0 K (fun _ => false) (by omega) (by omega) (fun y => by simp)
    rw [List.drop_zero] at h
    rw [if_pos h0, if_neg (fun h => h h0), lits_f (by omega) (by omega)]
    exact h
  · rw [if_neg h0, if_pos h0]

#print axioms rcheck_f
end Go.Proofs.Ytidgljajegoffaa.G
