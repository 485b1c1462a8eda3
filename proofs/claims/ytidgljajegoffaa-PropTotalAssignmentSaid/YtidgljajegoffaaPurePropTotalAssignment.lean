/-
  The plain law of PropTotalAssignment: where all variables are decided, Prop reports no conflict exactly if the decisions are a model.
-/
import Derived.Test.YtidgljajegoffaaQTax1
import Derived.Test.YtidgljajegoffaaPState
namespace Go.Proofs.Ytidgljajegoffaa.Pure
set_option linter.unusedVariables false
open Go.RowKit Go.Proofs.Ytidgljajegoffaa.QTa Go.Proofs.Ytidgljajegoffaa.QRef Go.Proofs.YtidgljajegoffaaW.PrintWords Go.Proofs.YtidgljajegoffaaW.PrintLast Go.Proofs.YtidgljajegoffaaW.PrintMore
open Go.Proofs.Ytidgljajegoffaa.G

/-- The decision of variable v under a. -/
def decS (a : List Bool) (v : Nat) : S32 := ⟨if a.getD v false = true then (v : Int) else -(v : Int), -1⟩
def decL (a : List Bool) (j m : Nat) : List S32 := (List.range' j m).map (decS a)
theorem decL_len (a : List Bool) (j m : Nat) : (decL a j m).length = m := by simp [decL]
theorem decL_cons (a : List Bool) (j m : Nat) : decL a j (m + 1) = decS a j :: decL a (j + 1) m := by unfold decL; rw [List.range'_succ, List.map_cons]
theorem decL_snoc (a : List Bool) (j m : Nat) : decL a j (m + 1) = decL a j m ++ [decS a (j + m)] := by
  unfold decL; rw [List.range'_1_concat, List.map_append]; rfl
theorem decS_abs (a : List Bool) (v : Nat) : (decS a v).f0 = v ∨ (decS a v).f0 = -(v : Int) := by unfold decS; dsimp only; split <;> simp
theorem decS_eq (a : List Bool) {v : Nat} (hv : 1 ≤ v) (y : Int) : y = (decS a v).f0 ↔ y.natAbs = v ∧ litV a y = true := by
  unfold decS litV
  dsimp only
  cases hb : a.getD v false with
  | true =>
    rw [if_pos rfl]
    constructor
    · intro h; subst h; refine ⟨by simp, ?_⟩; rw [Int.natAbs_natCast, hb]; simp; omega
    · rintro ⟨h1, h2⟩; rw [h1, hb] at h2; simp at h2; omega
  | false =>
    rw [if_neg (by decide)]
    constructor
    · intro h; subst h; refine ⟨by simp, ?_⟩; rw [Int.natAbs_neg, Int.natAbs_natCast, hb]; simp
    · rintro ⟨h1, h2⟩; rw [h1, hb] at h2; simp at h2; omega

theorem chk_dec (a : List Bool) (n : Int) (cs : List (List Int)) : ∀ (d j : Nat) (T : Int → Bool), 1 ≤ j → ((j + d : Nat) : Int) ≤ n + 1 → (∀ y, T y = true → y.natAbs < j) → chkT n cs T (decL a j d) = 0
  | 0, j, T, _, _, _ => rfl
  | d + 1, j, T, hj, hn, hT => by
    have hs := decS_abs a j
    have h1 : (decS a j).f1 = -1 := rfl
    have ht : ∀ y : Int, y.natAbs = j → T y = false := fun y hy => by
      cases hq : T y with
      | false => rfl
      | true => have := hT y hq; omega
    rw [decL_cons]
    unfold chkT
    rw [if_neg (by omega), if_neg (by omega), if_neg (by omega), ht _ (by omega), ht _ (by omega), if_neg (by decide), h1, if_neg (by decide), if_neg (by omega), if_pos (by decide)]
    refine chk_dec a n cs d (j + 1) _ (by omega) (by rw [show j + 1 + d = j + (d + 1) by omega]; exact hn) (fun y hy => ?_)
    unfold updT at hy
    split at hy
    · rename_i q; omega
    · have := hT y hy; omega

theorem steps_dec (a : List Bool) (y : Int) : ∀ (d j : Nat) (T : Int → Bool), 1 ≤ j → stepsT T (decL a j d) y = (T y || (decide (j ≤ y.natAbs ∧ y.natAbs < j + d) && litV a y))
  | 0, j, T, hj => by
    rw [decide_eq_false (by omega), Bool.false_and, Bool.or_false]; rfl
  | d + 1, j, T, hj => by
    rw [decL_cons]
    show stepsT (updT T (decS a j).f0) (decL a (j + 1) d) y = _
    rw [steps_dec a y d (j + 1) _ (by omega)]
    unfold updT
    by_cases q : y = (decS a j).f0
    · have h := (decS_eq a hj y).1 q
      rw [if_pos q, h.2, decide_eq_true (by omega : j ≤ y.natAbs ∧ y.natAbs < j + (d + 1))]
      simp
    · rw [if_neg q]
      have h : ¬ (y.natAbs = j ∧ litV a y = true) := fun h => q ((decS_eq a hj y).2 h)
      cases hl : litV a y with
      | false => simp
      | true =>
        have h2 : y.natAbs ≠ j := fun e => h ⟨e, hl⟩
        have e : decide (j + 1 ≤ y.natAbs ∧ y.natAbs < j + 1 + d) = decide (j ≤ y.natAbs ∧ y.natAbs < j + (d + 1)) := by
          rw [decide_eq_decide]; omega
        rw [e]

/-- A visit where every literal is decided changes nothing. -/
theorem vis_dec {cs : List (List Int)} {s : PS} {i : Int} (h : ∀ x ∈ cs.getD i.toNat [], s.T (-x) = !(s.T x)) : vis cs s i = ((cs.getD i.toNat []).any s.T, s) := by
  unfold vis
  by_cases q : (lookF s.T (cs.getD i.toNat []) []).2 = true
  · rw [if_pos q]
    obtain ⟨x, h1, h2⟩ := lookF_true _ _ q
    rw [List.any_eq_true.2 ⟨x, h1, h2⟩]
  · rw [if_neg q]
    obtain ⟨a1, a2, a3, a4, a5, a6⟩ := lookF_spec (T := s.T) (cs.getD i.toNat []) [] (by simp) (by simpa using q)
    have e : (lookF s.T (cs.getD i.toNat []) []).1 = [] := by
      cases hl : (lookF s.T (cs.getD i.toNat []) []).1 with
      | nil => rfl
      | cons x r =>
        rcases a4 x (by rw [hl]; exact List.mem_cons_self) with h0 | ⟨h1, h2, h3⟩
        · cases h0
        · rw [h x h1, h2] at h3; cases h3
    have e2 : (cs.getD i.toNat []).any s.T = false := by
      rw [List.any_eq_false]; intro x hx; rw [a1 x hx]; decide
    rw [e, e2]

theorem visL_dec {cs : List (List Int)} {s : PS} : ∀ (L : List Int), (∀ i ∈ L, ∀ x ∈ cs.getD i.toNat [], s.T (-x) = !(s.T x)) →
    ((∀ i ∈ L, (cs.getD i.toNat []).any s.T = true) ∧ visL cs L s = (s, none)) ∨ ∃ i ∈ L, (cs.getD i.toNat []).any s.T = false ∧ visL cs L s = (s, some i)
  | [], _ => .inl ⟨fun i hi => (List.not_mem_nil hi).elim, rfl⟩
  | i :: L, h => by
    have hv := vis_dec (s := s) (h i List.mem_cons_self)
    unfold visL
    rw [hv]
    cases hb : (cs.getD i.toNat []).any s.T with
    | false =>
      rw [if_neg (by simp)]
      exact .inr ⟨i, List.mem_cons_self, hb, rfl⟩
    | true =>
      rw [if_pos rfl]
      rcases visL_dec L (fun j hj => h j (List.mem_cons_of_mem _ hj)) with ⟨h1, h2⟩ | ⟨j, h1, h2, h3⟩
      · refine .inl ⟨fun j hj => ?_, h2⟩
        rcases List.mem_cons.1 hj with e | hj
        · rw [e]; exact hb
        · exact h1 j hj
      · exact .inr ⟨j, List.mem_cons_of_mem _ h1, h2, h3⟩

theorem prop_dec {a : List Bool} {n : Nat} {cs : List (List Int)} (hn : n ≤ 60) (hok : okC cs = true) (hc : checkB n cs = 0) :
    ∃ r : Int, prop_Prop.f n cs (decL a 1 n) = some (decL a 1 n, r, 0) ∧ ((r == -1) = valueB n cs a) := by
  obtain ⟨_, _, l3⟩ := checkB_lit hc
  have hlen := decL_len a 1 n
  have hck : checkP n cs (decL a 1 n) = 0 := by
    unfold checkP
    rw [if_neg (fun h => h hc)]
    exact chk_dec a n cs n 1 _ (by omega) (by omega) (fun y hy => by cases hy)
  have hT : ∀ x : Int, x ≠ 0 → -(n : Int) ≤ x → x ≤ n → (startS (decL a 1 n)).T x = litV a x := by
    intro x h0 h1 h2
    show stepsT (fun _ => false) (decL a 1 n) x = _
    rw [steps_dec a x n 1 _ (by omega), decide_eq_true (by omega)]
    simp
  have hmem : ∀ i ∈ idxL 0 cs.length, cs.getD i.toNat [] ∈ cs := by
    intro i hi
    have := mem_idxL hi
    rw [List.getD_eq_getElem?_getD, List.getElem?_eq_getElem (by omega)]
    simp
  have hd : ∀ i ∈ idxL 0 cs.length, ∀ x ∈ cs.getD i.toNat [], (startS (decL a 1 n)).T (-x) = !((startS (decL a 1 n)).T x) := by
    intro i hi x hx
    obtain ⟨p0, p1, p2⟩ := l3 _ (hmem i hi) x hx
    rw [hT x p0 p1 p2, hT (-x) (by omega) (by omega) (by omega), litV_neg a p0]
  have hany : ∀ c ∈ cs, c.any (startS (decL a 1 n)).T = holdsB c a := by
    intro c hcm
    unfold holdsB
    rw [Bool.eq_iff_iff, List.any_eq_true, List.any_eq_true]
    constructor
    · rintro ⟨x, hx, h⟩
      obtain ⟨p0, p1, p2⟩ := l3 c hcm x hx
      exact ⟨x, hx, by rw [litB_V a p0 (by omega) (by omega), ← hT x p0 p1 p2]; exact h⟩
    · rintro ⟨x, hx, h⟩
      obtain ⟨p0, p1, p2⟩ := l3 c hcm x hx
      exact ⟨x, hx, by rw [hT x p0 p1 p2, ← litB_V a p0 (by omega) (by omega)]; exact h⟩
  unfold prop_Prop.f
  rw [if_pos ⟨hok, by omega⟩, if_neg (fun h => h hck)]
  unfold mainP
  rcases visL_dec (s := startS (decL a 1 n)) _ hd with ⟨h1, h2⟩ | ⟨i, h1, h2, h3⟩
  · rw [h2]
    refine ⟨-1, ?_, ?_⟩
    · show (todoF cs 30 _ _ (startS (decL a 1 n))).map _ = _
      unfold todoF
      rw [if_neg (by show ¬ (decL a 1 n).length < (decL a 1 n).length; omega)]
      rfl
    · unfold valueB
      rw [if_pos hc]
      have : cs.any (fun l => !(holdsB l a)) = false := by
        rw [List.any_eq_false]
        intro c hcm
        obtain ⟨k, hk, rfl⟩ := List.getElem_of_mem hcm
        have := h1 (k : Int) (idxL_mem hk)
        rw [Int.toNat_natCast, List.getD_eq_getElem?_getD, List.getElem?_eq_getElem hk, Option.getD_some, hany _ hcm] at this
        rw [this]
        decide
      rw [this]
      rfl
  · rw [h3]
    refine ⟨i, rfl, ?_⟩
    have h4 := mem_idxL h1
    unfold valueB
    rw [if_pos hc]
    have : cs.any (fun l => !(holdsB l a)) = true := by
      rw [List.any_eq_true]
      refine ⟨_, hmem i h1, ?_⟩
      rw [← hany _ (hmem i h1), h2]
      rfl
    rw [this]
    simp
    omega

theorem ta_l0 {a : List Bool} {n : Nat} {cs : List (List Int)} (hn : n ≤ 60) (hok : okC cs = true) (hc : checkB n cs = 0) : ∀ (d m K : Nat), n = m + d → d + 1 ≤ K →
    chalklinelaw19_PropTotalAssignment.l0 K a (decL a 1 m) ((m + 1 : Nat) : Int) n cs = some true := by
  intro d
  induction d with
  | zero =>
    intro m K hd hK
    obtain ⟨K, rfl⟩ : ∃ j, K = j + 1 := ⟨K - 1, by omega⟩
    obtain rfl : n = m := by omega
    obtain ⟨r, hr, hv⟩ := prop_dec (a := a) hn hok hc
    rw [chalklinelaw19_PropTotalAssignment.l0, if_neg (by omega), hr]
    simp only [Option.bind_some, if_true]
    have : cnf_Value.f n cs a = some (valueB n cs a) := by unfold cnf_Value.f; rw [if_pos hok]
    rw [this]
    simp only [Option.bind_some]
    rw [hv, beq_self_eq_true]
  | succ d ih =>
    intro m K hd hK
    obtain ⟨K, rfl⟩ : ∃ j, K = j + 1 := ⟨K - 1, by omega⟩
    have ei : wrap64 (((m + 1 : Nat) : Int) + 1) = ((m + 1 + 1 : Nat) : Int) := by unfold wrap64; omega
    have en : wrap64 (-((m + 1 : Nat) : Int)) = -((m + 1 : Nat) : Int) := by unfold wrap64; omega
    have hnext := ih (m + 1) K (by omega) (by omega)
    rw [decL_snoc, Nat.add_comm 1 m] at hnext
    have hl := decL_len a 1 m
    have hneg : a.getD (m + 1) false = false → chalklinelaw19_PropTotalAssignment.l0 K a (decL a 1 m ++ [(⟨-((m + 1 : Nat) : Int), -1⟩ : S32)]) ((m + 1 + 1 : Nat) : Int) n cs = some true := by
      intro h
      have e : decS a (m + 1) = ⟨-((m + 1 : Nat) : Int), -1⟩ := by unfold decS; rw [h, if_neg (by decide)]
      rw [← e]; exact hnext
    rw [chalklinelaw19_PropTotalAssignment.l0, if_pos (by omega), ei, en]
    by_cases q : ((m + 1 : Nat) : Int) < (a.length : Int)
    · rw [if_pos q, if_pos (by omega)]
      have e0 : rdOf false a ((m + 1 : Nat) : Int) = a.getD (m + 1) false := by unfold rdOf; rw [Int.toNat_natCast]
      rw [e0]
      cases hb : a.getD (m + 1) false with
      | true =>
        have e : decS a (m + 1) = ⟨((m + 1 : Nat) : Int), -1⟩ := by unfold decS; rw [hb, if_pos rfl]
        rw [if_pos rfl, if_pos (by omega), ← e]
        exact hnext
      | false =>
        rw [if_neg (by decide), if_pos (by omega)]
        exact hneg hb
    · rw [if_neg q, if_pos (by omega)]
      refine hneg ?_
      rw [List.getD_eq_getElem?_getD, List.getElem?_eq_none (by omega)]
      rfl

def TotalAssignmentPure : Prop := ∀ (a0_0 : Int) (l0_1 : List (List Int)) (l1 : List Bool), RowsOk l0_1 → ∃ k, chalklinelaw19_PropTotalAssignment.f k a0_0 l0_1 l1 = some true

theorem PropTotalAssignment : TotalAssignmentPure := by
  intro n cs a hw
  refine ⟨50 + (300000 + cs.length), ?_⟩
  obtain ⟨K, hK⟩ : ∃ K, 300000 + cs.length = K := ⟨_, rfl⟩
  rw [hK]
  unfold chalklinelaw19_PropTotalAssignment.f
  rw [live_f K]
  simp only [Option.bind_some, if_true]
  obtain ⟨b, hb, hbb⟩ := few_f (n := n) (t := []) hw.1 (K := 50 + K) (by omega)
  rw [hb]
  simp only [Option.bind_some]
  obtain ⟨K2, hK2⟩ : ∃ K2, 50 + K = K2 + 1 := ⟨49 + K, by omega⟩
  rw [hK2]
  have hj : ∀ m, chalklinelaw19_PropTotalAssignment.j0 (K2 + 1) a true m cs = some true := fun m => by rw [chalklinelaw19_PropTotalAssignment.j0, if_pos rfl]
  cases b with
  | false => rw [if_neg (by decide)]; exact hj _
  | true =>
    obtain ⟨h1, h2, h3⟩ := hbb rfl
    have hok := okC_of hw h1 h2
    rw [if_pos rfl]
    by_cases n0 : n < 0
    · rw [if_pos n0]; exact hj _
    rw [if_neg n0]
    by_cases n1 : n > 60
    · rw [if_pos n1]; exact hj _
    rw [if_neg n1]
    have hcf : cnf_Check.f n cs = some (checkB n cs) := by unfold cnf_Check.f; rw [if_pos hok]
    rw [hcf]
    simp only [Option.bind_some]
    by_cases hc : checkB n cs = 0
    · obtain ⟨m, rfl⟩ : ∃ m : Nat, n = m := ⟨n.toNat, by omega⟩
      rw [hc, chalklinelaw19_PropTotalAssignment.j0, if_neg (by decide)]
      exact ta_l0 (by omega) hok hc m 0 K2 (by omega) (by omega)
    · rw [show (checkB n cs != 0) = true by simpa using hc]; exact hj _

#print axioms PropTotalAssignment
end Go.Proofs.Ytidgljajegoffaa.Pure
