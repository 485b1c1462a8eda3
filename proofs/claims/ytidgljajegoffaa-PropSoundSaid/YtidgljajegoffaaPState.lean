/-
  What a look at a clause says, and a literal's truth under an assignment, in plain Lean.
-/
import Derived.Test.YtidgljajegoffaaPValue
import Derived.Test.YtidgljajegoffaaPPlain
namespace Go.Proofs.Ytidgljajegoffaa.G
set_option linter.unusedVariables false
open Go.RowKit Go.Proofs.YtidgljajegoffaaW.PrintWords Go.Proofs.YtidgljajegoffaaW.PrintLast Go.Proofs.YtidgljajegoffaaW.PrintMore
open Go.Proofs.Ytidgljajegoffaa.QRef (S32 z32)

/-- Rows' literals in Go's range, rows no longer than memory lets them be. -/
def RowsOk (cs : List (List Int)) : Prop := (∀ c ∈ cs, c.length ≤ 140737488355328) ∧ ∀ c ∈ cs, ∀ x ∈ c, (Lit.int .i64 x).wf = true

theorem okC_of {cs : List (List Int)} (h : RowsOk cs) (h1 : cs.length ≤ 200) (h2 : ∀ c ∈ cs, c.length ≤ 1000) : okC cs = true := by
  unfold okC
  rw [Bool.and_eq_true, decide_eq_true_iff, List.all_eq_true]
  refine ⟨by omega, fun c hc => ?_⟩
  rw [Bool.and_eq_true, decide_eq_true_iff]
  have := h2 c hc
  exact ⟨by omega, by unfold wfL; rw [List.all_eq_true]; exact h.2 c hc⟩

/-- Is the literal true under a? -/
def litV (a : List Bool) (x : Int) : Bool := (a.getD x.natAbs false) == decide (0 < x)
theorem litV_neg (a : List Bool) {x : Int} (h : x ≠ 0) : litV a (-x) = !(litV a x) := by
  unfold litV
  rw [Int.natAbs_neg]
  rcases Int.lt_or_lt_of_ne h with q | q
  · rw [decide_eq_true (by omega : 0 < -x), decide_eq_false (by omega : ¬ 0 < x)]
    cases a.getD x.natAbs false <;> rfl
  · rw [decide_eq_false (by omega : ¬ 0 < -x), decide_eq_true (by omega : 0 < x)]
    cases a.getD x.natAbs false <;> rfl
theorem litB_V (a : List Bool) {x : Int} (h0 : x ≠ 0) (h1 : -65536 ≤ x) (h2 : x ≤ 65536) : litB a x = litV a x := by
  have e : wrap64 (-65536) = -65536 := by decide +kernel
  have hm : mx x (wrap64 (-x)) = (x.natAbs : Int) := by unfold mx wrap64; split <;> omega
  unfold litB QSmall.cnf_lit_true.f QSmall.cnf_lit_may.f QSmall.cnf_lit_of.f
  rw [e, if_neg h0, if_pos h1, decide_eq_true h2]
  simp only [Option.bind_some, if_true]
  rw [hm]
  unfold litV
  by_cases h : (x.natAbs : Int) < (a.length : Int)
  · rw [if_pos h, if_pos (by omega)]
    simp [rdOf]
  · rw [if_neg h]
    have : a.getD x.natAbs false = false := by
      rw [List.getD_eq_getElem?_getD, List.getElem?_eq_none (by omega)]; rfl
    rw [this]
    simp

theorem lookF_true {T : Int → Bool} : ∀ (c o : List Int), (lookF T c o).2 = true → ∃ x ∈ c, T x = true
  | [], o, h => by simp [lookF] at h
  | x :: c, o, h => by
    have tl : (∃ y ∈ c, T y = true) → ∃ y ∈ x :: c, T y = true := fun ⟨y, h1, h2⟩ => ⟨y, List.mem_cons_of_mem _ h1, h2⟩
    unfold lookF at h
    by_cases q1 : T x = true
    · exact ⟨x, List.mem_cons_self, q1⟩
    rw [if_neg q1] at h
    by_cases q2 : T (-x) = true
    · rw [if_pos q2] at h; exact tl (lookF_true c o h)
    rw [if_neg q2] at h
    by_cases q3 : 2 ≤ o.length
    · rw [if_pos q3] at h; exact tl (lookF_true c o h)
    rw [if_neg q3] at h
    by_cases q4 : o.contains x = true
    · rw [if_pos q4] at h; exact tl (lookF_true c o h)
    · rw [if_neg q4] at h; exact tl (lookF_true c _ h)

theorem lookF_spec {T : Int → Bool} : ∀ (c o : List Int), o.length ≤ 2 → (lookF T c o).2 = false →
    (∀ x ∈ c, T x = false) ∧ (lookF T c o).1.length ≤ 2 ∧ (∀ x ∈ o, x ∈ (lookF T c o).1) ∧ (∀ x ∈ (lookF T c o).1, x ∈ o ∨ (x ∈ c ∧ T x = false ∧ T (-x) = false)) ∧ (∀ x ∈ c, T (-x) = false → x ∈ (lookF T c o).1 ∨ 2 ≤ (lookF T c o).1.length) ∧ o.length ≤ (lookF T c o).1.length
  | [], o, ho, _ => by
    unfold lookF
    exact ⟨fun x hx => (List.not_mem_nil hx).elim, ho, fun x hx => hx, fun x hx => Or.inl hx, fun x hx => (List.not_mem_nil hx).elim, Nat.le_refl _⟩
  | y :: c, o, ho, h => by
    unfold lookF at h ⊢
    by_cases q1 : T y = true
    · rw [if_pos q1] at h; cases h
    have q1' : T y = false := by simpa using q1
    rw [if_neg q1] at h ⊢
    by_cases q2 : T (-y) = true
    · rw [if_pos q2] at h ⊢
      obtain ⟨a1, a2, a3, a4, a5, a6⟩ := lookF_spec c o ho h
      refine ⟨fun x hx => ?_, a2, a3, fun x hx => ?_, fun x hx hn => ?_, a6⟩
      · rcases List.mem_cons.1 hx with e | hx
        · rw [e]; exact q1'
        · exact a1 x hx
      · rcases a4 x hx with q | ⟨q, r⟩
        · exact .inl q
        · exact .inr ⟨List.mem_cons_of_mem _ q, r⟩
      · rcases List.mem_cons.1 hx with e | hx
        · rw [e, q2] at hn; cases hn
        · exact a5 x hx hn
    have q2' : T (-y) = false := by simpa using q2
    rw [if_neg q2] at h ⊢
    by_cases q3 : 2 ≤ o.length
    · rw [if_pos q3] at h ⊢
      obtain ⟨a1, a2, a3, a4, a5, a6⟩ := lookF_spec c o ho h
      refine ⟨fun x hx => ?_, a2, a3, fun x hx => ?_, fun x hx hn => .inr (by omega), a6⟩
      · rcases List.mem_cons.1 hx with e | hx
        · rw [e]; exact q1'
        · exact a1 x hx
      · rcases a4 x hx with q | ⟨q, r⟩
        · exact .inl q
        · exact .inr ⟨List.mem_cons_of_mem _ q, r⟩
    rw [if_neg q3] at h ⊢
    by_cases q4 : o.contains y = true
    · rw [if_pos q4] at h ⊢
      obtain ⟨a1, a2, a3, a4, a5, a6⟩ := lookF_spec c o ho h
      refine ⟨fun x hx => ?_, a2, a3, fun x hx => ?_, fun x hx hn => ?_, a6⟩
      · rcases List.mem_cons.1 hx with e | hx
        · rw [e]; exact q1'
        · exact a1 x hx
      · rcases a4 x hx with q | ⟨q, r⟩
        · exact .inl q
        · exact .inr ⟨List.mem_cons_of_mem _ q, r⟩
      · rcases List.mem_cons.1 hx with e | hx
        · rw [e]; exact .inl (a3 y (by simpa using q4))
        · exact a5 x hx hn
    · rw [if_neg q4] at h ⊢
      obtain ⟨a1, a2, a3, a4, a5, a6⟩ := lookF_spec c (o ++ [y]) (by rw [List.length_append, List.length_singleton]; omega) h
      rw [List.length_append, List.length_singleton] at a6
      refine ⟨fun x hx => ?_, a2, fun x hx => a3 x (List.mem_append_left _ hx), fun x hx => ?_, fun x hx hn => ?_, by omega⟩
      · rcases List.mem_cons.1 hx with e | hx
        · rw [e]; exact q1'
        · exact a1 x hx
      · rcases a4 x hx with q | ⟨q, r⟩
        · rcases List.mem_append.1 q with q | q
          · exact .inl q
          · rw [List.mem_singleton] at q; rw [q]; exact .inr ⟨List.mem_cons_self, q1', q2'⟩
        · exact .inr ⟨List.mem_cons_of_mem _ q, r⟩
      · rcases List.mem_cons.1 hx with e | hx
        · rw [e]; exact .inl (a3 y (by simp))
        · exact a5 x hx hn

theorem mem_idxL {m : Nat} {i : Int} (h : i ∈ idxL 0 m) : 0 ≤ i ∧ i < m := by
  unfold idxL at h
  obtain ⟨k, hk, rfl⟩ := List.mem_map.1 h
  rw [List.mem_range'_1] at hk
  omega
theorem idxL_mem {m k : Nat} (h : k < m) : (k : Int) ∈ idxL 0 m := by
  unfold idxL
  exact List.mem_map.2 ⟨k, by rw [List.mem_range'_1]; omega, rfl⟩

#print axioms lookF_spec
#print axioms litB_V
end Go.Proofs.Ytidgljajegoffaa.G
