/-
  What total.Total's answer means where it answers no error: in plain Lean.
-/
import Derived.Test.YtdkfhpgbiohhoaaGModel
import Derived.Test.YtdkfhpgbiohhoaaGBounds
import Derived.Test.YtdkfhpgbiohhoaaGHolds
namespace Go.Proofs.Ytdkfhpgbiohhoaa.G
open Go.RowKit Go.Proofs.YtdkfhpgbiohhoaaW.PrintWords Go.Proofs.YtdkfhpgbiohhoaaW.PrintLast Go.Proofs.YtdkfhpgbiohhoaaW.PrintMore

theorem apartFrom_ne {n : Int} : ∀ (l : List Int) (S : Int → Bool), S 0 = true → apartFrom n S l = true → ∀ x ∈ l, x ≠ 0 := by
  intro l
  induction l with
  | nil => intro S _ _ x hx; cases hx
  | cons y l ih =>
    intro S hS hx x hm
    simp only [apartFrom] at hx
    split at hx
    · cases hx
    split at hx
    · cases hx
    split at hx
    · cases hx
    rename_i h1 h2 h3
    rcases List.mem_cons.1 hm with rfl | hm
    · rintro rfl
      have : vabs 0 = 0 := by decide +kernel
      rw [this] at h3
      exact h3 hS
    · exact ih _ (show (if (0 : Int) = vabs y then true else S 0) = true by split <;> first | rfl | exact hS) hx x hm

theorem apartB_gd {l : List Int} {next : Int} (hw : ∀ x ∈ l, (Lit.int .i64 x).wf = true) (h : apartB l next = true) : ∀ x ∈ l, Gd next x := by
  intro x hx
  have h1 := apartFrom_small l _ hw h x hx
  have h2 := apartFrom_ne l _ (by simp) h x hx
  unfold Gd
  omega

theorem totalOf_err {l : List Int} {most next : Int} (h : (totalOf l most next).2.2.2 ≠ 0) : (totalOf l most next).1 = [] ∧ (totalOf l most next).2.1 = [] ∧ (totalOf l most next).2.2.1 = 0 := by
  unfold totalOf at h ⊢
  split
  · exact ⟨rfl, rfl, rfl⟩
  rename_i c1
  rw [if_neg c1] at h
  split
  · exact ⟨rfl, rfl, rfl⟩
  rename_i c2
  rw [if_neg c2] at h
  split
  · rename_i c3
    rw [if_pos c3] at h
    exact (h rfl).elim
  rename_i c3
  rw [if_neg c3] at h
  unfold mainS at h ⊢
  dsimp only at h ⊢
  split
  · exact ⟨rfl, rfl, rfl⟩
  · rename_i c4
    rw [if_neg c4] at h
    exact (h rfl).elim

theorem totalOf_ok {l : List Int} {most next : Int} (hl : l.length ≤ 40) (hw : ∀ x ∈ l, (Lit.int .i64 x).wf = true) (h : (totalOf l most next).2.2.2 = 0) :
    (1 ≤ next ∧ next ≤ 65537 ∧ 0 ≤ most) ∧ (next ≤ (totalOf l most next).2.2.1 ∧ (totalOf l most next).2.2.1 ≤ next + 40 * l.length) ∧ ((totalOf l most next).1.length : Int) = mn (l.length : Int) most ∧
    (∀ x ∈ l, Gd next x) ∧ (∀ x ∈ (totalOf l most next).1, Gd (totalOf l most next).2.2.1 x) ∧ (∀ c ∈ (totalOf l most next).2.1, ∀ x ∈ c, Gd (totalOf l most next).2.2.1 x) ∧
    (∀ T : Int → Bool, (∀ x, Gd (totalOf l most next).2.2.1 x → T (wrap64 (-x)) = !(T x)) → (∀ c ∈ (totalOf l most next).2.1, c.any T = true) → ∀ j, j < (totalOf l most next).1.length → (T ((totalOf l most next).1.getD j 0) = true ↔ j < l.countP T)) := by
  unfold totalOf at h ⊢
  by_cases c1 : next < 1 ∨ 65537 < next ∨ most < 0 ∨ 1099511627776 < most
  · rw [if_pos c1] at h; cases h
  rw [if_neg c1] at h ⊢
  by_cases c2 : apartB l next = false
  · rw [if_pos c2] at h; cases h
  rw [if_neg c2] at h ⊢
  have c2' : apartB l next = true := by simpa using c2
  have hg := apartB_gd hw c2'
  by_cases c4 : l.length = 0 ∨ most = 0
  · rw [if_pos c4]
    refine ⟨by omega, ⟨Int.le_refl _, by show next ≤ next + 40 * (l.length : Int); omega⟩, ?_, hg, fun x hx => (by cases hx), fun x hx => (by cases hx), fun T _ _ j hj => (by cases hj)⟩
    show (0 : Int) = mn (l.length : Int) most
    unfold mn
    split <;> omega
  rw [if_neg c4] at h ⊢
  have hm : 1 ≤ most := by omega
  have hlen : 1 ≤ l.length := by omega
  unfold mainS at h ⊢
  dsimp only at h ⊢
  by_cases c5 : (cnt most l.length ⟨next, false, []⟩ l).2.full = true
  · rw [if_pos c5] at h; cases h
  rw [if_neg c5]
  have c5' : (cnt most l.length ⟨next, false, []⟩ l).2.full = false := by simpa using c5
  have hx := cnt_gd hm l.length ⟨next, false, []⟩ l hlen (Nat.le_refl _) hl rfl (by show 1 ≤ next; omega) (by show next ≤ 65537; omega) hg (fun c hc => by cases hc) c5'
  have hv := cnt_vars hm l.length ⟨next, false, []⟩ l hlen (Nat.le_refl _) hl rfl (by show next ≤ 65537; omega)
  have hvb := Vf_bound hm l.length l.length hlen (Nat.le_refl _) hl
  have hnx : (cnt most l.length ⟨next, false, []⟩ l).2.next = next + Vf most l.length l.length := by
    by_cases c6 : next + Vf most l.length l.length ≤ 65537
    · exact (hv.1 c6).2
    · rw [hv.2 (by show 65537 < next + _; omega)] at c5'
      cases c5'
  dsimp only
  refine ⟨by omega, ⟨by omega, by omega⟩, ?_, hg, hx.2.1, hx.2.2, ?_⟩
  · by_cases h1 : l.length = 1
    · obtain ⟨f, hf⟩ : ∃ f, l.length = f + 1 := ⟨l.length - 1, by omega⟩
      rw [hf, cnt_stop (.inl h1)]
      show (l.length : Int) = _
      unfold mn
      split <;> omega
    · obtain ⟨f, hf⟩ : ∃ f, l.length = f + 1 := ⟨l.length - 1, by omega⟩
      have hno : ¬ (l.length = 1 ∨ (⟨next, false, []⟩ : TS).full = true) := by
        rintro (e | e)
        · exact h1 e
        · cases e
      have hstep := cnt_next_step (most := most) (f := f) hno rfl rfl
      rw [← hf] at hstep
      split at hstep
      · rw [hstep] at c5'
        cases c5'
      · rw [hstep]
        show ((outsOf _ _).length : Int) = _
        rw [outsOf_length]
        have := manyOf_ge (most := most) hm hlen
        have e : mn (l.length : Int) most = manyOf l.length most := rfl
        rw [e]
        omega
  · intro T hT hold j hj
    exact (cnt_una hm l.length ⟨next, false, []⟩ l hlen (Nat.le_refl _) hl rfl (by show 1 ≤ next; omega) (by show next ≤ 65537; omega) hg (fun c hc => by cases hc) c5' hT hold).1.2 j hj

/-- A literal of a variable that b holds. -/
def Tv (b : List Bool) (x : Int) : Bool := if 0 < x then rdOf false b x else !(rdOf false b (-x))
theorem Tv_neg {b : List Bool} {m x : Int} (hm : m ≤ 70000) (h : Gd m x) : Tv b (wrap64 (-x)) = !(Tv b x) := by
  unfold Gd at h
  have e : wrap64 (-x) = -x := by unfold wrap64; omega
  rw [e]
  unfold Tv
  by_cases h0 : 0 < x
  · rw [if_neg (by omega), if_pos h0, Int.neg_neg]
  · rw [if_pos (by omega), if_neg h0, Bool.not_not]
theorem litB_Tv {b : List Bool} {m x : Int} (hm : m ≤ 65537) (h : Gd m x) (hb : m ≤ b.length) : litB b x = Tv b x := by
  unfold Gd at h
  have e : wrap64 (-x) = -x := by unfold wrap64; omega
  have e2 : wrap64 (-65536) = -65536 := by decide +kernel
  unfold litB QSmall.cnf_lit_true.f QSmall.cnf_lit_may.f QSmall.cnf_lit_of.f
  rw [e, e2, if_neg (by omega), if_pos (by omega)]
  simp only [Option.bind_some]
  rw [if_pos (by simp; omega)]
  unfold Tv
  by_cases h0 : 0 < x
  · have e3 : mx x (-x) = x := by unfold mx; rw [if_neg (by omega)]
    rw [e3, if_pos (by omega), if_pos (by omega), if_pos h0]
    simp [h0]
  · have e3 : mx x (-x) = -x := by unfold mx; rw [if_pos (by omega)]
    rw [e3, if_pos (by omega), if_pos (by omega), if_neg h0]
    have h1 : decide (x > 0) = false := decide_eq_false h0
    rw [h1]
    cases rdOf false b (-x) <;> rfl
theorem any_congr' {p q : Int → Bool} : ∀ {l : List Int}, (∀ x ∈ l, p x = q x) → l.any p = l.any q := by
  intro l
  induction l with
  | nil => intro _; rfl
  | cons y l ih =>
    intro h
    rw [List.any_cons, List.any_cons, h y (by simp), ih (fun x hx => h x (by simp [hx]))]
theorem holdsB_Tv {b : List Bool} {m : Int} {c : List Int} (hm : m ≤ 65537) (h : ∀ x ∈ c, Gd m x) (hb : m ≤ b.length) : holdsB c b = c.any (Tv b) := any_congr' (fun x hx => litB_Tv hm (h x hx) hb)
theorem Gd.wf {m x : Int} (hm : m ≤ 70000) (h : Gd m x) : (Lit.int .i64 x).wf = true := by
  have hmin : IntKind.i64.min = -9223372036854775808 := rfl
  have hmax : IntKind.i64.max = 9223372036854775807 := rfl
  unfold Gd at h
  simp only [Lit.wf, Bool.and_eq_true, decide_eq_true_eq]
  omega

#print axioms totalOf_ok

end Go.Proofs.Ytdkfhpgbiohhoaa.G
