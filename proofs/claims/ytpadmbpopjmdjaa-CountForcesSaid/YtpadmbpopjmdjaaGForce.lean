/-
  Unit propagation as the law's own 'forced' does it: in plain Lean, pass by pass.
-/
import Derived.Test.YtpadmbpopjmdjaaQFox1
import Derived.Test.YtpadmbpopjmdjaaGCAll
namespace Go.Proofs.Ytpadmbpopjmdjaa.G
open Go.RowKit Go.Proofs.Ytpadmbpopjmdjaa.QFo Go.Proofs.YtpadmbpopjmdjaaW.PrintWords Go.Proofs.YtpadmbpopjmdjaaW.PrintLast Go.Proofs.YtpadmbpopjmdjaaW.PrintMore

/-- What a literal is worth under a list of -1, 0, 1. -/
def tl (t : List Int) (x : Int) : Int := if x < 0 then -(t.getD (-x).toNat 0) else t.getD x.toNat 0
/-- A literal is made true. -/
def asg (t : List Int) (x : Int) : List Int := if x > 0 then t.set x.toNat 1 else t.set (-x).toNat (-1)
def opn (t : List Int) (c : List Int) : List Int := c.filter (fun x => tl t x == 0)
/-- One clause: 'none' is a conflict. -/
def stepC (t : List Int) (c : List Int) : Option (List Int × Bool) :=
  if c.any (fun x => tl t x == 1) = true then some (t, false)
  else match opn t c with
    | [] => none
    | [x] => some (asg t x, true)
    | _ :: _ :: _ => some (t, false)
def pass : List (List Int) → List Int → Bool → Option (List Int × Bool)
  | [], t, m => some (t, m)
  | c :: cs, t, m => (stepC t c).bind fun r => pass cs r.1 (m || r.2)
theorem pass_append : ∀ (xs : List (List Int)) {ys t m}, pass (xs ++ ys) t m = (pass xs t m).bind fun r => pass ys r.1 r.2
  | [], _, _, _ => rfl
  | c :: xs, ys, t, m => by
    show (stepC t c).bind (fun r => pass (xs ++ ys) r.1 (m || r.2)) = ((stepC t c).bind fun r => pass xs r.1 (m || r.2)).bind _
    cases stepC t c with
    | none => rfl
    | some r => exact pass_append xs

def Val (t : List Int) : Prop := ∀ v, t.getD v 0 = -1 ∨ t.getD v 0 = 0 ∨ t.getD v 0 = 1

theorem getD_set (t : List Int) (i v : Nat) (x : Int) : (t.set i x).getD v 0 = if i = v ∧ v < t.length then x else t.getD v 0 := by
  simp only [List.getD_eq_getElem?_getD, List.getElem?_set]
  by_cases h : i = v
  · subst h
    by_cases h2 : i < t.length
    · simp [h2]
    · simp [h2]
  · simp [h]
theorem asg_len (t : List Int) (x : Int) : (asg t x).length = t.length := by unfold asg; split <;> simp
theorem asg_val {t : List Int} {x : Int} (h : Val t) : Val (asg t x) := by
  intro v
  unfold asg
  split <;> rw [getD_set] <;> split <;> first | exact h v | simp
theorem stepC_keeps {t : List Int} {c : List Int} {r} (h : stepC t c = some r) : (r.1 = t ∧ r.2 = false) ∨ ∃ x, opn t c = [x] ∧ r = (asg t x, true) := by
  unfold stepC at h
  split at h
  · obtain rfl := Option.some.inj h; exact .inl ⟨rfl, rfl⟩
  · split at h
    · cases h
    · rename_i x e
      obtain rfl := Option.some.inj h; exact .inr ⟨x, e, rfl⟩
    · obtain rfl := Option.some.inj h; exact .inl ⟨rfl, rfl⟩
theorem stepC_ok {t : List Int} {c : List Int} {r} (hv : Val t) (h : stepC t c = some r) : Val r.1 ∧ r.1.length = t.length := by
  rcases stepC_keeps h with ⟨e, _⟩ | ⟨x, _, rfl⟩
  · rw [e]; exact ⟨hv, rfl⟩
  · exact ⟨asg_val hv, asg_len _ _⟩

theorem opn_cons (t : List Int) (x : Int) (c : List Int) : opn t (x :: c) = if tl t x = 0 then x :: opn t c else opn t c := by
  unfold opn
  rw [List.filter_cons]
  by_cases h : tl t x = 0
  · rw [if_pos h, if_pos (by simp [h])]
  · rw [if_neg h, if_neg (by simp [h])]

theorem l2_run {x0 x20 : List (List Int)} {t : List Int} {x5 : Bool} {x17 x18 x21 x22 : Int} {c : List Int} (hv : Val t) (hl : t.length ≤ 100000) (hcl : c.length ≤ 3) (hg : ∀ x ∈ c, Gr (t.length : Int) x) : ∀ (d i : Nat) (K : Nat) (x8 x9 : Int) (x10 : Bool), c.length = i + d → (0 ≤ x8 ∧ x8 ≤ i) →
    chalklinelaw16_forced.l2 (K + d + 1) x0 t x5 x8 x9 x10 x17 x18 x20 x21 x22 c (c.length : Int) (i : Int) = chalklinelaw16_forced.l2 (K + 1) x0 t x5 (x8 + ((opn t (c.drop i)).length : Int)) ((opn t (c.drop i)).getLastD x9) (x10 || (c.drop i).any (fun x => tl t x == 1)) x17 x18 x20 x21 x22 c (c.length : Int) (c.length : Int) := by
  intro d
  induction d with
  | zero =>
    intro i K x8 x9 x10 hd h8
    obtain rfl : i = c.length := by omega
    rw [List.drop_length]
    show _ = chalklinelaw16_forced.l2 (K + 1) x0 t x5 (x8 + 0) x9 (x10 || false) x17 x18 x20 x21 x22 c (c.length : Int) (c.length : Int)
    rw [Bool.or_false, Int.add_zero]
  | succ d ih =>
    intro i K x8 x9 x10 hd h8
    have hi : i < c.length := by omega
    rw [List.drop_eq_getElem_cons hi]
    obtain ⟨x, hx⟩ : ∃ x, c[i] = x := ⟨_, rfl⟩
    have hxm : x ∈ c := by rw [← hx]; exact List.getElem_mem hi
    have hrd : rd c (i : Int) = x := by rw [← hx]; simp [rd, List.getD_eq_getElem?_getD, hi]
    obtain ⟨g0, g1, g2⟩ := hg x hxm
    have hn : wrap64 (-x) = -x := by unfold wrap64; omega
    have ei : wrap64 ((i : Int) + 1) = ((i + 1 : Nat) : Int) := by unfold wrap64; omega
    have e8 : wrap64 (x8 + 1) = x8 + 1 := by unfold wrap64; omega
    have hmx : mx x (-x) = if x < 0 then -x else x := by unfold mx; split <;> split <;> omega
    rw [hx, opn_cons, List.any_cons, show K + (d + 1) + 1 = (K + d + 1) + 1 by omega, chalklinelaw16_forced.l2, if_pos (by omega), if_pos (by omega), if_pos (by omega), hrd, hn, hmx]
    have htl : tl t x = (if x < 0 then wrap64 (-(rd t (if x < 0 then -x else x))) else rd t (if x < 0 then -x else x)) := by
      unfold tl rd
      by_cases hs : x < 0
      · simp only [if_pos hs]
        have := hv (-x).toNat
        unfold wrap64; omega
      · simp only [if_neg hs]
    by_cases hs : x < 0
    · rw [if_pos hs] at htl
      simp only [if_pos hs] at htl ⊢
      rw [if_neg (by omega), if_pos (by omega), if_pos (by omega), ← htl]
      by_cases h10 : x10 = true
      · subst h10
        rw [if_pos rfl]
        by_cases h0 : tl t x = 0
        · rw [if_pos h0, if_pos h0, e8, ei, ih (i + 1) K (x8 + 1) x true (by omega) (by omega)]
          simp only [List.length_cons, List.getLastD_cons, Bool.true_or]
          congr 1; omega
        · rw [if_neg h0, if_neg h0, ei, ih (i + 1) K x8 x9 true (by omega) (by omega)]
          simp only [Bool.true_or]
      · have h10' : x10 = false := by cases x10 <;> simp_all
        subst h10'
        rw [if_neg h10]
        by_cases h0 : tl t x = 0
        · rw [if_pos h0, if_pos h0, e8, ei, ih (i + 1) K (x8 + 1) x _ (by omega) (by omega)]
          simp only [List.length_cons, List.getLastD_cons, Bool.false_or]
          congr 1; omega
        · rw [if_neg h0, if_neg h0, ei, ih (i + 1) K x8 x9 _ (by omega) (by omega)]
          simp only [Bool.false_or]
    · rw [if_neg hs] at htl
      simp only [if_neg hs] at htl ⊢
      rw [if_neg (by omega), if_pos (by omega), if_pos (by omega), ← htl]
      by_cases h10 : x10 = true
      · subst h10
        rw [if_pos rfl]
        by_cases h0 : tl t x = 0
        · rw [if_pos h0, if_pos h0, e8, ei, ih (i + 1) K (x8 + 1) x true (by omega) (by omega)]
          simp only [List.length_cons, List.getLastD_cons, Bool.true_or]
          congr 1; omega
        · rw [if_neg h0, if_neg h0, ei, ih (i + 1) K x8 x9 true (by omega) (by omega)]
          simp only [Bool.true_or]
      · have h10' : x10 = false := by cases x10 <;> simp_all
        subst h10'
        rw [if_neg h10]
        by_cases h0 : tl t x = 0
        · rw [if_pos h0, if_pos h0, e8, ei, ih (i + 1) K (x8 + 1) x _ (by omega) (by omega)]
          simp only [List.length_cons, List.getLastD_cons, Bool.false_or]
          congr 1; omega
        · rw [if_neg h0, if_neg h0, ei, ih (i + 1) K x8 x9 _ (by omega) (by omega)]
          simp only [Bool.false_or]

/-- One clause. -/
theorem l1_step {x0 : List (List Int)} {t : List Int} {m : Bool} {x17 x18 : Int} {i : Nat} (hi : i < x0.length) (hb : x0.length ≤ 1000000) (hv : Val t) (hl : t.length ≤ 100000) (hcl : (x0[i]'hi).length ≤ 3) (hg : ∀ x ∈ x0[i]'hi, Gr (t.length : Int) x) {K : Nat} (hK : 6 ≤ K) :
    ∃ K', K ≤ K' + 5 ∧ chalklinelaw16_forced.l1 K x0 t m x17 x18 x0 (x0.length : Int) (i : Int) = match stepC t (x0[i]'hi) with
      | none => some (true, t)
      | some r => chalklinelaw16_forced.l1 K' x0 r.1 (m || r.2) x17 x18 x0 (x0.length : Int) ((i + 1 : Nat) : Int) := by
  obtain ⟨c, hc⟩ : ∃ c, x0[i]'hi = c := ⟨_, rfl⟩
  rw [hc] at hcl hg ⊢
  have hrd : rd_L1 x0 (i : Int) = c := by rw [← hc]; simp [rd_L1, List.getD_eq_getElem?_getD, hi]
  obtain ⟨d, rfl⟩ : ∃ d, K = (d + c.length + 1) + 1 := ⟨K - c.length - 2, by omega⟩
  refine ⟨d, by omega, ?_⟩
  have ei : wrap64 ((i : Int) + 1) = ((i + 1 : Nat) : Int) := by unfold wrap64; omega
  rw [chalklinelaw16_forced.l1, if_pos (by omega), if_pos (by omega), if_pos (by omega), hrd]
  have h := l2_run (x0 := x0) (x20 := x0) (x5 := m) (x17 := x17) (x18 := x18) (x21 := (x0.length : Int)) (x22 := (i : Int)) hv hl hcl hg c.length 0 d 0 0 false (by omega) (by omega)
  rw [List.drop_zero, Bool.false_or, Int.zero_add] at h
  rw [show ((0 : Int)) = ((0 : Nat) : Int) from rfl] at h ⊢
  refine h.trans ?_
  rw [chalklinelaw16_forced.l2, if_neg (Int.lt_irrefl _), ei]
  unfold stepC
  by_cases ha : c.any (fun x => tl t x == 1) = true
  · rw [if_pos ha, if_pos ha]
    show _ = chalklinelaw16_forced.l1 d x0 t (m || false) x17 x18 x0 (x0.length : Int) ((i + 1 : Nat) : Int)
    rw [Bool.or_false]
  rw [if_neg ha, if_neg ha]
  have hsub : ∀ x ∈ opn t c, x ∈ c := fun x hx => (List.mem_filter.1 hx).1
  match ho : opn t c, hsub with
  | [], _ => simp
  | [x], hsub =>
    obtain ⟨g0, g1, g2⟩ := hg x (hsub x (by simp))
    have hn : wrap64 (-x) = -x := by unfold wrap64; omega
    simp only [List.length_singleton, List.getLastD_cons, List.getLastD_nil]
    rw [if_neg (by decide), if_pos (by decide)]
    unfold asg
    by_cases hp : x > 0
    · rw [if_pos hp, if_pos (by omega), if_pos (by omega), if_pos hp, Bool.or_true]
    · rw [if_neg hp, hn, if_pos (by omega), if_pos (by omega), if_neg hp, Bool.or_true]
  | x :: y :: z, _ =>
    simp only [List.length_cons]
    rw [if_neg (by omega), if_neg (by omega), Bool.or_false]

/-- One pass over the clauses from i on. -/
theorem l1_pass {x0 : List (List Int)} (hb : x0.length ≤ 1000000) (hcl : ∀ c ∈ x0, c.length ≤ 3) {A : Nat} (hA : A ≤ 100000) (hg : ∀ c ∈ x0, ∀ x ∈ c, Gr (A : Int) x) {x17 x18 : Int} : ∀ (d i K R : Nat) (t : List Int) (m : Bool), x0.length = i + d → 5 * d + R + 2 ≤ K → Val t → t.length = A →
    (pass (x0.drop i) t m = none ∧ ∃ t', chalklinelaw16_forced.l1 K x0 t m x17 x18 x0 (x0.length : Int) (i : Int) = some (true, t')) ∨
    ∃ t' m' K', R ≤ K' ∧ pass (x0.drop i) t m = some (t', m') ∧ chalklinelaw16_forced.l1 K x0 t m x17 x18 x0 (x0.length : Int) (i : Int) = if m' = true then chalklinelaw16_forced.l0 K' x0 t' x17 (wrap64 (x18 + 1)) else some (false, t') := by
  intro d
  induction d with
  | zero =>
    intro i K R t m hd hK hv hl
    obtain rfl : i = x0.length := by omega
    obtain ⟨K, rfl⟩ : ∃ j, K = j + 1 := ⟨K - 1, by omega⟩
    refine .inr ⟨t, m, K, by omega, by rw [List.drop_length]; rfl, ?_⟩
    rw [chalklinelaw16_forced.l1, if_neg (Int.lt_irrefl _)]
  | succ d ih =>
    intro i K R t m hd hK hv hl
    have hi : i < x0.length := by omega
    have hm : x0[i]'hi ∈ x0 := List.getElem_mem hi
    obtain ⟨K', hK', e⟩ := l1_step (m := m) (x17 := x17) (x18 := x18) hi hb hv (by omega) (hcl _ hm) (by rw [hl]; exact hg _ hm) (K := K) (by omega)
    rw [List.drop_eq_getElem_cons hi, e]
    show ((stepC t (x0[i]'hi)).bind (fun r => pass (x0.drop (i + 1)) r.1 (m || r.2)) = none ∧ _) ∨ ∃ t' m' K'', R ≤ K'' ∧ (stepC t (x0[i]'hi)).bind (fun r => pass (x0.drop (i + 1)) r.1 (m || r.2)) = some (t', m') ∧ _
    cases hs : stepC t (x0[i]'hi) with
    | none => exact .inl ⟨rfl, t, rfl⟩
    | some r =>
      obtain ⟨o1, o2⟩ := stepC_ok hv hs
      exact ih (i + 1) K' R r.1 (m || r.2) (by omega) (by omega) o1 (by omega)

/-- A conflict in the first pass: forced. -/
theorem forced_yes {x0 : List (List Int)} (hb : x0.length ≤ 1000000) (hcl : ∀ c ∈ x0, c.length ≤ 3) {A : Nat} (hA : A ≤ 100000) (hg : ∀ c ∈ x0, ∀ x ∈ c, Gr (A : Int) x) {t : List Int} (hv : Val t) (hl : t.length = A) (hp : pass x0 t false = none) {K : Nat} (hK : 5 * x0.length + 4 ≤ K) : ∃ t', chalklinelaw16_forced.f K x0 t = some (true, t') := by
  obtain ⟨K, rfl⟩ : ∃ j, K = j + 1 := ⟨K - 1, by omega⟩
  have e : wrap64 ((t.length : Int) + 1) = t.length + 1 := by unfold wrap64; omega
  unfold chalklinelaw16_forced.f
  rw [e, chalklinelaw16_forced.l0, if_pos (by omega)]
  rcases l1_pass hb hcl hA hg (x17 := (t.length : Int) + 1) (x18 := 0) x0.length 0 K 0 t false (by omega) (by omega) hv hl with ⟨_, h⟩ | ⟨t', m', K', _, h, _⟩
  · exact h
  · rw [List.drop_zero, hp] at h; cases h

/-- No conflict ever: not forced. -/
theorem forced_no {x0 : List (List Int)} (hb : x0.length ≤ 1000000) (hcl : ∀ c ∈ x0, c.length ≤ 3) {A : Nat} (hA : A ≤ 100000) (hg : ∀ c ∈ x0, ∀ x ∈ c, Gr (A : Int) x) (J : List Int → Prop) (hJ : ∀ t, J t → Val t ∧ t.length = A ∧ ∀ c ∈ x0, ∃ r, stepC t c = some r ∧ J r.1) :
    ∀ {t : List Int}, J t → ∀ {K : Nat}, (A + 1) * (5 * x0.length + 3) + 1 ≤ K → ∃ t', chalklinelaw16_forced.f K x0 t = some (false, t') := by
  have hpass : ∀ (cs : List (List Int)), (∀ c ∈ cs, c ∈ x0) → ∀ t m, J t → ∃ r, pass cs t m = some r ∧ J r.1 := by
    intro cs
    induction cs with
    | nil => intro _ t m h; exact ⟨_, rfl, h⟩
    | cons c cs ih =>
      intro hin t m h
      obtain ⟨r, hr, hj⟩ := (hJ t h).2.2 c (hin c (by simp))
      show ∃ r', (stepC t c).bind (fun r => pass cs r.1 (m || r.2)) = some r' ∧ _
      rw [hr]
      exact ih (fun c hc => hin c (by simp [hc])) r.1 _ hj
  obtain ⟨w, hw⟩ : ∃ w, 5 * x0.length + 3 = w := ⟨_, rfl⟩
  have hl0 : ∀ (d i K : Nat) (t : List Int), A + 1 = i + d → d * w + 1 ≤ K → J t → ∃ t', chalklinelaw16_forced.l0 K x0 t ((A + 1 : Nat) : Int) (i : Int) = some (false, t') := by
    intro d
    induction d with
    | zero =>
      intro i K t hd hK h
      obtain ⟨K, rfl⟩ : ∃ j, K = j + 1 := ⟨K - 1, by omega⟩
      exact ⟨t, by rw [chalklinelaw16_forced.l0, if_neg (by omega)]⟩
    | succ d ih =>
      intro i K t hd hK h
      obtain ⟨K, rfl⟩ : ∃ j, K = j + 1 := ⟨K - 1, by omega⟩
      rw [Nat.succ_mul] at hK
      obtain ⟨hv, hl, _⟩ := hJ t h
      obtain ⟨r, hr, hj⟩ := hpass x0 (fun _ h => h) t false h
      have ei : wrap64 ((i : Int) + 1) = ((i + 1 : Nat) : Int) := by unfold wrap64; omega
      rw [chalklinelaw16_forced.l0, if_pos (by omega)]
      rcases l1_pass hb hcl hA hg (x17 := ((A + 1 : Nat) : Int)) (x18 := (i : Int)) x0.length 0 K (d * w + 1) t false (by omega) (by omega) hv hl with ⟨hn, _⟩ | ⟨t', m', K', hK', hs, e⟩
      · rw [List.drop_zero, hr] at hn; cases hn
      · rw [List.drop_zero, hr] at hs
        obtain rfl := Option.some.inj hs
        refine (show ∃ t'', chalklinelaw16_forced.l1 K x0 t false ((A + 1 : Nat) : Int) (i : Int) x0 (x0.length : Int) ((0 : Nat) : Int) = some (false, t'') from ?_)
        rw [e]
        by_cases hm : m' = true
        · rw [if_pos hm, ei]
          exact ih (i + 1) K' t' (by omega) hK' hj
        · rw [if_neg hm]; exact ⟨_, rfl⟩
  intro t h K hK
  rw [hw] at hK
  have hl := (hJ t h).2.1
  have e : wrap64 ((t.length : Int) + 1) = ((A + 1 : Nat) : Int) := by rw [hl]; unfold wrap64; omega
  unfold chalklinelaw16_forced.f
  rw [e]
  exact hl0 (A + 1) 0 K t (by omega) hK h

#print axioms forced_yes
#print axioms forced_no
end Go.Proofs.Ytpadmbpopjmdjaa.G
