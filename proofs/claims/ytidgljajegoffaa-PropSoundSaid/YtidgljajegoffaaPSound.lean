/-
  prop.Prop over at most 9 variables: it answers, and what it tells follows from the clauses and the decisions. Plain Lean.
-/
import Derived.Test.YtidgljajegoffaaPState
namespace Go.Proofs.Ytidgljajegoffaa.G
set_option linter.unusedVariables false
open Go.RowKit Go.Proofs.YtidgljajegoffaaW.PrintWords Go.Proofs.YtidgljajegoffaaW.PrintLast Go.Proofs.YtidgljajegoffaaW.PrintMore
open Go.Proofs.Ytidgljajegoffaa.QRef (S32 z32)

theorem nodup_len : ∀ (n : Nat) (l : List Nat), l.Nodup → (∀ x ∈ l, 1 ≤ x ∧ x ≤ n) → l.length ≤ n
  | 0, l, _, h => by
    cases l with
    | nil => simp
    | cons x l => have := h x List.mem_cons_self; omega
  | n + 1, l, hl, h => by
    have he : ∀ x ∈ l.erase (n + 1), 1 ≤ x ∧ x ≤ n := fun x hx => by
      have := (List.Nodup.mem_erase_iff hl).1 hx
      have h2 := h x this.2
      have := this.1
      omega
    have := nodup_len n (l.erase (n + 1)) (hl.erase _) he
    have h2 := List.length_erase (a := n + 1) (l := l)
    split at h2 <;> omega

/-- All literals of the clauses are literals of the variables 1 to n. -/
def LitsIn (n : Int) (cs : List (List Int)) : Prop := ∀ c ∈ cs, ∀ x ∈ c, x ≠ 0 ∧ -n ≤ x ∧ x ≤ n
/-- What stays true of the engine. -/
structure Inv (n : Int) (cs : List (List Int)) (s : PS) (B : Nat) : Prop where
  tm : ∀ y, s.T y = true → ∃ q ∈ s.out, q.f0 = y
  ot : ∀ q ∈ s.out, s.T q.f0 = true
  rg : ∀ q ∈ s.out, q.f0 ≠ 0 ∧ -n ≤ q.f0 ∧ q.f0 ≤ n
  nd : (s.out.map (fun q => q.f0.natAbs)).Nodup
  wi : ∀ y, ∀ i ∈ s.W y, 0 ≤ i ∧ i < cs.length
  wl : ∀ y, (s.W y).length ≤ B
def Sound (a : List Bool) (out : List S32) : Prop := ∀ q ∈ out, litV a q.f0 = true
def Model (a : List Bool) (cs : List (List Int)) : Prop := ∀ c ∈ cs, ∃ x ∈ c, litV a x = true

theorem Inv.mono {n : Int} {cs : List (List Int)} {s : PS} {B B' : Nat} (h : Inv n cs s B) (hb : B ≤ B') : Inv n cs s B' := { h with wl := fun y => Nat.le_trans (h.wl y) hb }
theorem Inv.len {n : Int} {cs : List (List Int)} {s : PS} {B : Nat} (h : Inv n cs s B) (hn : 0 ≤ n ∧ n ≤ 9) : s.out.length ≤ 9 := by
  have h1 := nodup_len 9 _ h.nd (fun x hx => by
    obtain ⟨q, hq, rfl⟩ := List.mem_map.1 hx
    have := h.rg q hq
    omega)
  rwa [List.length_map] at h1

theorem addW_len : ∀ (o : List Int) (W : Int → List Int) (i y : Int), (addW W o i y).length ≤ (W y).length + o.length
  | [], W, i, y => Nat.le_refl _
  | x :: o, W, i, y => by
    have h := addW_len o (updW W (-x) (W (-x) ++ [i])) i y
    unfold addW
    refine Nat.le_trans h ?_
    unfold updW
    by_cases q : y = -x
    · rw [if_pos q, q, List.length_append, List.length_singleton, List.length_cons]; omega
    · rw [if_neg q, List.length_cons]; omega
theorem addW_mem : ∀ (o : List Int) (W : Int → List Int) (i y j : Int), j ∈ addW W o i y → j ∈ W y ∨ j = i
  | [], W, i, y, j, h => .inl h
  | x :: o, W, i, y, j, h => by
    unfold addW at h
    rcases addW_mem o _ i y j h with h | h
    · unfold updW at h
      by_cases q : y = -x
      · rw [if_pos q] at h
        rcases List.mem_append.1 h with h | h
        · exact .inl (by rw [q]; exact h)
        · exact .inr (List.mem_singleton.1 h)
      · rw [if_neg q] at h; exact .inl h
    · exact .inr h

theorem getD_mem {cs : List (List Int)} {i : Int} (h0 : 0 ≤ i) (h1 : i < cs.length) : cs.getD i.toNat [] ∈ cs := by
  rw [List.getD_eq_getElem?_getD, List.getElem?_eq_getElem (by omega)]
  simp

theorem vis_inv {n : Int} {cs : List (List Int)} {s : PS} {B : Nat} (hl : LitsIn n cs) (h : Inv n cs s B) {i : Int} (h0 : 0 ≤ i) (h1 : i < cs.length) : Inv n cs (vis cs s i).2 (B + 2) := by
  have hc := getD_mem h0 h1
  unfold vis
  by_cases q : (lookF s.T (cs.getD i.toNat []) []).2 = true
  · rw [if_pos q]; exact h.mono (by omega)
  rw [if_neg q]
  obtain ⟨a1, a2, a3, a4, a5, a6⟩ := lookF_spec (T := s.T) (cs.getD i.toNat []) [] (by simp) (by simpa using q)
  cases he : (lookF s.T (cs.getD i.toNat []) []).1 with
  | nil => exact h.mono (by omega)
  | cons x o =>
    cases o with
    | nil =>
      rcases a4 x (by rw [he]; exact List.mem_cons_self) with hx | ⟨hx, t1, t2⟩
      · cases hx
      obtain ⟨p0, p1, p2⟩ := hl _ hc x hx
      refine ⟨fun y hy => ?_, fun q hq => ?_, fun q hq => ?_, ?_, h.wi, fun y => Nat.le_trans (h.wl y) (by omega)⟩
      · have hy' : updT s.T x y = true := hy
        unfold updT at hy'
        by_cases e : y = x
        · exact ⟨⟨x, i⟩, by simp, e.symm⟩
        · rw [if_neg e] at hy'
          obtain ⟨q, hq, hqe⟩ := h.tm y hy'
          exact ⟨q, List.mem_append_left _ hq, hqe⟩
      · show updT s.T x q.f0 = true
        unfold updT
        rcases List.mem_append.1 hq with hq | hq
        · split
          · rfl
          · exact h.ot q hq
        · rw [List.mem_singleton] at hq; rw [hq, if_pos rfl]
      · rcases List.mem_append.1 hq with hq | hq
        · exact h.rg q hq
        · rw [List.mem_singleton] at hq; rw [hq]; exact ⟨p0, p1, p2⟩
      · show ((s.out ++ [(⟨x, i⟩ : S32)]).map (fun q => q.f0.natAbs)).Nodup
        rw [List.map_append, List.nodup_append]
        refine ⟨h.nd, by simp, fun u hu v hv => ?_⟩
        obtain ⟨q, hq, rfl⟩ := List.mem_map.1 hu
        have hv' : v = x.natAbs := by simpa using hv
        intro e
        have hq2 := h.ot q hq
        rcases (by omega : q.f0 = x ∨ q.f0 = -x) with e2 | e2
        · rw [e2, t1] at hq2; cases hq2
        · rw [e2, t2] at hq2; cases hq2
    | cons y o =>
      rw [he] at a2
      refine ⟨h.tm, h.ot, h.rg, h.nd, fun z j hj => ?_, fun z => ?_⟩
      · rcases addW_mem _ _ _ _ _ hj with hj | hj
        · exact h.wi z j hj
        · rw [hj]; exact ⟨h0, h1⟩
      · have h2 := addW_len (x :: y :: o) s.W i z
        have h3 := h.wl z
        show (addW s.W (x :: y :: o) i z).length ≤ B + 2
        omega

theorem vis_sound {n : Int} {cs : List (List Int)} {s : PS} {B : Nat} {a : List Bool} (hl : LitsIn n cs) (hm : Model a cs) (h : Inv n cs s B) (hs : Sound a s.out) {i : Int} (h0 : 0 ≤ i) (h1 : i < cs.length) : (vis cs s i).1 = true ∧ Sound a (vis cs s i).2.out := by
  have hc := getD_mem h0 h1
  unfold vis
  by_cases q : (lookF s.T (cs.getD i.toNat []) []).2 = true
  · rw [if_pos q]; exact ⟨rfl, hs⟩
  rw [if_neg q]
  obtain ⟨a1, a2, a3, a4, a5, a6⟩ := lookF_spec (T := s.T) (cs.getD i.toNat []) [] (by simp) (by simpa using q)
  obtain ⟨x0, hx0, hv0⟩ := hm _ hc
  have hn : s.T (-x0) = false := by
    cases hq : s.T (-x0) with
    | false => rfl
    | true =>
      obtain ⟨r, hr, hre⟩ := h.tm _ hq
      have h2 := hs r hr
      rw [hre, litV_neg a (hl _ hc x0 hx0).1, hv0] at h2
      cases h2
  have h5 := a5 x0 hx0 hn
  cases he : (lookF s.T (cs.getD i.toNat []) []).1 with
  | nil => rw [he] at h5; rcases h5 with h5 | h5
           · cases h5
           · simp at h5
  | cons x o =>
    cases o with
    | nil =>
      rw [he] at h5
      have e : x0 = x := by
        rcases h5 with h5 | h5
        · exact List.mem_singleton.1 h5
        · simp at h5
      refine ⟨rfl, fun q hq => ?_⟩
      rcases List.mem_append.1 hq with hq | hq
      · exact hs q hq
      · rw [List.mem_singleton] at hq; rw [hq, ← e]; exact hv0
    | cons y o => exact ⟨rfl, hs⟩

theorem visL_inv {n : Int} {cs : List (List Int)} (hl : LitsIn n cs) : ∀ (L : List Int) (s : PS) (B : Nat), Inv n cs s B → (∀ i ∈ L, 0 ≤ i ∧ i < cs.length) → Inv n cs (visL cs L s).1 (B + 2 * L.length)
  | [], s, B, h, _ => h
  | i :: L, s, B, h, hi => by
    have h1 := vis_inv hl h (hi i List.mem_cons_self).1 (hi i List.mem_cons_self).2
    unfold visL
    split
    · exact (visL_inv hl L _ _ h1 (fun j hj => hi j (List.mem_cons_of_mem _ hj))).mono (by rw [List.length_cons]; omega)
    · exact h1.mono (by rw [List.length_cons]; omega)
theorem visL_sound {n : Int} {cs : List (List Int)} {a : List Bool} (hl : LitsIn n cs) (hm : Model a cs) : ∀ (L : List Int) (s : PS) (B : Nat), Inv n cs s B → Sound a s.out → (∀ i ∈ L, 0 ≤ i ∧ i < cs.length) → (visL cs L s).2 = none ∧ Sound a (visL cs L s).1.out
  | [], s, B, h, hs, _ => ⟨rfl, hs⟩
  | i :: L, s, B, h, hs, hi => by
    have h1 := vis_inv hl h (hi i List.mem_cons_self).1 (hi i List.mem_cons_self).2
    have h2 := vis_sound hl hm h hs (hi i List.mem_cons_self).1 (hi i List.mem_cons_self).2
    unfold visL
    rw [if_pos h2.1]
    exact visL_sound hl hm L _ _ h1 h2.2 (fun j hj => hi j (List.mem_cons_of_mem _ hj))

theorem todo_ok {n : Int} {cs : List (List Int)} (hn : 0 ≤ n ∧ n ≤ 9) (hl : LitsIn n cs) : ∀ (f B hd : Nat) (s : PS), Inv n cs s B → 10 ≤ f + hd → B + 1 ≤ 521 * 3 ^ hd →
    ∃ r, todoF cs (f + 1) B hd s = some r ∧ (∃ B', Inv n cs r.1 B') ∧ ∀ a, Model a cs → Sound a s.out → r.2 = -1 ∧ Sound a r.1.out := by
  intro f
  induction f with
  | zero =>
    intro B hd s h hf hb
    have := h.len hn
    rw [todoF, if_neg (by omega)]
    exact ⟨_, rfl, ⟨B, h⟩, fun a _ hs => ⟨rfl, hs⟩⟩
  | succ f ih =>
    intro B hd s h hf hb
    have hlen := h.len hn
    rw [todoF]
    by_cases hlt : hd < s.out.length
    · rw [if_pos hlt]
      obtain ⟨y, hy⟩ : ∃ y, (s.out.getD hd z32).f0 = y := ⟨_, rfl⟩
      rw [hy]
      have hw := h.wl y
      have hp : 3 ^ hd ≤ 3 ^ 8 := Nat.pow_le_pow_right (by omega) (by omega)
      have hp8 : 3 ^ 8 = 6561 := by decide
      rw [if_neg (by omega)]
      have h1 : Inv n cs ⟨s.T, updW s.W y [], s.out⟩ B := ⟨h.tm, h.ot, h.rg, h.nd, fun z j hj => by
        have hj' : j ∈ updW s.W y [] z := hj
        unfold updW at hj'
        split at hj'
        · cases hj'
        · exact h.wi z j hj', fun z => by
        show (updW s.W y [] z).length ≤ B
        unfold updW
        split
        · simp
        · exact h.wl z⟩
      have hi := h.wi y
      have h2 := visL_inv hl (s.W y) _ _ h1 hi
      cases hc : (visL cs (s.W y) ⟨s.T, updW s.W y [], s.out⟩).2 with
      | some i =>
        refine ⟨_, rfl, ⟨_, h2⟩, fun a hm hs => ?_⟩
        have := (visL_sound hl hm (s.W y) _ _ h1 hs hi).1
        rw [hc] at this
        cases this
      | none =>
        have hpow : 3 ^ (hd + 1) = 3 ^ hd * 3 := Nat.pow_succ ..
        obtain ⟨r, hr, hr2, hr3⟩ := ih (B + 2 * (s.W y).length + 1) (hd + 1) _ (h2.mono (by omega)) (by omega) (by rw [hpow]; omega)
        exact ⟨r, hr, hr2, fun a hm hs => hr3 a hm (visL_sound hl hm (s.W y) _ _ h1 hs hi).2⟩
    · rw [if_neg hlt]
      exact ⟨_, rfl, ⟨B, h⟩, fun a _ hs => ⟨rfl, hs⟩⟩

/-- A trail that is checked, told step by step. -/
theorem chk_inv {n : Int} {cs : List (List Int)} (hl : LitsIn n cs) : ∀ (t : List S32) (T : Int → Bool) (pre : List S32), Inv n cs ⟨T, fun _ => [], pre⟩ 0 → chkT n cs T t = 0 →
    Inv n cs ⟨stepsT T t, fun _ => [], pre ++ t⟩ 0 ∧ ∀ a, Model a cs → (∀ q ∈ t, q.f1 < 0 → litV a q.f0 = true) → Sound a pre → Sound a (pre ++ t)
  | [], T, pre, h, _ => ⟨by rw [List.append_nil]; exact h, fun a _ _ hs => by rw [List.append_nil]; exact hs⟩
  | s :: t, T, pre, h, hk => by
    unfold chkT at hk
    by_cases q1 : s.f0 = 0
    · rw [if_pos q1] at hk; cases hk
    rw [if_neg q1] at hk
    by_cases q2 : n < s.f0
    · rw [if_pos q2] at hk; cases hk
    rw [if_neg q2] at hk
    by_cases q3 : s.f0 < -n
    · rw [if_pos q3] at hk; cases hk
    rw [if_neg q3] at hk
    by_cases q4 : (T s.f0 || T (-s.f0)) = true
    · rw [if_pos q4] at hk; cases hk
    rw [if_neg q4] at hk
    by_cases q5 : s.f1 < -1
    · rw [if_pos q5] at hk; cases hk
    rw [if_neg q5] at hk
    by_cases q6 : (cs.length : Int) ≤ s.f1
    · rw [if_pos q6] at hk; cases hk
    rw [if_neg q6] at hk
    obtain ⟨t1, t2⟩ : T s.f0 = false ∧ T (-s.f0) = false := by simpa using q4
    have hin : Inv n cs ⟨updT T s.f0, fun _ => [], pre ++ [s]⟩ 0 := by
      refine ⟨fun y hy => ?_, fun q hq => ?_, fun q hq => ?_, ?_, h.wi, h.wl⟩
      · have hy' : updT T s.f0 y = true := hy
        unfold updT at hy'
        by_cases e : y = s.f0
        · exact ⟨s, by simp, e.symm⟩
        · rw [if_neg e] at hy'
          obtain ⟨q, hq, hqe⟩ := h.tm y hy'
          exact ⟨q, List.mem_append_left _ hq, hqe⟩
      · show updT T s.f0 q.f0 = true
        unfold updT
        rcases List.mem_append.1 hq with hq | hq
        · split
          · rfl
          · exact h.ot q hq
        · rw [List.mem_singleton] at hq; rw [hq, if_pos rfl]
      · rcases List.mem_append.1 hq with hq | hq
        · exact h.rg q hq
        · rw [List.mem_singleton] at hq; rw [hq]; exact ⟨q1, by omega, by omega⟩
      · show ((pre ++ [s]).map (fun q => q.f0.natAbs)).Nodup
        rw [List.map_append, List.nodup_append]
        refine ⟨h.nd, by simp, fun u hu v hv => ?_⟩
        obtain ⟨q, hq, rfl⟩ := List.mem_map.1 hu
        have hv' : v = s.f0.natAbs := by simpa using hv
        intro e
        have hq2 : T q.f0 = true := h.ot q hq
        rcases (by omega : q.f0 = s.f0 ∨ q.f0 = -s.f0) with e2 | e2
        · rw [e2, t1] at hq2; cases hq2
        · rw [e2, t2] at hq2; cases hq2
    have hrest : chkT n cs (updT T s.f0) t = 0 := by
      split at hk
      · exact hk
      split at hk
      · cases hk
      split at hk
      · cases hk
      · exact hk
    have hstep : ∀ a, Model a cs → (s.f1 < 0 → litV a s.f0 = true) → Sound a pre → litV a s.f0 = true := by
      intro a hm hd hs
      by_cases q7 : s.f1 < 0
      · exact hd q7
      rw [if_neg q7] at hk
      by_cases q8 : (cs.getD s.f1.toNat []).contains s.f0 = false
      · rw [if_pos q8] at hk; cases hk
      rw [if_neg q8] at hk
      by_cases q9 : (cs.getD s.f1.toNat []).any (openB s T) = true
      · rw [if_pos q9] at hk; cases hk
      have hc := getD_mem (cs := cs) (i := s.f1) (by omega) (by omega)
      obtain ⟨x, hx, hv⟩ := hm _ hc
      by_cases e : x = s.f0
      · rw [← e]; exact hv
      exfalso
      refine q9 (List.any_eq_true.2 ⟨x, hx, ?_⟩)
      unfold openB
      rw [decide_eq_true e]
      cases hq : T (-x) with
      | false => rfl
      | true =>
        obtain ⟨r, hr, hre⟩ := h.tm _ hq
        have h2 := hs r hr
        rw [hre, litV_neg a (hl _ hc x hx).1, hv] at h2
        cases h2
    obtain ⟨r1, r2⟩ := chk_inv hl t (updT T s.f0) (pre ++ [s]) hin hrest
    rw [List.append_assoc, List.singleton_append] at r1 r2
    refine ⟨r1, fun a hm hd hs => r2 a hm (fun q hq => hd q (List.mem_cons_of_mem _ hq)) (fun q hq => ?_)⟩
    rcases List.mem_append.1 hq with hq | hq
    · exact hs q hq
    · rw [List.mem_singleton] at hq; rw [hq]; exact hstep a hm (hd s List.mem_cons_self) hs

theorem checkB_in {n : Int} {cs : List (List Int)} (h : checkB n cs = 0) : LitsIn n cs := (checkB_lit h).2.2

/-- Prop answers over at most 9 variables, and what it tells follows. -/
theorem prop_sound {n : Int} {cs : List (List Int)} {t : List S32} (hn : 0 ≤ n ∧ n ≤ 9) (hok : okC cs = true) (hcl : cs.length ≤ 200) (htl : t.length ≤ 60) :
    (checkP n cs t ≠ 0 ∧ prop_Prop.f n cs t = some ([], 0, checkP n cs t)) ∨
    (checkB n cs = 0 ∧ (∀ q ∈ t, q.f0 ≠ 0 ∧ -n ≤ q.f0 ∧ q.f0 ≤ n) ∧ ∃ out conf, prop_Prop.f n cs t = some (out, conf, 0) ∧ out.length ≤ 9 ∧ (∀ q ∈ out, q.f0 ≠ 0 ∧ -n ≤ q.f0 ∧ q.f0 ≤ n) ∧
      ∀ a, Model a cs → (∀ q ∈ t, q.f1 < 0 → litV a q.f0 = true) → conf = -1 ∧ Sound a out) := by
  unfold prop_Prop.f
  rw [if_pos ⟨hok, by omega⟩]
  by_cases hc : checkP n cs t = 0
  · right
    rw [if_neg (fun h => h hc)]
    have hcb : checkB n cs = 0 := by
      unfold checkP at hc
      split at hc
      · rename_i h; exact (h hc).elim
      · rename_i h; exact Classical.byContradiction (fun q => h q)
    have hct : chkT n cs (fun _ => false) t = 0 := by
      unfold checkP at hc
      rwa [if_neg (fun h => h hcb)] at hc
    have hl := checkB_in hcb
    obtain ⟨hi, hs⟩ := chk_inv hl t (fun _ => false) [] ⟨fun y hy => (by cases hy), fun q hq => (List.not_mem_nil hq).elim, fun q hq => (List.not_mem_nil hq).elim, List.nodup_nil, fun y i hi => (List.not_mem_nil hi).elim, fun y => Nat.le_refl _⟩ hct
    rw [List.nil_append] at hi hs
    have hi0 : Inv n cs (startS t) 0 := hi
    have hi1 := visL_inv hl (idxL 0 cs.length) (startS t) 0 hi0 (fun i h => mem_idxL h)
    have hlen : (idxL 0 cs.length).length = cs.length := by simp [idxL]
    have ht9 : t.length ≤ 9 := hi0.len hn
    rw [hlen] at hi1
    refine ⟨hcb, hi0.rg, ?_⟩
    have hsd : ∀ a, Model a cs → (∀ q ∈ t, q.f1 < 0 → litV a q.f0 = true) → (visL cs (idxL 0 cs.length) (startS t)).2 = none ∧ Sound a (visL cs (idxL 0 cs.length) (startS t)).1.out := fun a hm hd =>
      visL_sound hl hm (idxL 0 cs.length) (startS t) 0 hi0 (hs a hm hd (fun q hq => (List.not_mem_nil hq).elim)) (fun i h => mem_idxL h)
    unfold mainP
    cases hv : (visL cs (idxL 0 cs.length) (startS t)).2 with
    | some i =>
      refine ⟨_, _, rfl, hi1.len hn, hi1.rg, fun a hm hd => ?_⟩
      have := (hsd a hm hd).1
      rw [hv] at this
      cases this
    | none =>
      have hpos : 1 ≤ 3 ^ t.length := Nat.pos_of_ne_zero (by simp)
      obtain ⟨r, hr, ⟨B', hr2⟩, hr3⟩ := todo_ok hn hl 29 (2 * t.length + 2 * cs.length) t.length _ (hi1.mono (by omega)) (by omega) (by omega)
      refine ⟨r.1.out, r.2, ?_, hr2.len hn, hr2.rg, fun a hm hd => hr3 a hm (hsd a hm hd).2⟩
      show (todoF cs 30 _ _ _).map _ = _
      rw [hr]
      rfl
  · left
    rw [if_pos hc]
    exact ⟨hc, rfl⟩

#print axioms prop_sound
end Go.Proofs.Ytidgljajegoffaa.G
