/-
  The plain law of PropSound: over at most 9 variables, every model that agrees with the decisions satisfies all implied literals, and there is none if a conflict is reported.
-/
import Derived.Test.YtidgljajegoffaaQSox2
import Derived.Test.YtidgljajegoffaaPSound
namespace Go.Proofs.Ytidgljajegoffaa.Pure
set_option linter.unusedVariables false
open Go.RowKit Go.Proofs.Ytidgljajegoffaa.QSo Go.Proofs.Ytidgljajegoffaa.QRef Go.Proofs.YtidgljajegoffaaW.PrintWords Go.Proofs.YtidgljajegoffaaW.PrintLast Go.Proofs.YtidgljajegoffaaW.PrintMore
open Go.Proofs.Ytidgljajegoffaa.G

theorem rd32_mem {t : List S32} {i : Nat} (h : i < t.length) : rd_T32 t (i : Int) ∈ t := by
  simp [rd_T32, List.getD_eq_getElem?_getD, h]

theorem truths_l0 {n : Nat} (hn : n ≤ 9) (bits : Int) : ∀ (d v K : Nat) (a : List Bool), n + 1 = v + d → 1 ≤ v → d + 1 ≤ K → a.length = n + 1 → ∃ b, chalklineref14_Truths.l0 K n bits a (v : Int) = some b := by
  intro d
  induction d with
  | zero =>
    intro v K a hd hv hK ha
    obtain ⟨K, rfl⟩ : ∃ j, K = j + 1 := ⟨K - 1, by omega⟩
    rw [chalklineref14_Truths.l0, if_neg (by omega)]
    exact ⟨_, rfl⟩
  | succ d ih =>
    intro v K a hd hv hK ha
    obtain ⟨K, rfl⟩ : ∃ j, K = j + 1 := ⟨K - 1, by omega⟩
    have ei : wrap64 ((v : Int) + 1) = ((v + 1 : Nat) : Int) := by unfold wrap64; omega
    have e1 : wrap64 ((v : Int) - 1) = ((v - 1 : Nat) : Int) := by unfold wrap64; omega
    have hu : 0 ≤ IntKind.u64.wrap ((v - 1 : Nat) : Int) := by
      unfold IntKind.wrap
      have : IntKind.u64.signed = false := rfl
      have e2 : ((2 : Int) ^ IntKind.u64.bits) = 18446744073709551616 := by decide +kernel
      simp only [this, Bool.false_and, e2]
      simp
      omega
    rw [chalklineref14_Truths.l0, if_pos (by omega), e1, if_pos hu, if_pos (by omega), if_pos (by omega), ei]
    exact ih (v + 1) K _ (by omega) (by omega) (by omega) (by rw [List.length_set]; exact ha)
theorem truths_f {n : Nat} (hn : n ≤ 9) (bits : Int) {K : Nat} (hK : 11 ≤ K) : ∃ b, chalklineref14_Truths.f K n bits = some b := by
  have e : wrap64 ((n : Int) + 1) = ((n + 1 : Nat) : Int) := by unfold wrap64; omega
  unfold chalklineref14_Truths.f
  rw [e, if_pos (by omega), if_pos (by omega)]
  exact truths_l0 hn bits n 1 K _ (by omega) (by omega) (by omega) (by simp)

theorem u64_small {n : Nat} (hn : n ≤ 9) : IntKind.u64.wrap (n : Int) = n := by
  unfold IntKind.wrap
  have : IntKind.u64.signed = false := rfl
  have e2 : ((2 : Int) ^ IntKind.u64.bits) = 18446744073709551616 := by decide +kernel
  simp only [this, Bool.false_and, e2]
  simp
  omega
theorem shl_pow : ∀ n : Nat, n ≤ 9 → shl .i64 1 (n : Int) = ((2 ^ n : Nat) : Int)
  | 0, _ => by decide +kernel
  | 1, _ => by decide +kernel
  | 2, _ => by decide +kernel
  | 3, _ => by decide +kernel
  | 4, _ => by decide +kernel
  | 5, _ => by decide +kernel
  | 6, _ => by decide +kernel
  | 7, _ => by decide +kernel
  | 8, _ => by decide +kernel
  | 9, _ => by decide +kernel
  | n + 10, h => by omega

theorem holds_one (a : List Bool) {x : Int} (h0 : x ≠ 0) (h1 : -9 ≤ x) (h2 : x ≤ 9) : cnf_Holds.f [x] a = some (litV a x) := by
  have hmin : IntKind.i64.min = -9223372036854775808 := rfl
  have hmax : IntKind.i64.max = 9223372036854775807 := rfl
  unfold cnf_Holds.f
  rw [if_pos]
  · unfold holdsB
    rw [List.any_cons, List.any_nil, Bool.or_false, litB_V a h0 (by omega) (by omega)]
  · refine ⟨by simp, ?_⟩
    unfold wfL
    rw [List.all_cons, List.all_nil, Bool.and_true]
    simp only [Lit.wf, Bool.and_eq_true, decide_eq_true_eq]
    omega

theorem value_model {n : Int} {cs : List (List Int)} {a : List Bool} (hc : checkB n cs = 0) (hn : n ≤ 9) (h : valueB n cs a = true) : Model a cs := by
  intro c hcm
  unfold valueB at h
  rw [if_pos hc] at h
  have h1 : cs.any (fun l => !(holdsB l a)) = false := by simpa using h
  have h2 := List.any_eq_false.1 h1 c hcm
  have h3 : holdsB c a = true := by simpa using h2
  unfold holdsB at h3
  obtain ⟨x, hx, hv⟩ := List.any_eq_true.1 h3
  obtain ⟨p0, p1, p2⟩ := checkB_in hc c hcm x hx
  exact ⟨x, hx, by rw [← litB_V a p0 (by omega) (by omega)]; exact hv⟩

section
variable {n : Nat} {cs : List (List Int)} {t out : List S32} {conf : Int}

theorem so_l2 {bits : Int} {a : List Bool} {F : Nat} (hr : ∀ q ∈ out, q.f0 ≠ 0 ∧ -(n : Int) ≤ q.f0 ∧ q.f0 ≤ n) (hn : n ≤ 9) (hlen : out.length ≤ 9) (hs : Sound a out)
    (hN : ∀ K, F ≤ K → chalklinelaw19_PropSound.l0 K t out conf (wrap64 (bits + 1)) n cs = some true) : ∀ (d i K : Nat), out.length = i + d → F + d + 1 ≤ K → chalklinelaw19_PropSound.l2 K t out conf bits a (i : Int) n cs = some true := by
  intro d
  induction d with
  | zero =>
    intro i K hd hK
    obtain ⟨K, rfl⟩ : ∃ j, K = j + 1 := ⟨K - 1, by omega⟩
    rw [chalklinelaw19_PropSound.l2, if_neg (by omega)]
    exact hN K (by omega)
  | succ d ih =>
    intro i K hd hK
    obtain ⟨K, rfl⟩ : ∃ j, K = j + 1 := ⟨K - 1, by omega⟩
    have hm := rd32_mem (t := out) (i := i) (by omega)
    obtain ⟨p0, p1, p2⟩ := hr _ hm
    have ei : wrap64 ((i : Int) + 1) = ((i + 1 : Nat) : Int) := by unfold wrap64; omega
    rw [chalklinelaw19_PropSound.l2, if_pos (by omega), if_pos (by omega), holds_one a p0 (by omega) (by omega)]
    simp only [Option.bind_some]
    rw [hs _ hm, if_pos rfl, ei]
    exact ih (i + 1) K (by omega) (by omega)

theorem so_l1 {bits : Int} {a : List Bool} {F : Nat} (hok : okC cs = true) (hc : checkB (n : Int) cs = 0) (hn : n ≤ 9) (htl : t.length ≤ 60) (hrt : ∀ q ∈ t, q.f0 ≠ 0 ∧ -(n : Int) ≤ q.f0 ∧ q.f0 ≤ n) (hr : ∀ q ∈ out, q.f0 ≠ 0 ∧ -(n : Int) ≤ q.f0 ∧ q.f0 ≤ n) (hlen : out.length ≤ 9)
    (hp : ∀ a, Model a cs → (∀ q ∈ t, q.f1 < 0 → litV a q.f0 = true) → conf = -1 ∧ Sound a out)
    (hN : ∀ K, F ≤ K → chalklinelaw19_PropSound.l0 K t out conf (wrap64 (bits + 1)) n cs = some true) : ∀ (d i K : Nat) (all : Bool), t.length = i + d → F + 20 + d ≤ K → (all = true → ∀ j, j < i → (rd_T32 t (j : Int)).f1 < 0 → litV a (rd_T32 t (j : Int)).f0 = true) →
      chalklinelaw19_PropSound.l1 K t out conf bits a all (i : Int) n cs = some true := by
  intro d
  induction d with
  | zero =>
    intro i K all hd hK hall
    obtain ⟨K, rfl⟩ : ∃ j, K = j + 2 := ⟨K - 2, by omega⟩
    rw [chalklinelaw19_PropSound.l1, if_neg (by omega)]
    have hskip : chalklinelaw19_PropSound.j3 (K + 1) t out conf bits a true n cs = some true := by
      rw [chalklinelaw19_PropSound.j3, if_pos rfl]
      exact hN K (by omega)
    cases all with
    | false => rw [if_neg (by decide)]; exact hskip
    | true =>
      have hv : cnf_Value.f n cs a = some (valueB n cs a) := by unfold cnf_Value.f; rw [if_pos hok]
      rw [if_pos rfl, hv]
      simp only [Option.bind_some]
      cases hb : valueB n cs a with
      | false => exact hskip
      | true =>
        have hdec : ∀ q ∈ t, q.f1 < 0 → litV a q.f0 = true := by
          intro q hq h1
          obtain ⟨j, hj, rfl⟩ := List.getElem_of_mem hq
          have e : rd_T32 t (j : Int) = t[j] := by simp [rd_T32, List.getD_eq_getElem?_getD, hj]
          rw [← e] at h1 ⊢
          exact hall rfl j (by omega) h1
        obtain ⟨h1, h2⟩ := hp a (value_model hc (by omega) hb) hdec
        rw [show (!true) = false from rfl, chalklinelaw19_PropSound.j3, if_neg (by decide), if_pos h1]
        exact so_l2 hr hn hlen h2 hN out.length 0 K (by omega) (by omega)
  | succ d ih =>
    intro i K all hd hK hall
    obtain ⟨K, rfl⟩ : ∃ j, K = j + 1 := ⟨K - 1, by omega⟩
    have hm := rd32_mem (t := t) (i := i) (by omega)
    obtain ⟨p0, p1, p2⟩ := hrt _ hm
    have ei : wrap64 ((i : Int) + 1) = ((i + 1 : Nat) : Int) := by unfold wrap64; omega
    rw [chalklinelaw19_PropSound.l1, if_pos (by omega), ei]
    cases all with
    | false => rw [if_neg (by decide)]; exact ih (i + 1) K false (by omega) (by omega) (fun h => by cases h)
    | true =>
      have hprev := hall rfl
      have hnext : ∀ j, j < i + 1 → j < i ∨ j = i := fun j hj => by omega
      rw [if_pos rfl, if_pos (by omega)]
      by_cases hq : (rd_T32 t (i : Int)).f1 ≥ 0
      · rw [if_pos hq]
        refine ih (i + 1) K true (by omega) (by omega) (fun _ j hj h1 => ?_)
        rcases hnext j hj with e | e
        · exact hprev j e h1
        · subst e; omega
      · rw [if_neg hq, holds_one a p0 (by omega) (by omega)]
        simp only [Option.bind_some]
        refine ih (i + 1) K _ (by omega) (by omega) (fun h j hj h1 => ?_)
        rcases hnext j hj with e | e
        · exact hprev j e h1
        · subst e; exact h

theorem so_l0 (hok : okC cs = true) (hc : checkB (n : Int) cs = 0) (hn : n ≤ 9) (htl : t.length ≤ 60) (hrt : ∀ q ∈ t, q.f0 ≠ 0 ∧ -(n : Int) ≤ q.f0 ∧ q.f0 ≤ n) (hr : ∀ q ∈ out, q.f0 ≠ 0 ∧ -(n : Int) ≤ q.f0 ∧ q.f0 ≤ n) (hlen : out.length ≤ 9)
    (hp : ∀ a, Model a cs → (∀ q ∈ t, q.f1 < 0 → litV a q.f0 = true) → conf = -1 ∧ Sound a out) : ∀ (d i K : Nat), 2 ^ n = i + d → 100 * d + 100 ≤ K → chalklinelaw19_PropSound.l0 K t out conf (i : Int) n cs = some true := by
  intro d
  induction d with
  | zero =>
    intro i K hd hK
    obtain ⟨K, rfl⟩ : ∃ j, K = j + 1 := ⟨K - 1, by omega⟩
    rw [chalklinelaw19_PropSound.l0, u64_small hn, shl_pow n hn, if_pos (by omega), if_neg (by omega)]
  | succ d ih =>
    intro i K hd hK
    obtain ⟨K, rfl⟩ : ∃ j, K = j + 1 := ⟨K - 1, by omega⟩
    have h512 : 2 ^ n ≤ 2 ^ 9 := Nat.pow_le_pow_right (by omega) hn
    have e512 : 2 ^ 9 = 512 := by decide
    have ei : wrap64 ((i : Int) + 1) = ((i + 1 : Nat) : Int) := by unfold wrap64; omega
    obtain ⟨a, ha⟩ := truths_f hn (i : Int) (K := K) (by omega)
    rw [chalklinelaw19_PropSound.l0, u64_small hn, shl_pow n hn, if_pos (by omega), if_pos (by omega), ha]
    simp only [Option.bind_some]
    exact so_l1 (F := 100 * d + 100) hok hc hn htl hrt hr hlen hp (fun K' hK' => by rw [ei]; exact ih (i + 1) K' (by omega) hK') t.length 0 K true (by omega) (by omega) (fun _ j hj => by omega)
end

def SoundPure : Prop := ∀ (a0_0 : Int) (l0_1 : List (List Int)) (l1 : List S32), RowsOk l0_1 → ∃ k, chalklinelaw19_PropSound.f k a0_0 l0_1 l1 = some true

theorem PropSound : SoundPure := by
  intro n cs t hw
  refine ⟨50 + (300000 + cs.length), ?_⟩
  obtain ⟨K, hK⟩ : ∃ K, 300000 + cs.length = K := ⟨_, rfl⟩
  rw [hK]
  unfold chalklinelaw19_PropSound.f
  rw [live_f K]
  simp only [Option.bind_some, if_true]
  obtain ⟨b, hb, hbb⟩ := few_f (n := n) (t := t) hw.1 (K := 50 + K) (by omega)
  rw [hb]
  simp only [Option.bind_some]
  obtain ⟨K2, hK2⟩ : ∃ K2, 50 + K = K2 + 1 := ⟨49 + K, by omega⟩
  rw [hK2]
  have hj : ∀ m, chalklinelaw19_PropSound.j0 (K2 + 1) t true m cs = some true := fun m => by rw [chalklinelaw19_PropSound.j0, if_pos rfl]
  cases b with
  | false => rw [if_neg (by decide)]; exact hj _
  | true =>
    obtain ⟨h1, h2, h3⟩ := hbb rfl
    have hok := okC_of hw h1 h2
    rw [if_pos rfl]
    by_cases n0 : n < 0
    · rw [if_pos n0]; exact hj _
    rw [if_neg n0]
    by_cases n1 : n > 9
    · rw [decide_eq_true n1]; exact hj _
    rw [decide_eq_false n1, chalklinelaw19_PropSound.j0, if_neg (by decide)]
    obtain ⟨m, rfl⟩ : ∃ m : Nat, n = m := ⟨n.toNat, by omega⟩
    rcases prop_sound (n := (m : Int)) (by omega) hok h1 h3 with ⟨hc, he⟩ | ⟨hc, hrt, out, conf, he, hlen, hr, hp⟩
    · rw [he]
      simp only [Option.bind_some]
      rw [if_neg hc]
    · rw [he]
      simp only [Option.bind_some, if_true]
      have h512 : 2 ^ m ≤ 2 ^ 9 := Nat.pow_le_pow_right (by omega) (by omega)
      have e512 : 2 ^ 9 = 512 := by decide
      exact so_l0 hok hc (by omega) h3 hrt hr hlen hp (2 ^ m) 0 K2 (by omega) (by omega)

#print axioms PropSound
end Go.Proofs.Ytidgljajegoffaa.Pure
