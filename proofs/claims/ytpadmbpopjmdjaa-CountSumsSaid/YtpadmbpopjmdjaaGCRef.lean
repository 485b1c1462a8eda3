/-
  The reference's Least, Most, Same and Registers: what they answer, in plain Lean.
-/
import Derived.Test.YtpadmbpopjmdjaaQRefx3
import Derived.Test.YtpadmbpopjmdjaaGCGive
namespace Go.Proofs.Ytpadmbpopjmdjaa.G
set_option linter.unusedVariables false
open Go.RowKit Go.Proofs.Ytpadmbpopjmdjaa.QRef Go.Proofs.YtpadmbpopjmdjaaW.PrintWords Go.Proofs.YtpadmbpopjmdjaaW.PrintLast Go.Proofs.YtpadmbpopjmdjaaW.PrintMore

theorem same_l1 {xs : List (List Int)} (hb : xs.length ≤ 1000000) {i K : Nat} (hi : i < xs.length) (hr : (rd_L1 xs (i : Int)).length ≤ 3) (hend : ∀ k, K < k → chalklineref16_Same.l0 k xs xs (xs.length : Int) ((i + 1 : Nat) : Int) = some true) :
    ∀ d j k, j + d = (rd_L1 xs (i : Int)).length → K + d + 1 < k → chalklineref16_Same.l1 k xs xs (i : Int) (xs.length : Int) (i : Int) ((rd_L1 xs (i : Int)).length : Int) (j : Int) = some true := by
  intro d
  induction d with
  | zero =>
    intro j k h1 h2
    obtain ⟨k, rfl⟩ : ∃ j, k = j + 1 := ⟨k - 1, by omega⟩
    rw [chalklineref16_Same.l1, if_neg (by omega), show wrap64 ((i : Int) + 1) = ((i + 1 : Nat) : Int) from by unfold wrap64; omega]
    exact hend k (by omega)
  | succ d ih =>
    intro j k h1 h2
    obtain ⟨k, rfl⟩ : ∃ j, k = j + 1 := ⟨k - 1, by omega⟩
    rw [chalklineref16_Same.l1, if_pos (by omega), if_pos (by omega), if_pos (by omega), if_pos (by omega), if_pos (by omega), if_pos (by omega), if_pos (by omega), if_pos rfl, show wrap64 ((j : Int) + 1) = ((j + 1 : Nat) : Int) from by unfold wrap64; omega]
    exact ih (j + 1) k (by omega) (by omega)

theorem same_l0 {xs : List (List Int)} (hb : xs.length ≤ 1000000) (hr : ∀ c ∈ xs, c.length ≤ 3) : ∀ d i k, i + d = xs.length → d * 6 + 1 < k → chalklineref16_Same.l0 k xs xs (xs.length : Int) (i : Int) = some true := by
  intro d
  induction d with
  | zero =>
    intro i k h1 h2
    obtain ⟨k, rfl⟩ : ∃ j, k = j + 1 := ⟨k - 1, by omega⟩
    rw [chalklineref16_Same.l0, if_neg (by omega)]
  | succ d ih =>
    intro i k h1 h2
    obtain ⟨k, rfl⟩ : ∃ j, k = j + 1 := ⟨k - 1, by omega⟩
    have hi : i < xs.length := by omega
    have hl : (rd_L1 xs (i : Int)).length ≤ 3 := hr _ (by simp [rd_L1, List.getD_eq_getElem?_getD, hi])
    rw [chalklineref16_Same.l0, if_pos (by omega), if_pos (by omega), if_pos (by omega), if_pos (by omega), if_pos rfl]
    obtain ⟨B, hB⟩ : ∃ B, d * 6 + 1 = B := ⟨_, rfl⟩
    have hn : ∀ k, B < k → chalklineref16_Same.l0 k xs xs (xs.length : Int) ((i + 1 : Nat) : Int) = some true := fun k hk => ih (i + 1) k (by omega) (by omega)
    have hk2 : B + (rd_L1 xs (i : Int)).length + 1 < k := by omega
    have h := same_l1 hb hi hl hn (rd_L1 xs (i : Int)).length 0 k (Nat.zero_add _) hk2
    rw [show ((0 : Nat) : Int) = 0 from rfl] at h
    exact h

/-- A list of clauses is the same as itself. -/
theorem same_self {xs : List (List Int)} (hb : xs.length ≤ 100000) (hr : ∀ c ∈ xs, c.length ≤ 3) {k : Nat} (hk : 1000000 < k) : chalklineref16_Same.f k xs xs = some true := by
  rw [chalklineref16_Same.f, if_pos rfl]
  have h := same_l0 (xs := xs) (by omega) hr xs.length 0 k (by omega) (by omega)
  rw [show ((0 : Nat) : Int) = 0 from rfl] at h
  exact h

theorem lits_l0 {l : List Int} {next : Int} (hn1 : 1 ≤ next) (hn2 : next ≤ 65537) (hl : l.length ≤ 5000) : ∀ d i k (x5 : List Bool) (S : Int → Bool), i + d = l.length → (x5.length : Int) = next → (∀ v, 0 ≤ v → v < next → rdOf false x5 v = S v) → d < k → chalklineref16_lits.l0 k next x5 l (l.length : Int) (i : Int) = some (resE (rightFrom next S (l.drop i))) := by
  intro d
  induction d with
  | zero =>
    intro i k x5 S h1 _ _ h2
    obtain ⟨k, rfl⟩ : ∃ j, k = j + 1 := ⟨k - 1, by omega⟩
    rw [chalklineref16_lits.l0, if_neg (by omega), List.drop_eq_nil_of_le (by omega)]
    rfl
  | succ d ih =>
    intro i k x5 S h1 hx hS h2
    obtain ⟨k, rfl⟩ : ∃ j, k = j + 1 := ⟨k - 1, by omega⟩
    rw [chalklineref16_lits.l0, if_pos (by omega), if_pos (by omega), if_pos (by omega), drop_rd (show i < l.length by omega)]
    obtain ⟨x, hxe⟩ : ∃ x, l.getD i 0 = x := ⟨_, rfl⟩
    rw [show rd l (i : Int) = x from by simpa [rd] using hxe, hxe]
    rw [show mx x (wrap64 (-x)) = vabs x from rfl]
    obtain ⟨v, hv⟩ : ∃ v, vabs x = v := ⟨_, rfl⟩
    unfold rightFrom
    rw [hv]
    by_cases c1 : v ≤ 0
    · rw [if_pos (show v < 1 by omega), if_pos c1]; rfl
    rw [if_neg (show ¬ v < 1 by omega), if_neg c1]
    by_cases c2 : next ≤ v
    · rw [if_pos (show v ≥ next by omega), if_pos c2]; rfl
    rw [if_neg (show ¬ v ≥ next by omega), if_neg c2, if_pos (by omega), if_pos (by omega), hS v (by omega) (by omega)]
    cases hs : S v with
    | true => rw [if_pos rfl, if_pos rfl]; rfl
    | false =>
      rw [if_neg (by decide), if_neg (by decide), show wrap64 ((i : Int) + 1) = ((i + 1 : Nat) : Int) from by unfold wrap64; omega]
      refine ih (i + 1) k _ _ (by omega) (by rw [List.length_set]; exact hx) (fun u h0 hu => ?_) (by omega)
      unfold rdOf
      rw [List.getD_eq_getElem?_getD, List.getElem?_set]
      by_cases e : u = v
      · subst e
        rw [if_pos rfl, if_pos (by omega), if_pos rfl]; rfl
      · rw [if_neg (by omega), if_neg e, ← hS u h0 hu]
        simp [rdOf, List.getD_eq_getElem?_getD]

theorem lits_f {l : List Int} {next : Int} (hl : l.length ≤ 5000) {k : Nat} (hk : 6000 < k) : chalklineref16_lits.f k l next = some (rightE l next) := by
  have j1 : ∀ k, 0 < k → chalklineref16_lits.j0 k l next true = some 1 := fun k hk => by
    obtain ⟨k, rfl⟩ : ∃ j, k = j + 1 := ⟨k - 1, by omega⟩
    rw [chalklineref16_lits.j0, if_pos rfl]
  unfold chalklineref16_lits.f rightE
  by_cases h1 : next < 1
  · rw [if_pos h1, if_pos h1]; exact j1 k (by omega)
  rw [if_neg h1, if_neg h1]
  by_cases h2 : 65537 < next
  · rw [if_pos (show next > 65537 from h2), if_pos h2]; exact j1 k (by omega)
  rw [if_neg (show ¬ next > 65537 from h2), if_neg h2]
  by_cases h3 : 4096 < l.length
  · rw [decide_eq_true (by omega), if_pos h3]; exact j1 k (by omega)
  rw [decide_eq_false (by omega), if_neg h3]
  obtain ⟨k, rfl⟩ : ∃ j, k = j + 1 := ⟨k - 1, by omega⟩
  rw [chalklineref16_lits.j0, if_neg (by decide), if_pos (by omega), if_pos (by omega)]
  have := lits_l0 (l := l) (next := next) (by omega) (by omega) hl l.length 0 k (List.replicate next.toNat false) (fun _ => false) (by omega) (by rw [List.length_replicate]; omega) (fun v h0 h1 => by simp [rdOf, List.getD_eq_getElem?_getD, List.getElem?_replicate]; split <;> rfl) (by omega)
  rwa [List.drop_zero] at this

theorem w_neg {b j : Int} (h : 0 ≤ b) (h2 : b ≤ 100000) (h3 : 0 ≤ j) (h4 : j ≤ 100000) : wrap64 (-(wrap64 (wrap64 (b + j) - 1))) = -(b + j - 1) := by unfold wrap64; omega
theorem w_sub1 {b j : Int} (h : 0 ≤ b) (h2 : b ≤ 100000) (h3 : 0 ≤ j) (h4 : j ≤ 100000) : wrap64 (wrap64 (b + j) - 1) = b + j - 1 := by unfold wrap64; omega
theorem w_sub2 {b j : Int} (h : 0 ≤ b) (h2 : b ≤ 100000) (h3 : 0 ≤ j) (h4 : j ≤ 100000) : wrap64 (wrap64 (b + j) - 2) = b + j - 2 := by unfold wrap64; omega

theorem mn_cast (a b : Nat) : mn (a : Int) (b : Int) = ((min a b : Nat) : Int) := by unfold mn; split <;> omega

theorem least_l0 {l : List Int} {K : Nat} {next : Int} (hn1 : 1 ≤ next) (hn2 : next ≤ 65537) (hl : l.length ≤ 4096) (hK2 : K ≤ l.length) : ∀ d i0 k, i0 + d = l.length →
    chalklineref16_Least.l0 (k + d + 1) l (K : Int) next (l.length : Int) (next - 1 + sm K i0) ((i0 + 1 : Nat) : Int) = if 65536 < next + (sm K l.length : Int) - 1 then some ([], 0, 2) else chalklineref16_Least.l1 k l (K : Int) (l.length : Int) [] next 0 1 := by
  intro d
  induction d with
  | zero =>
    intro i0 k h
    obtain rfl : i0 = l.length := by omega
    rw [Nat.add_zero, chalklineref16_Least.l0, if_neg (by omega)]
    by_cases hb : 65536 < next + (sm K l.length : Int) - 1
    · rw [if_pos (by omega), if_pos hb]
    · rw [if_neg (by omega), if_neg hb]
  | succ d ih =>
    intro i0 k h
    have hs := sm_succ K i0
    have hb := Nat.le_trans (sm_le K (i0 + 1)) (sq_bound (show i0 + 1 ≤ 4096 by omega) (show K ≤ 4096 by omega))
    rw [show k + (d + 1) + 1 = (k + d + 1) + 1 from by omega, chalklineref16_Least.l0, if_pos (by omega), mn_cast, show wrap64 (next - 1 + (sm K i0 : Int) + ((min (i0 + 1) K : Nat) : Int)) = next - 1 + (sm K (i0 + 1) : Int) from by rw [hs]; unfold wrap64; omega,
      show wrap64 (((i0 + 1 : Nat) : Int) + 1) = ((i0 + 1 + 1 : Nat) : Int) from by unfold wrap64; omega]
    exact ih (i0 + 1) k (by omega)

theorem least_l2 {l : List Int} {K : Nat} {next : Int} (hn1 : 1 ≤ next) (hl : l.length ≤ 4096) (hK1 : 1 ≤ K) {i0 : Nat} (hi : i0 < l.length) {x ahead : Int} (hx : l.getD i0 0 = x) (hs : next + (sm K (i0 + 1) : Int) ≤ 65537) (hA : 1 ≤ i0 → ahead = next + sm K (i0 - 1)) {B : Nat} {R : Option (List (List Int) × Int × Int)}
    (hend : ∀ k, B < k → chalklineref16_Least.l1 k l (K : Int) (l.length : Int) (crows next K l (i0 + 1)) (next + sm K (i0 + 1)) (next + sm K i0) ((i0 + 1 + 1 : Nat) : Int) = R) :
    ∀ d m k, m + d = min (i0 + 1) K → B + d + 1 < k → chalklineref16_Least.l2 k l (K : Int) (l.length : Int) (crows next K l i0 ++ crow next K i0 x m) (next + sm K i0) ahead ((i0 + 1 : Nat) : Int) ((m + 1 : Nat) : Int) = R := by
  have hss := sm_succ K i0
  intro d
  induction d with
  | zero =>
    intro m k h1 h2
    obtain ⟨k, rfl⟩ : ∃ j, k = j + 1 := ⟨k - 1, by omega⟩
    rw [chalklineref16_Least.l2, mn_cast, if_neg (by omega)]
    have e : crows next K l i0 ++ crow next K i0 x m = crows next K l (i0 + 1) := by
      rw [show m = min (i0 + 1) K by omega, ← hx]; rfl
    rw [e, show wrap64 (next + (sm K i0 : Int) + ((min (i0 + 1) K : Nat) : Int)) = next + (sm K (i0 + 1) : Int) from by rw [hss]; unfold wrap64; omega, show wrap64 (((i0 + 1 : Nat) : Int) + 1) = ((i0 + 1 + 1 : Nat) : Int) from by unfold wrap64; omega]
    exact hend k (by omega)
  | succ d ih =>
    intro m k h1 h2
    obtain ⟨k, rfl⟩ : ∃ j, k = j + 1 := ⟨k - 1, by omega⟩
    have hlen : (crows next K l i0 ++ crow next K i0 x m).length ≤ 1000000 := by
      have c1 := crows_len next hK1 l i0
      have c2 := crow_len next K i0 x m
      rw [List.length_append, c2]
      omega
    have hnx := ih (m + 1) k (by omega) (by omega)
    have ec : crow next K i0 x (m + 1) = crow next K i0 x m ++ cl12 next K i0 x (m + 1) := rfl
    rw [ec, ← List.append_assoc] at hnx
    obtain ⟨cs, hcs⟩ : ∃ cs, crows next K l i0 ++ crow next K i0 x m = cs := ⟨_, rfl⟩
    rw [hcs] at hlen hnx ⊢
    have hsm : i0 = 0 ∨ (sm K (i0 - 1) : Int) ≤ sm K i0 := by
      by_cases h : i0 = 0
      · exact .inl h
      · exact .inr (by have := sm_mono (k := K) (show i0 - 1 ≤ i0 by omega); omega)
    rw [chalklineref16_Least.l2, mn_cast, if_pos (by omega), w_neg (by omega) (by omega) (by omega) (by omega), show wrap64 (((i0 + 1 : Nat) : Int) - 1) = (i0 : Int) from by unfold wrap64; omega, show wrap64 (((m + 1 : Nat) : Int) + 1) = ((m + 1 + 1 : Nat) : Int) from by unfold wrap64; omega, mn_cast]
    simp only [Option.bind_some]
    have hrd : rd l (i0 : Int) = x := by simpa [rd] using hx
    rw [hrd]
    unfold cl12 cl1 cl2 at hnx
    by_cases c1 : m + 1 ≤ min i0 K
    · have hA1 := hA (by omega)
      have hs3 : (sm K (i0 - 1) : Int) ≤ 65537 := by omega
      rw [hA1] at hnx
      rw [if_pos (show ((m + 1 : Nat) : Int) ≤ ((min i0 K : Nat) : Int) by omega), hA1, w_sub1 (by omega) (by omega) (by omega) (by omega), w_sub2 (by omega) (by omega) (by omega) (by omega)]
      rw [if_pos c1, if_pos c1] at hnx
      simp only [List.length_cons, List.length_nil, List.length_append, List.cons_append, List.nil_append]
      rw [if_pos (by omega), if_pos (by omega), if_pos (by omega), if_pos (by omega), if_pos (by omega), if_pos (by omega)]
      by_cases c2 : 1 < m + 1
      · rw [if_pos (by omega), if_pos (by omega), if_pos (by omega)]
        rw [if_pos c2] at hnx
        simpa only [List.append_assoc, List.cons_append, List.nil_append] using hnx
      · rw [if_neg (by omega)]
        rw [if_neg c2] at hnx
        exact hnx
    · rw [if_neg (show ¬ ((m + 1 : Nat) : Int) ≤ ((min i0 K : Nat) : Int) by omega)]
      rw [if_neg c1, if_neg c1] at hnx
      simp only [List.length_cons, List.length_nil, List.length_append, List.cons_append, List.nil_append]
      rw [if_pos (by omega), if_pos (by omega), if_pos (by omega), if_pos (by omega)]
      by_cases c2 : 1 < m + 1
      · have hA1 := hA (by omega)
        have hs3 : (sm K (i0 - 1) : Int) ≤ 65537 := by omega
        rw [hA1] at hnx
        rw [if_pos (by omega), if_pos (by omega), if_pos (by omega), hA1, w_sub2 (by omega) (by omega) (by omega) (by omega)]
        rw [if_pos c2] at hnx
        simpa only [List.append_assoc, List.cons_append, List.nil_append] using hnx
      · rw [if_neg (by omega)]
        rw [if_neg c2] at hnx
        exact hnx

theorem least_l1 {l : List Int} {K : Nat} {next : Int} (hn1 : 1 ≤ next) (hl : l.length ≤ 4096) (hK1 : 1 ≤ K) (hK2 : K ≤ l.length) (hs : next + (sm K l.length : Int) ≤ 65537) :
    ∀ d i0 k ahead, i0 + d = l.length → (1 ≤ i0 → ahead = next + sm K (i0 - 1)) → d * 5000 + 10 < k → chalklineref16_Least.l1 k l (K : Int) (l.length : Int) (crows next K l i0) (next + sm K i0) ahead ((i0 + 1 : Nat) : Int) = some (if 65536 < 2 * (sm K l.length : Int) - l.length + 1 then ([], 0, 2) else (leastCs next K l, next + sm K l.length, 0)) := by
  intro d
  induction d with
  | zero =>
    intro i0 k ahead h1 hA h2
    obtain ⟨k, rfl⟩ : ∃ j, k = j + 1 := ⟨k - 1, by omega⟩
    obtain rfl : i0 = l.length := by omega
    have hA1 := hA (by omega)
    have hm := sm_mono (k := K) (show l.length - 1 ≤ l.length by omega)
    have hc := crows_len next hK1 l l.length
    have hlc := leastCs_len next hK1 l
    rw [chalklineref16_Least.l1, if_neg (by omega), if_pos (by omega), hA1, w_sub1 (by omega) (by omega) (by omega) (by omega)]
    simp only [Option.bind_some]
    rw [show crows next K l l.length ++ [[next + (sm K (l.length - 1) : Int) + K - 1]] = leastCs next K l from rfl]
    by_cases hb : 65536 < 2 * (sm K l.length : Int) - l.length + 1
    · rw [if_pos (by omega), if_pos hb]
    · rw [if_neg (by omega), if_neg hb]
  | succ d ih =>
    intro i0 k ahead h1 hA h2
    obtain ⟨k, rfl⟩ : ∃ j, k = j + 1 := ⟨k - 1, by omega⟩
    have hm := sm_mono (k := K) (show i0 + 1 ≤ l.length by omega)
    rw [chalklineref16_Least.l1, if_pos (by omega)]
    have h := least_l2 (x := l.getD i0 0) (B := d * 5000 + 10) (ahead := ahead) hn1 hl hK1 (show i0 < l.length by omega) rfl (by omega) hA (fun k hk => ih (i0 + 1) k _ (by omega) (fun _ => rfl) hk) (min (i0 + 1) K) 0 k (by omega) (by omega)
    rw [show crow next K i0 (l.getD i0 0) 0 = [] from rfl, List.append_nil] at h
    exact h

/-- The reference's Least answers what the program's does. -/
theorem ref_least {l : List Int} {k next : Int} (hl : l.length ≤ 5000) {K : Nat} (hK : 30000000 < K) : chalklineref16_Least.f K l k next = some (leastOf l k next) := by
  unfold chalklineref16_Least.f leastOf
  rw [lits_f hl (by omega)]
  simp only [Option.bind_some]
  by_cases h0 : rightE l next = 0
  · rw [if_pos h0, if_neg (show ¬ rightE l next ≠ 0 from fun h => h h0)]
    obtain ⟨hn1, hn2, hl1, _⟩ := rightE_ok h0
    by_cases h1 : k ≤ 0
    · rw [if_pos h1, if_pos h1]
    rw [if_neg h1, if_neg h1]
    by_cases h2 : (l.length : Int) < k
    · rw [if_pos (show k > (l.length : Int) from h2), if_pos h2]
    rw [if_neg (show ¬ k > (l.length : Int) from h2), if_neg h2]
    obtain ⟨m, rfl⟩ : ∃ m : Nat, k = m := ⟨k.toNat, by omega⟩
    rw [Int.toNat_natCast]
    obtain ⟨K1, rfl⟩ : ∃ j, K = j + l.length + 1 := ⟨K - l.length - 1, by omega⟩
    have hz := least_l0 (K := m) hn1 hn2 hl1 (by omega) l.length 0 K1 (by omega)
    rw [show next - 1 + ((sm m 0 : Nat) : Int) = wrap64 (next - 1) from by show next - 1 + ((0 : Nat) : Int) = _; unfold wrap64; omega, show ((0 + 1 : Nat) : Int) = 1 from rfl] at hz
    rw [hz]
    by_cases h3 : 65536 < next + (sm m l.length : Int) - 1
    · rw [if_pos h3, if_pos h3]
    rw [if_neg h3, if_neg h3]
    have h := least_l1 (K := m) hn1 hl1 (by omega) (by omega) (by omega) l.length 0 K1 0 (by omega) (fun h => by omega) (by omega)
    rw [show ((0 + 1 : Nat) : Int) = 1 from rfl, show crows next m l 0 = [] from rfl, show next + ((sm m 0 : Nat) : Int) = next from by show next + ((0 : Nat) : Int) = _; omega] at h
    rw [h]
  · rw [if_neg h0, if_pos h0]

theorem most_l0 {l : List Int} (hl : l.length ≤ 4096) {k next : Int} {R : Option (List (List Int) × Int × Int)} {B : Nat} (hend : ∀ K, B < K → chalklineref16_Least.f K (l.map (fun x => wrap64 (-x))) k next = R) (hR : ∀ r, R = some r → (some (r.1, r.2.1, r.2.2)) = R) (hR2 : R ≠ none) : ∀ d i K, i + d = l.length → B + d + 1 < K → chalklineref16_Most.l0 K next k ((l.take i).map (fun x => wrap64 (-x))) l (l.length : Int) (i : Int) = R := by
  intro d
  induction d with
  | zero =>
    intro i K h1 h2
    obtain ⟨K, rfl⟩ : ∃ j, K = j + 1 := ⟨K - 1, by omega⟩
    obtain rfl : i = l.length := by omega
    rw [chalklineref16_Most.l0, if_neg (by omega), List.take_length, hend K (by omega)]
    cases R with
    | none => exact (hR2 rfl).elim
    | some r => rfl
  | succ d ih =>
    intro i K h1 h2
    obtain ⟨K, rfl⟩ : ∃ j, K = j + 1 := ⟨K - 1, by omega⟩
    have hi : i < l.length := by omega
    rw [chalklineref16_Most.l0, if_pos (by omega), if_pos (by omega), if_pos (by omega), if_pos (by rw [List.length_map, List.length_take]; omega), show wrap64 ((i : Int) + 1) = ((i + 1 : Nat) : Int) from by unfold wrap64; omega]
    have h := ih (i + 1) K (by omega) (by omega)
    rw [List.take_succ_eq_append_getElem hi, List.map_append] at h
    have e : rd l (i : Int) = l[i] := by simp [rd, List.getD_eq_getElem?_getD, hi]
    rw [e]
    exact h

/-- The reference's Most answers what the program's does. -/
theorem ref_most {l : List Int} {k next : Int} (hl : l.length ≤ 5000) {K : Nat} (hK : 30010000 < K) : chalklineref16_Most.f K l k next = some (mostOf l k next) := by
  unfold chalklineref16_Most.f mostOf
  rw [lits_f hl (by omega)]
  simp only [Option.bind_some]
  by_cases h0 : rightE l next = 0
  · rw [if_pos h0, if_neg (show ¬ rightE l next ≠ 0 from fun h => h h0)]
    obtain ⟨hn1, hn2, hl1, _⟩ := rightE_ok h0
    have main : ∀ kk : Int, chalklineref16_Most.j0 K l next kk = some (leastOf (l.map (fun x => wrap64 (-x))) kk next) := fun kk => by
      obtain ⟨K1, rfl⟩ : ∃ j, K = j + 1 := ⟨K - 1, by omega⟩
      rw [chalklineref16_Most.j0]
      exact most_l0 hl1 (B := 30000000) (R := some (leastOf (l.map (fun x => wrap64 (-x))) kk next)) (fun K hK => ref_least (by rw [List.length_map]; omega) hK) (fun r h => by injection h with h; rw [h]) (by simp) l.length 0 K1 (by omega) (by omega)
    rw [main, main, main]
    by_cases h1 : k < 0
    · rw [if_pos h1]
      congr 2
      by_cases h2 : k < -1
      · rw [if_pos h2, if_neg (by omega)]; unfold wrap64; omega
      · rw [if_neg h2, if_neg (by omega)]; unfold wrap64; omega
    rw [if_neg h1, if_neg (show ¬ k < -1 by omega)]
    by_cases h2 : k < (l.length : Int)
    · rw [if_pos h2, if_neg (by omega)]
      congr 2
      unfold wrap64; omega
    · rw [if_neg h2]
      congr 2
      split <;> omega
  · rw [if_neg h0, if_pos h0]

theorem cl_rows {next : Int} {k : Nat} {l : List Int} : ∀ c ∈ leastCs next k l, c.length ≤ 3 := by
  have h12 : ∀ (i : Nat) (x : Int) (j : Nat), ∀ c ∈ cl12 next k i x j, c.length ≤ 3 := fun i x j c hc => by
    unfold cl12 cl1 cl2 at hc
    split at hc <;> split at hc <;> simp at hc <;> (first | (rcases hc with rfl | rfl <;> simp) | (subst hc; simp))
  have hrow : ∀ (i : Nat) (x : Int) (m : Nat), ∀ c ∈ crow next k i x m, c.length ≤ 3 := fun i x m => by
    induction m with
    | zero => exact fun c hc => by cases hc
    | succ m ih =>
      intro c hc
      rcases List.mem_append.1 (show c ∈ crow next k i x m ++ cl12 next k i x (m + 1) from hc) with h | h
      · exact ih c h
      · exact h12 _ _ _ c h
  have hrows : ∀ n, ∀ c ∈ crows next k l n, c.length ≤ 3 := fun n => by
    induction n with
    | zero => exact fun c hc => by cases hc
    | succ n ih =>
      intro c hc
      rcases List.mem_append.1 (show c ∈ crows next k l n ++ crow next k n (l.getD n 0) (min (n + 1) k) from hc) with h | h
      · exact ih c h
      · exact hrow _ _ _ c h
  intro c hc
  rcases List.mem_append.1 hc with h | h
  · exact hrows _ c h
  · rw [List.mem_singleton] at h
    subst h
    simp

/-- What Least answers is short. -/
theorem leastOf_small (l : List Int) (k next : Int) : (leastOf l k next).1.length ≤ 65536 ∧ ∀ c ∈ (leastOf l k next).1, c.length ≤ 3 := by
  unfold leastOf
  split
  · exact ⟨by simp, fun c hc => by cases hc⟩
  split
  · exact ⟨by simp, fun c hc => by cases hc⟩
  split
  · exact ⟨by simp, fun c hc => by simp at hc; subst hc; simp⟩
  split
  · exact ⟨by simp, fun c hc => by cases hc⟩
  split
  · exact ⟨by simp, fun c hc => by cases hc⟩
  · rename_i h0 h1 h2 h3 h4
    have := leastCs_len next (k := k.toNat) (by omega) l
    exact ⟨by show (leastCs next k.toNat l).length ≤ 65536; omega, cl_rows⟩

theorem mostOf_small (l : List Int) (k next : Int) : (mostOf l k next).1.length ≤ 65536 ∧ ∀ c ∈ (mostOf l k next).1, c.length ≤ 3 := by
  unfold mostOf
  split
  · exact ⟨by simp, fun c hc => by cases hc⟩
  · exact leastOf_small _ _ _

theorem registers_l0 {n K : Nat} (hn : n ≤ 5000) (hK1 : 1 ≤ K) (hK2 : K ≤ n) : ∀ d i k, i + d = n → d < k → chalklineref16_Registers.l0 k (n : Int) (K : Int) (sm K i : Int) ((i + 1 : Nat) : Int) = some (sm K n : Int) := by
  intro d
  induction d with
  | zero =>
    intro i k h1 h2
    obtain ⟨k, rfl⟩ : ∃ j, k = j + 1 := ⟨k - 1, by omega⟩
    obtain rfl : i = n := by omega
    rw [chalklineref16_Registers.l0, if_neg (by omega)]
  | succ d ih =>
    intro i k h1 h2
    obtain ⟨k, rfl⟩ : ∃ j, k = j + 1 := ⟨k - 1, by omega⟩
    have hs := sm_succ K i
    have hb := Nat.le_trans (sm_le K (i + 1)) (Nat.mul_le_mul (show i + 1 ≤ 5000 by omega) (show K ≤ 5000 by omega))
    rw [chalklineref16_Registers.l0, if_pos (by omega), if_pos (by omega), if_pos (by omega), mn_cast, show wrap64 ((sm K i : Int) + ((min (i + 1) K : Nat) : Int)) = (sm K (i + 1) : Int) from by rw [hs]; unfold wrap64; omega, show wrap64 (((i + 1 : Nat) : Int) + 1) = ((i + 1 + 1 : Nat) : Int) from by unfold wrap64; omega]
    exact ih (i + 1) k (by omega) (by omega)

#print axioms ref_most

end Go.Proofs.Ytpadmbpopjmdjaa.G
