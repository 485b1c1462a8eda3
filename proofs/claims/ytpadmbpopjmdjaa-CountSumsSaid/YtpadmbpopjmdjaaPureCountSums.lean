/-
  The plain law of CountSums: Least can be satisfied exactly where the constraint with unit coefficients holds.
-/
import Derived.Test.YtpadmbpopjmdjaaQSux1
import Derived.Test.YtpadmbpopjmdjaaGCAll
namespace Go.Proofs.Ytpadmbpopjmdjaa.Pure
set_option linter.unusedVariables false
open Go.RowKit Go.Proofs.Ytpadmbpopjmdjaa.QSu Go.Proofs.YtpadmbpopjmdjaaW.PrintWords Go.Proofs.YtpadmbpopjmdjaaW.PrintLast Go.Proofs.YtpadmbpopjmdjaaW.PrintMore
open G (Gr tv Hold cntT holdsB vabs)

theorem vstep_one {a : List Bool} {n : Nat} {x m : Int} (hx : Gr m x) (hm : m ≤ a.length) (ha : a.length ≤ 65537) (hn : n ≤ 100000) : G.vstep a (n : Int) 1 x = ((n + if tv a x = true then 1 else 0 : Nat) : Int) := by
  obtain ⟨h0, h1, h2⟩ := hx
  have hneg : wrap64 (-x) = -x := by unfold wrap64; omega
  have hw : wrap64 ((n : Int) + 1) = ((n + 1 : Nat) : Int) := by unfold wrap64; omega
  unfold G.vstep G.tv
  unfold G.vabs
  rw [hneg]
  by_cases hs : x < 0
  · rw [if_pos (show x < -x by omega), if_pos hs, decide_eq_true (show -x < (a.length : Int) by omega), decide_eq_false (show ¬ 0 < x by omega), Bool.true_and]
    cases a.getD (-x).toNat false
    · simp [hw]
    · simp
  · rw [if_neg (show ¬ x < -x by omega), if_neg hs, decide_eq_true (show x < (a.length : Int) by omega), decide_eq_true (show 0 < x by omega), Bool.true_and]
    cases a.getD x.toNat false
    · simp
    · simp [hw]

theorem vfold_cnt {a : List Bool} {l : List Int} {m : Int} (hg : ∀ x ∈ l, Gr m x) (hm : m ≤ a.length) (ha : a.length ≤ 65537) (hl : l.length ≤ 100000) : ∀ i, i ≤ l.length → G.vfold a (List.replicate l.length 1) l i = (cntT a l i : Int)
  | 0, _ => rfl
  | i + 1, hi => by
    show G.vstep a (G.vfold a (List.replicate l.length 1) l i) ((List.replicate l.length 1).getD i 0) (l.getD i 0) = ((cntT a l i + if tv a (l.getD i 0) = true then 1 else 0 : Nat) : Int)
    have hle := G.cntT_le a l i
    have hm1 : l.getD i 0 ∈ l := by simp [List.getD_eq_getElem?_getD, show i < l.length by omega]
    have h1 : (List.replicate l.length (1 : Int)).getD i 0 = 1 := by simp [List.getD_eq_getElem?_getD, show i < l.length by omega]
    rw [vfold_cnt hg hm ha hl i (by omega), h1, vstep_one (hg _ hm1) hm ha (by omega)]

theorem ones_run {x7 : List Bool} {x8 : List (List Int)} {x9 : Int} {l : List Int} {k : Int} (hl : l.length ≤ 100) {F : Nat} {R : Option Bool} (hend : ∀ K, F ≤ K → ((QCan.chalklinelaw16_can.f K x8 x7 x9).bind fun bt119 => (if bt119.2 = true then ((G.lin_Value.f (List.replicate l.length 1) l k x7).bind fun t121 => (some (bt119.1 == t121))) else (some true))) = R) : ∀ (d i K : Nat), l.length = i + d → F + d + 1 ≤ K →
    chalklinelaw16_CountSums.l0 K x7 x8 x9 (l.length : Int) (i : Int) (List.replicate i 1) l k = R := by
  intro d
  induction d with
  | zero =>
    intro i K hd hK
    obtain ⟨K, rfl⟩ : ∃ j, K = j + 1 := ⟨K - 1, by omega⟩
    obtain rfl : i = l.length := by omega
    rw [chalklinelaw16_CountSums.l0, if_neg (Int.lt_irrefl _)]
    exact hend K (by omega)
  | succ d ih =>
    intro i K hd hK
    obtain ⟨K, rfl⟩ : ∃ j, K = j + 1 := ⟨K - 1, by omega⟩
    have ei : wrap64 ((i : Int) + 1) = ((i + 1 : Nat) : Int) := by unfold wrap64; omega
    rw [chalklinelaw16_CountSums.l0, if_pos (by omega), if_pos (by rw [List.length_replicate]; omega), ei, ← List.replicate_succ']
    exact ih (i + 1) K (by omega) (by omega)

def SumsPure : Prop := ∀ (l0 : List Int) (a1 : Int) (l2 : List Bool), (∀ x ∈ l0, (Lit.int .i64 x).wf = true) → ∃ k, chalklinelaw16_CountSums.f k l0 a1 l2 = some true

theorem CountSums : SumsPure := by
  intro l0 a1 l2 hw
  obtain ⟨K, hK⟩ : ∃ K : Nat, K = 2000000000 := ⟨_, rfl⟩
  refine ⟨K + 3, ?_⟩
  have hj : chalklinelaw16_CountSums.j0 (K + 3) l0 a1 l2 true = some true := by rw [chalklinelaw16_CountSums.j0, if_pos rfl]
  unfold chalklinelaw16_CountSums.f G.chalklinelaw16_live.f
  simp only [Option.bind_some, if_true]
  by_cases h1 : (l2.length : Int) > 12
  · rw [if_pos h1]; exact hj
  rw [if_neg h1]
  by_cases h2 : (l0.length : Int) > 12
  · rw [if_pos h2]; exact hj
  rw [if_neg h2]
  by_cases h3 : a1 < (-100)
  · rw [if_pos h3]; exact hj
  rw [if_neg h3]
  by_cases h4 : a1 > 100
  · rw [decide_eq_true h4]; exact hj
  rw [decide_eq_false h4, chalklinelaw16_CountSums.j0, if_neg (by decide)]
  simp only [Option.bind_some, List.length_cons, List.length_nil]
  rw [if_pos (by omega)]
  obtain ⟨a, ha⟩ : ∃ a, [false] ++ l2 = a := ⟨_, rfl⟩
  have hal : a.length = l2.length + 1 := by rw [← ha]; simp
  rw [ha]
  have hwf : G.wfL l0 = true := by simpa [G.wfL] using hw
  have t1 : G.count_Least.f l0 a1 (a.length : Int) = some (G.leastOf l0 a1 (a.length : Int)) := by unfold G.count_Least.f; rw [if_pos ⟨by omega, hwf⟩]
  rw [t1]
  simp only [Option.bind_some]
  by_cases h0 : (G.leastOf l0 a1 (a.length : Int)).2.2 = 0
  · obtain ⟨hr, _⟩ := G.leastOf_ok h0
    have hg := G.right_gr hr hw
    obtain ⟨⟨b1, b2⟩, _, _⟩ := G.leastOf_gr hw h0
    have hs := (G.leastOf_small l0 a1 (a.length : Int)).1
    have hh := G.leastOf_holds hw h0
    have sat := fun (n : Nat) hn => G.least_sat (a := a) (n := n) hw h0 hn
    rw [if_pos h0]
    have hv : G.lin_Value.f (List.replicate l0.length 1) l0 a1 a = some (decide ((cntT a l0 l0.length : Int) ≥ a1)) := by
      unfold G.lin_Value.f
      rw [if_pos, vfold_cnt hg (Int.le_refl _) (by omega) (by omega) l0.length (Nat.le_refl _)]
      refine ⟨by rw [List.length_replicate], by omega, ?_, ?_, ?_⟩
      · unfold G.smallB; exact decide_eq_true (by omega)
      · rw [List.all_eq_true]
        intro x hx
        obtain rfl := List.eq_of_mem_replicate hx
        rfl
      · rw [List.all_eq_true]
        intro x hx
        obtain ⟨g0, g1, g2⟩ := hg x hx
        unfold G.litVB
        exact decide_eq_true ⟨g0, by omega, by omega⟩
    have h := ones_run (x7 := a) (x8 := (G.leastOf l0 a1 (a.length : Int)).1) (x9 := (G.leastOf l0 a1 (a.length : Int)).2.1) (l := l0) (k := a1) (F := 1500000000) (R := some true) (by omega) (fun K' hK' => ?_) l0.length 0 (K + 2) (by omega) (by omega)
    · exact h
    · obtain ⟨t, ht, htt⟩ := G.can_f (c := (G.leastOf l0 a1 (a.length : Int)).1) (a := a) (af := (G.leastOf l0 a1 (a.length : Int)).2.1) (by omega) (by omega) hh (by omega) (K := K') (by omega)
      rw [ht]
      simp only [Option.bind_some]
      by_cases h2 : t.2 = true
      · obtain ⟨n, hn, hiff⟩ := htt h2
        rw [if_pos h2, hv]
        simp only [Option.bind_some]
        congr 1
        rw [beq_iff_eq, Bool.eq_iff_iff, hiff, sat n hn, decide_eq_true_eq]
      · rw [if_neg h2]
  · obtain ⟨e1, e2⟩ := G.leastOf_err h0
    rw [if_neg h0, e1]
    rfl

#print axioms CountSums
end Go.Proofs.Ytpadmbpopjmdjaa.Pure
