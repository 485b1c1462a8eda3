/-
  The plain law of CountMeans: the clauses can be satisfied exactly if at least (at most) k literals are true.
-/
import Derived.Test.YtpadmbpopjmdjaaQMex1
import Derived.Test.YtpadmbpopjmdjaaGCAll
namespace Go.Proofs.Ytpadmbpopjmdjaa.Pure
open Go.RowKit Go.Proofs.Ytpadmbpopjmdjaa.QMe Go.Proofs.YtpadmbpopjmdjaaW.PrintWords Go.Proofs.YtpadmbpopjmdjaaW.PrintLast
open G (Gr tv Hold cntT)

def MeansPure : Prop := ∀ (l0 : List Int) (a1 : Int) (l2 : List Bool), (∀ x ∈ l0, (Lit.int .i64 x).wf = true) → ∃ k, chalklinelaw16_CountMeans.f k l0 a1 l2 = some true

theorem CountMeans : MeansPure := by
  intro l0 a1 l2 hw
  obtain ⟨K, hK⟩ : ∃ K : Nat, K = 2000000000 := ⟨_, rfl⟩
  refine ⟨K + 3, ?_⟩
  have hj : chalklinelaw16_CountMeans.j0 (K + 3) l0 a1 l2 true = some true := by rw [chalklinelaw16_CountMeans.j0, if_pos rfl]
  unfold chalklinelaw16_CountMeans.f G.chalklinelaw16_live.f
  simp only [Option.bind_some, if_true]
  by_cases h1 : (l2.length : Int) > 12
  · rw [if_pos h1]; exact hj
  rw [if_neg h1]
  by_cases h2 : (l0.length : Int) > 12
  · rw [decide_eq_true h2]; exact hj
  rw [decide_eq_false h2, chalklinelaw16_CountMeans.j0, if_neg (by decide)]
  simp only [Option.bind_some, List.length_cons, List.length_nil]
  rw [if_pos (by omega)]
  obtain ⟨a, ha⟩ : ∃ a, [false] ++ l2 = a := ⟨_, rfl⟩
  have hal : a.length = l2.length + 1 := by rw [← ha]; simp
  rw [ha]
  have hwf : G.wfL l0 = true := by simpa [G.wfL] using hw
  have t1 : G.count_Least.f l0 a1 (a.length : Int) = some (G.leastOf l0 a1 (a.length : Int)) := by unfold G.count_Least.f; rw [if_pos ⟨by omega, hwf⟩]
  have t2 : G.count_Most.f l0 a1 (a.length : Int) = some (G.mostOf l0 a1 (a.length : Int)) := by unfold G.count_Most.f; rw [if_pos ⟨by omega, hwf⟩]
  rw [t1]
  simp only [Option.bind_some]
  rw [t2]
  simp only [Option.bind_some]
  by_cases hr : G.rightE l0 (a.length : Int) = 0
  · have hg := G.right_gr hr hw
    have h0 := G.leastOf_small_ok (k := a1) hr (by omega) (by omega)
    have hrn : G.rightE (l0.map (fun x => wrap64 (-x))) (a.length : Int) = 0 := by rw [G.rightE_neg hw]; exact hr
    have h0n := G.leastOf_small_ok (k := G.thr l0.length a1) hrn (by rw [List.length_map]; omega) (by omega)
    have hwn := G.map_wf hg (by omega)
    rw [G.mostOf_eq hr, if_pos h0]
    obtain ⟨⟨b1, b2⟩, _, _⟩ := G.leastOf_gr hw h0
    obtain ⟨⟨c1, c2⟩, _, _⟩ := G.leastOf_gr hwn h0n
    have hs := (G.leastOf_small l0 a1 (a.length : Int)).1
    have hsn := (G.leastOf_small (l0.map (fun x => wrap64 (-x))) (G.thr l0.length a1) (a.length : Int)).1
    have hh := G.leastOf_holds hw h0
    have hhn := G.leastOf_holds hwn h0n
    have sat := fun (n : Nat) hn => G.least_sat (a := a) (n := n) hw h0 hn
    have satn := fun (n : Nat) hn => G.most_sat (a := a) (k := a1) (n := n) hg (by omega) h0n hn
    obtain ⟨x, hx⟩ : ∃ x, G.leastOf l0 a1 (a.length : Int) = x := ⟨_, rfl⟩
    obtain ⟨y, hy⟩ : ∃ y, G.leastOf (l0.map (fun x => wrap64 (-x))) (G.thr l0.length a1) (a.length : Int) = y := ⟨_, rfl⟩
    rw [hx] at b1 b2 hs hh sat ⊢
    rw [hy] at c1 c2 hsn hhn satn h0n ⊢
    rw [show (y.2.2 != 0) = false from by rw [h0n]; rfl, chalklinelaw16_CountMeans.j1, if_neg (by decide)]
    obtain ⟨t, ht, htt⟩ := G.can_f (c := x.1) (a := a) (af := x.2.1) (by omega) (by omega) hh (by omega) (K := K + 1) (by omega)
    obtain ⟨u, hu, huu⟩ := G.can_f (c := y.1) (a := a) (af := y.2.1) (by omega) (by omega) hhn (by omega) (K := K + 1) (by omega)
    rw [ht]
    simp only [Option.bind_some]
    rw [hu]
    simp only [Option.bind_some]
    have hm := G.many_f hg (by omega) (by omega) (by omega) (K := K + 1) (a := a) (by omega)
    rw [hm]
    simp only [Option.bind_some]
    have hu2 : u.2 = true → (u.1 == decide ((cntT a l0 l0.length : Int) ≤ a1)) = true := fun h => by
      obtain ⟨n, hn, hiff⟩ := huu h
      rw [beq_iff_eq, Bool.eq_iff_iff, hiff, satn n hn, decide_eq_true_eq]
    have ht2 : t.2 = true → (t.1 == decide ((cntT a l0 l0.length : Int) ≥ a1)) = true := fun h => by
      obtain ⟨n, hn, hiff⟩ := htt h
      rw [beq_iff_eq, Bool.eq_iff_iff, hiff, sat n hn, decide_eq_true_eq]
    by_cases e1 : t.2 = true
    · rw [if_pos e1, if_pos (ht2 e1)]
      by_cases e2 : u.2 = true
      · rw [if_pos e2, hu2 e2]
      · rw [if_neg e2]
    · rw [if_neg e1]
      by_cases e2 : u.2 = true
      · rw [if_pos e2, hu2 e2]
      · rw [if_neg e2]
  · rw [G.leastOf_right hr, G.mostOf_right hr, if_neg hr, chalklinelaw16_CountMeans.j1, if_pos rfl, if_pos rfl]
    rfl

end Go.Proofs.Ytpadmbpopjmdjaa.Pure
