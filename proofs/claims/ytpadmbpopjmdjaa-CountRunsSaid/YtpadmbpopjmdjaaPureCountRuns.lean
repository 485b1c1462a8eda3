/-
  The plain law of CountRuns: registers that tell the counts satisfy all clauses but, it may be, the last.
-/
import Derived.Test.YtpadmbpopjmdjaaQRux1
import Derived.Test.YtpadmbpopjmdjaaGCLaw
namespace Go.Proofs.Ytpadmbpopjmdjaa.Pure
open Go.RowKit Go.Proofs.Ytpadmbpopjmdjaa.QRu Go.Proofs.YtpadmbpopjmdjaaW.PrintWords Go.Proofs.YtpadmbpopjmdjaaW.PrintLast
open G (Gr tv Hold cntT)

def RunsPure : Prop := ∀ (l0 : List Int) (a1 : Int) (l2 : List Bool), (∀ x ∈ l0, (Lit.int .i64 x).wf = true) → ∃ k, chalklinelaw16_CountRuns.f k l0 a1 l2 = some true

theorem runs_l0 {l : List Int} {a1 : Int} {a b : List Bool} {cs ds : List (List Int)} {m : Int} (hm : m ≤ 65537) (hb : m ≤ b.length) (hg : ∀ c ∈ ds, ∀ x ∈ c, Gr m x) (hl : ∀ c ∈ ds, c.length ≤ 3) (hh : ∀ c ∈ ds, Hold b c) (hs : ds.length ≤ 100000) {B : Nat} (hend : ∀ k, B < k → chalklinelaw16_CountRuns.l0 k l a1 a cs b ds (ds.length : Int) (ds.length : Int) = some true) :
    ∀ d i k, i + d = ds.length → B + d < k → chalklinelaw16_CountRuns.l0 k l a1 a cs b ds (ds.length : Int) (i : Int) = some true := by
  intro d
  induction d with
  | zero =>
    intro i k h1 h2
    obtain rfl : i = ds.length := by omega
    exact hend k (by omega)
  | succ d ih =>
    intro i k h1 h2
    obtain ⟨k, rfl⟩ : ∃ j, k = j + 1 := ⟨k - 1, by omega⟩
    have hi : i < ds.length := by omega
    have hmem : rd_L1 ds (i : Int) ∈ ds := by simp [rd_L1, List.getD_eq_getElem?_getD, hi]
    rw [chalklinelaw16_CountRuns.l0, if_pos (by omega), if_pos (by omega), if_pos (by omega), G.holds_f (hg _ hmem) hm (hl _ hmem)]
    simp only [Option.bind_some]
    rw [if_pos ((G.holdsB_iff (hg _ hmem) hm hb).2 (hh _ hmem)), show wrap64 ((i : Int) + 1) = ((i + 1 : Nat) : Int) from by unfold wrap64; omega]
    exact ih (i + 1) k (by omega) (by omega)

theorem CountRuns : RunsPure := by
  intro l0 a1 l2 hw
  obtain ⟨K, hK⟩ : ∃ K : Nat, K = 1000000 := ⟨_, rfl⟩
  refine ⟨K + 3, ?_⟩
  have hj : chalklinelaw16_CountRuns.j0 (K + 3) l0 a1 l2 true = some true := by rw [chalklinelaw16_CountRuns.j0, if_pos rfl]
  unfold chalklinelaw16_CountRuns.f G.chalklinelaw16_live.f
  simp only [Option.bind_some, if_true]
  by_cases h1 : (l2.length : Int) > 60
  · rw [if_pos h1]; exact hj
  rw [if_neg h1]
  by_cases h2 : (l0.length : Int) > 60
  · rw [decide_eq_true h2]; exact hj
  rw [decide_eq_false h2, chalklinelaw16_CountRuns.j0, if_neg (by decide)]
  simp only [Option.bind_some, List.length_cons, List.length_nil]
  rw [if_pos (by omega)]
  obtain ⟨a, ha⟩ : ∃ a, [false] ++ l2 = a := ⟨_, rfl⟩
  have hal : a.length = l2.length + 1 := by rw [← ha]; simp
  rw [ha]
  have hwf : G.wfL l0 = true := by simpa [G.wfL] using hw
  have t1 : G.count_Least.f l0 a1 (a.length : Int) = some (G.leastOf l0 a1 (a.length : Int)) := by unfold G.count_Least.f; rw [if_pos ⟨by omega, hwf⟩]
  rw [t1]
  simp only [Option.bind_some]
  have hend : ∀ (cs : List (List Int)) (af e : Int), (e = 0 ∨ cs = []) → chalklinelaw16_CountRuns.j1 (K + 2) l0 a1 a cs af e true = some true := fun cs af e h => by
    rw [chalklinelaw16_CountRuns.j1, if_pos rfl]
    by_cases he : e = 0
    · rw [if_pos he]
    · rw [if_neg he, h.resolve_left he]; rfl
  by_cases h0 : (G.leastOf l0 a1 (a.length : Int)).2.2 = 0
  · rw [if_pos h0]
    by_cases hk1 : a1 < 1
    · rw [if_pos hk1]; exact hend _ _ _ (.inl h0)
    rw [if_neg hk1]
    by_cases hk2 : a1 > (l0.length : Int)
    · rw [decide_eq_true hk2]; exact hend _ _ _ (.inl h0)
    rw [decide_eq_false hk2]
    obtain ⟨hr, hcase⟩ := G.leastOf_ok h0
    obtain ⟨_, _, hg⟩ := G.leastOf_gr hw h0
    obtain ⟨m, rfl, hm1, hm2, hs, e⟩ : ∃ K : Nat, a1 = K ∧ 1 ≤ K ∧ K ≤ l0.length ∧ (a.length : Int) + (G.sm K l0.length : Int) ≤ 65537 ∧ G.leastOf l0 a1 (a.length : Int) = (G.leastCs (a.length : Int) K l0, (a.length : Int) + G.sm K l0.length, 0) := by
      rcases hcase with ⟨h, _⟩ | ⟨h, _⟩ | h
      · omega
      · omega
      · exact h
    have hsm := G.leastOf_small l0 (m : Int) (a.length : Int)
    rw [e] at hg hsm ⊢
    dsimp only at hg hsm ⊢
    have hgl := G.right_gr hr hw
    rw [chalklinelaw16_CountRuns.j1, if_neg (by decide), G.ran_f (K := m) hgl (by omega) (by omega) (by omega) (by omega) (by omega) (by omega)]
    simp only [Option.bind_some]
    obtain ⟨b, hb⟩ : ∃ b, a ++ G.rans a l0 m l0.length = b := ⟨_, rfl⟩
    have hbl : b.length = a.length + G.sm m l0.length := by rw [← hb, List.length_append, G.rans_len]
    rw [hb, if_pos (by rw [hbl]; omega)]
    have hcs : G.leastCs (a.length : Int) m l0 = G.crows (a.length : Int) m l0 l0.length ++ [[(a.length : Int) + G.sm m (l0.length - 1) + m - 1]] := rfl
    obtain ⟨cs, hcse⟩ : ∃ cs, G.leastCs (a.length : Int) m l0 = cs := ⟨_, rfl⟩
    rw [hcse] at hg hsm hcs ⊢
    have hlen : cs.length = (G.crows (a.length : Int) m l0 l0.length).length + 1 := by rw [hcs, List.length_append]; rfl
    have hne : ((cs.length : Int) == 0) = false := beq_eq_false_iff_ne.2 (by omega)
    have hcl : cs.length ≤ 65536 := hsm.1
    have ew : wrap64 ((cs.length : Int) - 1) = ((cs.length - 1 : Nat) : Int) := by unfold wrap64; omega
    rw [hne, chalklinelaw16_CountRuns.j2, if_neg (by decide), ew, if_pos (by omega), if_pos (by omega), Int.toNat_natCast]
    simp only [Option.bind_some]
    have htake : cs.take (cs.length - 1) = G.crows (a.length : Int) m l0 l0.length := by
      rw [hlen, hcs, Nat.add_sub_cancel, List.take_left]
    have htv : ∀ x ∈ l0, tv b x = tv a x := fun x hx => by
      obtain ⟨_, q1, q2⟩ := hgl x hx
      rw [← hb]
      exact G.tv_append q1 q2
    have hcnt : ∀ i, i ≤ l0.length → cntT b l0 i = cntT a l0 i := G.cntT_congr htv
    have hreg : ∀ i, i < l0.length → ∀ j, 1 ≤ j → j ≤ min (i + 1) m → tv b (G.rg (a.length : Int) m i j) = decide (j ≤ cntT b l0 (i + 1)) := fun i hi j h1 h2 => by
      rw [hcnt (i + 1) (by omega), ← hb]
      have := G.tv_ran (a := a) (e := []) (l := l0) hi h1 h2
      rwa [List.append_nil] at this
    have hrows := G.regs_complete (b := b) (next := (a.length : Int)) (k := m) (l := l0) (n := l0.length) (by omega) hreg
    have hin : ∀ c ∈ G.crows (a.length : Int) m l0 l0.length, c ∈ cs := fun c hc => by rw [hcs]; exact List.mem_append_left _ hc
    rw [htake]
    have hlast : rd_L1 cs ((cs.length - 1 : Nat) : Int) = [(a.length : Int) + G.sm m (l0.length - 1) + m - 1] := by
      unfold rd_L1
      rw [Int.toNat_natCast, hlen, Nat.add_sub_cancel, hcs]
      simp [List.getD_eq_getElem?_getD]
    have hlm : rd_L1 cs ((cs.length - 1 : Nat) : Int) ∈ cs := by rw [hlast, hcs]; simp
    refine runs_l0 (m := (a.length : Int) + G.sm m l0.length) hs (by rw [hbl]; omega) (fun c hc => hg c (hin c hc)) (fun c hc => hsm.2 c (hin c hc)) hrows (by omega) (B := 200000) (fun k hk => ?_) (G.crows (a.length : Int) m l0 l0.length).length 0 K (by omega) (by omega)
    obtain ⟨k, rfl⟩ : ∃ j, k = j + 1 := ⟨k - 1, by omega⟩
    rw [chalklinelaw16_CountRuns.l0, if_neg (by omega), ew, if_pos (by omega), if_pos (by omega), G.holds_f (hg _ hlm) hs (hsm.2 _ hlm)]
    simp only [Option.bind_some]
    rw [G.many_f hgl (by omega) (by omega) (by omega) (by omega)]
    simp only [Option.bind_some]
    have hv : G.holdsB (rd_L1 cs ((cs.length - 1 : Nat) : Int)) b = decide ((cntT a l0 l0.length : Int) ≥ (m : Int)) := by
      rw [Bool.eq_iff_iff, G.holdsB_iff (hg _ hlm) hs (by rw [hbl]; omega), hlast]
      have hq := hreg (l0.length - 1) (by omega) m hm1 (by omega)
      rw [show l0.length - 1 + 1 = l0.length from by omega, hcnt _ (Nat.le_refl _)] at hq
      have e1 : (a.length : Int) + (G.sm m (l0.length - 1) : Int) + m - 1 = G.rg (a.length : Int) m (l0.length - 1) m := rfl
      rw [e1]
      unfold Hold
      simp only [List.mem_singleton, exists_eq_left, hq, decide_eq_true_eq]
      omega
    rw [hv, if_pos (by simp), hlast]
    rfl
  · rw [if_neg h0]
    exact hend _ _ _ (.inr (G.leastOf_err h0).1)

end Go.Proofs.Ytpadmbpopjmdjaa.Pure
