/-
  The plain law of CountBoth: Least and Most together encode equality.
-/
import Derived.Test.YtpadmbpopjmdjaaQBox1
import Derived.Test.YtpadmbpopjmdjaaGCAll
namespace Go.Proofs.Ytpadmbpopjmdjaa.Pure
open Go.RowKit Go.Proofs.Ytpadmbpopjmdjaa.QBo Go.Proofs.YtpadmbpopjmdjaaW.PrintWords Go.Proofs.YtpadmbpopjmdjaaW.PrintLast
open G (Gr tv Hold cntT)

def BothPure : Prop := ∀ (l0 : List Int) (a1 : Int) (l2 : List Bool), (∀ x ∈ l0, (Lit.int .i64 x).wf = true) → ∃ k, chalklinelaw16_CountBoth.f k l0 a1 l2 = some true

theorem holds_append {a e : List Bool} {m : Int} {c : List Int} (hc : ∀ x ∈ c, Gr m x) (hm : m ≤ 65537) (ha : m ≤ a.length) : G.holdsB c (a ++ e) = G.holdsB c a := by
  rw [Bool.eq_iff_iff, G.holdsB_iff hc hm (by rw [List.length_append]; omega), G.holdsB_iff hc hm ha]
  unfold Hold
  constructor
  · rintro ⟨x, hx, h⟩
    obtain ⟨_, h1, h2⟩ := hc x hx
    exact ⟨x, hx, by rwa [G.tv_append (by omega) (by omega)] at h⟩
  · rintro ⟨x, hx, h⟩
    obtain ⟨_, h1, h2⟩ := hc x hx
    exact ⟨x, hx, by rwa [G.tv_append (by omega) (by omega)]⟩

theorem CountBoth : BothPure := by
  intro l0 a1 l2 hw
  obtain ⟨K, hK⟩ : ∃ K : Nat, K = 2000000000 := ⟨_, rfl⟩
  refine ⟨K + 3, ?_⟩
  have hj : chalklinelaw16_CountBoth.j0 (K + 3) l0 a1 l2 true = some true := by rw [chalklinelaw16_CountBoth.j0, if_pos rfl]
  unfold chalklinelaw16_CountBoth.f G.chalklinelaw16_live.f
  simp only [Option.bind_some, if_true]
  by_cases h1 : (l2.length : Int) > 6
  · rw [if_pos h1]; exact hj
  rw [if_neg h1]
  by_cases h2 : (l0.length : Int) > 6
  · rw [decide_eq_true h2]; exact hj
  rw [decide_eq_false h2, chalklinelaw16_CountBoth.j0, if_neg (by decide)]
  simp only [Option.bind_some, List.length_cons, List.length_nil]
  rw [if_pos (by omega)]
  obtain ⟨a, ha⟩ : ∃ a, [false] ++ l2 = a := ⟨_, rfl⟩
  have hal : a.length = l2.length + 1 := by rw [← ha]; simp
  rw [ha]
  have hwf : G.wfL l0 = true := by simpa [G.wfL] using hw
  have t1 : G.count_Least.f l0 a1 (a.length : Int) = some (G.leastOf l0 a1 (a.length : Int)) := by unfold G.count_Least.f; rw [if_pos ⟨by omega, hwf⟩]
  rw [t1]
  simp only [Option.bind_some]
  by_cases hr : G.rightE l0 (a.length : Int) = 0
  · have hg := G.right_gr hr hw
    have h0 := G.leastOf_small_ok (k := a1) hr (by omega) (by omega)
    obtain ⟨⟨b1, b2⟩, _, bg⟩ := G.leastOf_gr hw h0
    have hs := (G.leastOf_small l0 a1 (a.length : Int)).1
    have hh := G.leastOf_holds hw h0
    have sat := fun (n : Nat) hn => G.least_sat (a := a) (n := n) hw h0 hn
    have hreg : (G.leastOf l0 a1 (a.length : Int)).2.1 ≤ 100 := by
      obtain ⟨_, hcase⟩ := G.leastOf_ok h0
      rcases hcase with ⟨_, e⟩ | ⟨_, e⟩ | ⟨m, _, hm1, hm2, _, e⟩
      · rw [e]; show (a.length : Int) ≤ 100; omega
      · rw [e]; show (a.length : Int) ≤ 100; omega
      · rw [e]
        have := Nat.le_trans (G.sm_le m l0.length) (Nat.mul_le_mul (show l0.length ≤ 6 by omega) (show m ≤ 6 by omega))
        show (a.length : Int) + (G.sm m l0.length : Int) ≤ 100
        omega
    obtain ⟨x, hx⟩ : ∃ x, G.leastOf l0 a1 (a.length : Int) = x := ⟨_, rfl⟩
    rw [hx] at b1 b2 bg hs hh sat h0 hreg ⊢
    have t2 : G.count_Most.f l0 a1 x.2.1 = some (G.mostOf l0 a1 x.2.1) := by unfold G.count_Most.f; rw [if_pos ⟨by omega, hwf⟩]
    rw [if_pos h0, t2]
    simp only [Option.bind_some]
    have hr2 := G.rightE_mono hr b1 b2
    have hrn : G.rightE (l0.map (fun x => wrap64 (-x))) x.2.1 = 0 := by rw [G.rightE_neg hw]; exact hr2
    have h0n := G.leastOf_small_ok (k := G.thr l0.length a1) hrn (by rw [List.length_map]; omega) (by omega)
    have hwn := G.map_wf hg (by omega)
    rw [G.mostOf_eq hr2]
    obtain ⟨⟨c1, c2⟩, _, cg⟩ := G.leastOf_gr hwn h0n
    have hsn := (G.leastOf_small (l0.map (fun x => wrap64 (-x))) (G.thr l0.length a1) x.2.1).1
    have hhn := G.leastOf_holds hwn h0n
    have satn : ∀ (a' : List Bool), (a'.length : Int) = x.2.1 → ∀ n : Nat, (G.leastOf (l0.map (fun x => wrap64 (-x))) (G.thr l0.length a1) x.2.1).2.1 = x.2.1 + n → ((∃ e : List Bool, e.length = n ∧ ∀ c ∈ (G.leastOf (l0.map (fun x => wrap64 (-x))) (G.thr l0.length a1) x.2.1).1, G.holdsB c (a' ++ e) = true) ↔ (cntT a' l0 l0.length : Int) ≤ a1) := fun a' ha' n hn => by
      have := G.most_sat (a := a') (l := l0) (k := a1) (n := n) hg (by omega) (by rw [ha']; exact h0n) (by rw [ha']; exact hn)
      rwa [ha'] at this
    obtain ⟨y, hy⟩ : ∃ y, G.leastOf (l0.map (fun x => wrap64 (-x))) (G.thr l0.length a1) x.2.1 = y := ⟨_, rfl⟩
    rw [hy] at c1 c2 cg hsn hhn satn h0n ⊢
    rw [if_pos h0n, if_pos (by show 0 + x.1.length < _; omega), List.nil_append, if_pos (by omega)]
    obtain ⟨t, ht, htt⟩ := G.can_f (c := x.1 ++ y.1) (a := a) (af := y.2.1) (by omega) (by omega) (fun c hc b => by
      rcases List.mem_append.1 hc with h | h
      · exact hh c h b
      · exact hhn c h b) (by rw [List.length_append]; omega) (K := K + 2) (by omega)
    rw [ht]
    simp only [Option.bind_some]
    by_cases e1 : t.2 = true
    · rw [if_pos e1, G.many_f hg (by omega) (by omega) (by omega) (K := K + 2) (a := a) (by omega)]
      simp only [Option.bind_some]
      obtain ⟨n, hn, hiff⟩ := htt e1
      obtain ⟨n1, hn1⟩ : ∃ n1 : Nat, x.2.1 = (a.length : Int) + n1 := ⟨(x.2.1 - a.length).toNat, by omega⟩
      obtain ⟨n2, hn2⟩ : ∃ n2 : Nat, y.2.1 = x.2.1 + n2 := ⟨(y.2.1 - x.2.1).toNat, by omega⟩
      have hcnt : ∀ e : List Bool, cntT (a ++ e) l0 l0.length = cntT a l0 l0.length := fun e => G.cntT_congr (fun z hz => by
        obtain ⟨_, q1, q2⟩ := hg z hz
        exact G.tv_append q1 q2) l0.length (Nat.le_refl _)
      have hb : (t.1 == ((cntT a l0 l0.length : Int) == a1)) = true := by
        rw [beq_iff_eq, Bool.eq_iff_iff, hiff, beq_iff_eq]
        constructor
        · rintro ⟨e, he, hall⟩
          have hl1 : (e.take n1).length = n1 := by rw [List.length_take]; omega
          have hsplit : a ++ e = (a ++ e.take n1) ++ e.drop n1 := by rw [List.append_assoc, List.take_append_drop]
          have hlen : ((a ++ e.take n1).length : Int) = x.2.1 := by rw [List.length_append, hl1]; omega
          have s1 := (sat n1 hn1).1 ⟨e.take n1, hl1, fun c hc => by
            have := hall c (List.mem_append_left _ hc)
            rw [hsplit, holds_append (bg c hc) b2 (by omega)] at this
            exact this⟩
          have s2 := (satn (a ++ e.take n1) hlen n2 hn2).1 ⟨e.drop n1, by rw [List.length_drop]; omega, fun c hc => by
            rw [← hsplit]
            exact hall c (List.mem_append_right _ hc)⟩
          rw [hcnt] at s2
          omega
        · intro he
          obtain ⟨e, hel, hall⟩ := (sat n1 hn1).2 (by omega)
          have hlen : ((a ++ e).length : Int) = x.2.1 := by rw [List.length_append, hel]; omega
          obtain ⟨f, hfl, hallf⟩ := (satn (a ++ e) hlen n2 hn2).2 (by rw [hcnt]; omega)
          refine ⟨e ++ f, by rw [List.length_append]; omega, fun c hc => ?_⟩
          rw [← List.append_assoc]
          rcases List.mem_append.1 hc with h | h
          · rw [holds_append (bg c h) b2 (by omega)]
            exact hall c h
          · exact hallf c h
      rw [hb]
    · rw [if_neg e1]
  · rw [G.leastOf_right hr, if_neg hr]
    rfl

end Go.Proofs.Ytpadmbpopjmdjaa.Pure
