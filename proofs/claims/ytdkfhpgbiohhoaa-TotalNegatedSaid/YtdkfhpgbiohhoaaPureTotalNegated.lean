/-
  The plain law of TotalNegated.
-/
import Derived.Test.YtdkfhpgbiohhoaaQNex2
import Derived.Test.YtdkfhpgbiohhoaaGOk
namespace Go.Proofs.Ytdkfhpgbiohhoaa.Pure
open Go.RowKit Go.Proofs.Ytdkfhpgbiohhoaa.QNe Go.Proofs.YtdkfhpgbiohhoaaW.PrintWords Go.Proofs.YtdkfhpgbiohhoaaW.PrintLast
open G (Gd Tv)

theorem lit_f {m x : Int} {b : List Bool} (hm : m ≤ 65537) (h : Gd m x) (hb : m ≤ b.length) : chalklinelaw15_lit.f x b = some (Tv b x) := by
  unfold Gd at h
  have e : wrap64 (-x) = -x := by unfold wrap64; omega
  unfold chalklinelaw15_lit.f Tv
  rw [e]
  by_cases h0 : 0 < x
  · rw [if_neg (by omega), if_pos h0, if_pos (by omega), if_pos (by omega), if_pos h0]
  · rw [if_pos (by omega), if_pos (by omega), if_pos (by omega), if_neg h0]

theorem rd_mem (l : List Int) (i : Nat) (h : i < l.length) : rd l (i : Int) ∈ l ∧ rd l (i : Int) = l.getD i 0 := by
  constructor <;> simp [rd, List.getD_eq_getElem?_getD, h]
theorem rdL_mem (l : List (List Int)) (i : Nat) (h : i < l.length) : rd_L1 l (i : Int) ∈ l ∧ l.drop i = rd_L1 l (i : Int) :: l.drop (i + 1) := by
  constructor
  · simp [rd_L1, List.getD_eq_getElem?_getD, h]
  · rw [List.drop_eq_getElem_cons h]
    simp [rd_L1, List.getD_eq_getElem?_getD, h]

section
variable {m : Int} {b : List Bool} (hm : m ≤ 65537) (hb : m ≤ b.length)
include hm hb

theorem holds_l0 {cs : List (List Int)} (hl : cs.length ≤ 1000000) (hr : ∀ c ∈ cs, c.length ≤ 3) (hg : ∀ c ∈ cs, ∀ x ∈ c, Gd m x) : ∀ d i k, i + d = cs.length → d < k → chalklinelaw15_holds.l0 k cs b i = some ((cs.drop i).all (fun c => c.any (Tv b))) := by
  intro d
  induction d with
  | zero =>
    intro i k h1 h2
    obtain ⟨k, rfl⟩ : ∃ j, k = j + 1 := ⟨k - 1, by omega⟩
    rw [chalklinelaw15_holds.l0, if_neg (show ¬ (i : Int) < (cs.length : Int) by omega), List.drop_eq_nil_of_le (by omega)]
    rfl
  | succ d ih =>
    intro i k h1 h2
    obtain ⟨k, rfl⟩ : ∃ j, k = j + 1 := ⟨k - 1, by omega⟩
    obtain ⟨e1, e2⟩ := rdL_mem cs i (by omega)
    have hc : G.cnf_Holds.f (rd_L1 cs (i : Int)) b = some ((rd_L1 cs (i : Int)).any (Tv b)) := by
      unfold G.cnf_Holds.f
      have h3 := hr _ e1
      have hwf : G.wfL (rd_L1 cs (i : Int)) = true := by
        unfold G.wfL
        rw [List.all_eq_true]
        exact fun x hx => (hg _ e1 x hx).wf (by omega)
      rw [if_pos ⟨by omega, hwf⟩, G.holdsB_Tv hm (hg _ e1) hb]
    rw [chalklinelaw15_holds.l0, if_pos (show (i : Int) < (cs.length : Int) by omega), if_pos (show (0 : Int) ≤ (i : Int) by omega), hc]
    simp only [Option.bind_some]
    rw [show wrap64 ((i : Int) + 1) = ((i + 1 : Nat) : Int) from by unfold wrap64; omega, e2, List.all_cons]
    by_cases ht : (rd_L1 cs (i : Int)).any (Tv b) = true
    · rw [if_pos ht, ih (i + 1) k (by omega) (by omega), ht, Bool.true_and]
    · rw [if_neg ht]
      simp only [Bool.not_eq_true] at ht
      rw [ht, Bool.false_and]

end

theorem padded_l0 (a : List Bool) (n : Nat) (hn : n ≤ 100000) : ∀ d i (xs : List Bool) k, i + d = n + 1 → d < k → xs.length = n + 1 → 1 ≤ i → ∃ p, chalklinelaw15_padded.l0 k a (n : Int) xs i = some p ∧ p.length = n + 1 := by
  intro d
  induction d with
  | zero =>
    intro i xs k h1 h2 h3 h4
    obtain ⟨k, rfl⟩ : ∃ j, k = j + 1 := ⟨k - 1, by omega⟩
    rw [chalklinelaw15_padded.l0, if_neg (show ¬ (i : Int) ≤ (n : Int) by omega)]
    exact ⟨_, rfl, h3⟩
  | succ d ih =>
    intro i xs k h1 h2 h3 h4
    obtain ⟨k, rfl⟩ : ∃ j, k = j + 1 := ⟨k - 1, by omega⟩
    rw [chalklinelaw15_padded.l0, if_pos (show (i : Int) ≤ (n : Int) by omega)]
    by_cases ha : (i : Int) < (a.length : Int)
    · rw [if_pos ha, if_pos (show (0 : Int) ≤ (i : Int) by omega), if_pos (show (i : Int) < (xs.length : Int) by omega), show wrap64 ((i : Int) + 1) = ((i + 1 : Nat) : Int) from by unfold wrap64; omega]
      exact ih (i + 1) _ k (by omega) (by omega) (by rw [List.length_set]; exact h3) (by omega)
    · rw [if_neg ha]
      exact ⟨_, rfl, h3⟩
theorem padded_f (a : List Bool) (n : Nat) (hn : n ≤ 100000) (k : Nat) (hk : n + 1 < k) : ∃ p, chalklinelaw15_padded.f k a (n : Int) = some p ∧ p.length = n + 1 := by
  unfold chalklinelaw15_padded.f
  have e : wrap64 ((n : Int) + 1) = ((n + 1 : Nat) : Int) := by unfold wrap64; omega
  rw [e, if_pos (by omega), Int.toNat_natCast, if_pos (by omega)]
  exact padded_l0 a n hn n 1 _ k (by omega) (by omega) (by simp) (by omega)

theorem vabs_neg {n x : Int} (hn : n ≤ 70000) (h : Gd n x) : G.vabs (wrap64 (-x)) = G.vabs x := by
  unfold Gd at h
  have e : wrap64 (-x) = -x := by unfold wrap64; omega
  have e2 : wrap64 (-(-x)) = x := by rw [Int.neg_neg]; unfold wrap64; omega
  rw [e]
  unfold G.vabs
  rw [e, e2]
  split <;> split <;> omega
theorem apart_neg {n : Int} (hn : n ≤ 70000) (m : Int) : ∀ (l : List Int) (S : Int → Bool), (∀ x ∈ l, Gd n x) → G.apartFrom m S (l.map (fun x => wrap64 (-x))) = G.apartFrom m S l := by
  intro l
  induction l with
  | nil => intro S _; rfl
  | cons y l ih =>
    intro S h
    simp only [List.map_cons, G.apartFrom]
    rw [vabs_neg hn (h y (by simp)), ih _ (fun x hx => h x (by simp [hx]))]

theorem totalOf_e {l : List Int} {most next : Int} (h1 : 1 ≤ next) (h2 : next ≤ 65537) (h3 : 0 ≤ most) (h4 : most ≤ 1099511627776) (h5 : G.apartB l next = true) : (G.totalOf l most next).2.2.2 = 0 ∨ (G.totalOf l most next).2.2.2 = 2 := by
  unfold G.totalOf
  rw [if_neg (by omega), if_neg (by rw [h5]; decide)]
  split
  · exact .inl rfl
  · unfold G.mainS
    dsimp only
    split
    · exact .inr rfl
    · exact .inl rfl

theorem count_neg {T : Int → Bool} : ∀ (l : List Int), (∀ x ∈ l, T (wrap64 (-x)) = !(T x)) → (l.map (fun x => wrap64 (-x))).countP T + l.countP T = l.length := by
  intro l
  induction l with
  | nil => intro _; rfl
  | cons y l ih =>
    intro h
    have := ih (fun x hx => h x (by simp [hx]))
    rw [List.map_cons, List.countP_cons, List.countP_cons, List.length_cons, h y (by simp)]
    cases T y <;> simp only [Bool.not_true, Bool.not_false, Bool.false_eq_true, if_true, if_false] <;> omega

theorem negated_l1 {m : Int} {b : List Bool} (hm : m ≤ 65537) (hb : m ≤ b.length) {l x y : List Int} (hlx : x.length = l.length) (hly : y.length = l.length) (hl : l.length ≤ 1000000) (hx : ∀ z ∈ x, Gd m z) (hy : ∀ z ∈ y, Gd m z) (n q : Nat) (hnq : q + n = l.length)
    (ex : ∀ j, j < x.length → (Tv b (x.getD j 0) = true ↔ j < n)) (ey : ∀ j, j < y.length → (Tv b (y.getD j 0) = true ↔ j < q)) :
    ∀ d i k, i + d = l.length → d < k → chalklinelaw15_TotalNegated.l1 k l x y b i = some true := by
  intro d
  induction d with
  | zero =>
    intro i k h1 h2
    obtain ⟨k, rfl⟩ : ∃ j, k = j + 1 := ⟨k - 1, by omega⟩
    rw [chalklinelaw15_TotalNegated.l1, if_neg (show ¬ (i : Int) < (l.length : Int) by omega)]
  | succ d ih =>
    intro i k h1 h2
    obtain ⟨k, rfl⟩ : ∃ j, k = j + 1 := ⟨k - 1, by omega⟩
    obtain ⟨e1, e2⟩ := rd_mem x (l.length - 1 - i) (by omega)
    obtain ⟨e3, e4⟩ := rd_mem y i (by omega)
    have ew : wrap64 (wrap64 ((l.length : Int) - 1) - (i : Int)) = ((l.length - 1 - i : Nat) : Int) := by
      have : wrap64 ((l.length : Int) - 1) = (l.length : Int) - 1 := by unfold wrap64; omega
      rw [this]
      unfold wrap64
      omega
    rw [chalklinelaw15_TotalNegated.l1, if_pos (show (i : Int) < (l.length : Int) by omega), if_pos (show (0 : Int) ≤ (i : Int) by omega), if_pos (show (i : Int) < (y.length : Int) by omega), lit_f hm (hy _ e3) hb]
    simp only [Option.bind_some]
    rw [ew, if_pos (by omega), if_pos (by omega), lit_f hm (hx _ e1) hb]
    simp only [Option.bind_some]
    have hv : (Tv b (rd y (i : Int)) == Tv b (rd x ((l.length - 1 - i : Nat) : Int))) = false := by
      have h1 := ex (l.length - 1 - i) (by omega)
      have h2 := ey i (by omega)
      rw [← e2] at h1
      rw [← e4] at h2
      cases a1 : Tv b (rd y (i : Int)) <;> cases a2 : Tv b (rd x ((l.length - 1 - i : Nat) : Int)) <;> rw [a1] at h2 <;> rw [a2] at h1 <;> simp at h1 h2 ⊢ <;> omega
    rw [hv, if_neg (by decide), show wrap64 ((i : Int) + 1) = ((i + 1 : Nat) : Int) from by unfold wrap64; omega]
    exact ih (i + 1) k (by omega) (by omega)

def NegatedPure : Prop := ∀ (l0 : List Int) (a1 : Int) (l2 : List Bool), (∀ x ∈ l0, (Lit.int .i64 x).wf = true) → ∃ k, chalklinelaw15_TotalNegated.f k l0 a1 l2 = some true

theorem negated_main (l0 : List Int) (a1 : Int) (l2 : List Bool) (hw : ∀ x ∈ l0, (Lit.int .i64 x).wf = true) (hl12 : l0.length ≤ 12) (hn2 : a1 ≤ 1000) (K : Nat) (hK : K = 1000000) :
    ((G.total_Total.f l0 (l0.length : Int) a1).bind fun bt123 => (if bt123.2.2.2 = 0 then ((G.total_Total.f (l0.map (fun x => wrap64 (-x))) (l0.length : Int) bt123.2.2.1).bind fun bt131 => (if bt131.2.2.2 = 0 then (if (bt123.1.length : Int) = (l0.length : Int) then (chalklinelaw15_TotalNegated.j2 (K + 2) l0 l2 bt123.1 bt123.2.1 bt131.1 bt131.2.1 bt131.2.2.1 bt131.2.2.2 ((bt131.1.length : Int) != (l0.length : Int))) else (chalklinelaw15_TotalNegated.j2 (K + 2) l0 l2 bt123.1 bt123.2.1 bt131.1 bt131.2.1 bt131.2.2.1 bt131.2.2.2 true)) else (chalklinelaw15_TotalNegated.j2 (K + 2) l0 l2 bt123.1 bt123.2.1 bt131.1 bt131.2.1 bt131.2.2.1 bt131.2.2.2 true))) else (some true))) = some true := by
  have hl : l0.length ≤ 40 := by omega
  have hwf : G.wfL l0 = true := by simpa [G.wfL] using hw
  have t1 : ∀ p q, G.total_Total.f l0 p q = some (G.totalOf l0 p q) := fun p q => by unfold G.total_Total.f; rw [if_pos ⟨hl, hwf⟩]
  rw [t1]
  simp only [Option.bind_some]
  by_cases h0 : (G.totalOf l0 (l0.length : Int) a1).2.2.2 = 0
  case neg => rw [if_neg h0]
  rw [if_pos h0]
  obtain ⟨k1, k2, k3, k4, k5, k6, k7⟩ := G.totalOf_ok hl hw h0
  obtain ⟨b1, b2, b3⟩ := G.totalOf_bounds l0 (l0.length : Int) a1 hl
  have hap : G.apartB l0 a1 = true := by
    cases e : G.apartB l0 a1 with
    | true => rfl
    | false =>
      exfalso
      unfold G.totalOf at h0
      rw [if_neg (by omega), if_pos e] at h0
      cases h0
  obtain ⟨x, hx⟩ : ∃ x, G.totalOf l0 (l0.length : Int) a1 = x := ⟨_, rfl⟩
  rw [hx] at k2 k3 k5 k6 k7 b1 b2 b3 ⊢
  obtain ⟨nots, hnots⟩ : ∃ nots, l0.map (fun x => wrap64 (-x)) = nots := ⟨_, rfl⟩
  have hnl : nots.length = l0.length := by rw [← hnots, List.length_map]
  have hnw : ∀ z ∈ nots, (Lit.int .i64 z).wf = true := by
    rw [← hnots]
    intro z hz
    obtain ⟨y, hy, rfl⟩ := List.mem_map.1 hz
    exact wrap64_wf _
  have hnwf : G.wfL nots = true := by simpa [G.wfL] using hnw
  have t2 : ∀ p q, G.total_Total.f nots p q = some (G.totalOf nots p q) := fun p q => by unfold G.total_Total.f; rw [if_pos ⟨by omega, hnwf⟩]
  rw [hnots, t2]
  simp only [Option.bind_some]
  have hap2 : G.apartB nots x.2.2.1 = true := by
    unfold G.apartB at hap ⊢
    rw [← hnots, apart_neg (n := a1) (by omega) _ l0 _ k4]
    exact G.apartFrom_mono (by omega) l0 _ hap
  have he := totalOf_e (l := nots) (most := (l0.length : Int)) (next := x.2.2.1) (by omega) (by omega) (by omega) (by omega) hap2
  have hj2 : ∀ a b c d e f, chalklinelaw15_TotalNegated.j2 (K + 2) l0 l2 a b c d e f true = some (f == 2) := fun a b c d e f => by rw [chalklinelaw15_TotalNegated.j2, if_pos rfl]
  by_cases h1 : (G.totalOf nots (l0.length : Int) x.2.2.1).2.2.2 = 0
  case neg =>
    rw [if_neg h1, hj2]
    have : (G.totalOf nots (l0.length : Int) x.2.2.1).2.2.2 = 2 := he.resolve_left h1
    rw [this]
    rfl
  rw [if_pos h1]
  obtain ⟨m1, m2, m3, m4, m5, m6, m7⟩ := G.totalOf_ok (by omega) hnw h1
  obtain ⟨c1, c2, c3⟩ := G.totalOf_bounds nots (l0.length : Int) x.2.2.1 (by omega)
  obtain ⟨y, hy⟩ : ∃ y, G.totalOf nots (l0.length : Int) x.2.2.1 = y := ⟨_, rfl⟩
  rw [hy] at m2 m3 m5 m6 m7 c1 c2 c3 ⊢
  have mm : mn (l0.length : Int) (l0.length : Int) = (l0.length : Int) := by unfold mn; split <;> omega
  rw [mm] at k3
  rw [hnl, mm] at m3
  rw [if_pos k3, m3, bne_self_eq_false, chalklinelaw15_TotalNegated.j2, if_neg (by decide)]
  obtain ⟨A, hA⟩ : ∃ A : Nat, y.2.2.1 = A := ⟨y.2.2.1.toNat, by omega⟩
  rw [hA] at m2 m5 m6 m7 ⊢
  obtain ⟨p, p1, p2⟩ := padded_f l2 A (by omega) (K + 1) (by omega)
  rw [p1]
  simp only [Option.bind_some]
  have hp : (A : Int) ≤ (p.length : Int) := by omega
  unfold chalklinelaw15_holds.f
  have hh := holds_l0 (m := (A : Int)) (b := p) (by omega) hp (cs := x.2.1) (by omega) b3 (fun c hc z hz => (k6 c hc z hz).mono (by omega)) x.2.1.length 0 (K + 1) (by omega) (by omega)
  have hg := holds_l0 (m := (A : Int)) (b := p) (by omega) hp (cs := y.2.1) (by omega) c3 m6 y.2.1.length 0 (K + 1) (by omega) (by omega)
  rw [show ((0 : Nat) : Int) = 0 from rfl, List.drop_zero] at hh hg
  rw [hh]
  simp only [Option.bind_some]
  by_cases ht : x.2.1.all (fun c => c.any (Tv p)) = true
  · rw [if_pos ht, hg]
    simp only [Option.bind_some]
    by_cases hu : y.2.1.all (fun c => c.any (Tv p)) = true
    · rw [hu, Bool.not_true, chalklinelaw15_TotalNegated.j3, if_neg (by decide)]
      have hneg : ∀ z, Gd (A : Int) z → Tv p (wrap64 (-z)) = !(Tv p z) := fun z hz => G.Tv_neg (by omega) hz
      have hc := count_neg (T := Tv p) l0 (fun z hz => hneg z ((k4 z hz).mono (by omega)))
      rw [hnots] at hc
      exact negated_l1 (m := (A : Int)) (b := p) (by omega) hp (by omega) (by omega) (by omega) (fun z hz => (k5 z hz).mono (by omega)) m5 (l0.countP (Tv p)) (nots.countP (Tv p)) hc
        (k7 (Tv p) (fun z hz => hneg z (hz.mono (by omega))) (List.all_eq_true.1 ht)) (m7 (Tv p) hneg (List.all_eq_true.1 hu)) l0.length 0 K (by omega) (by omega)
    · simp only [Bool.not_eq_true] at hu
      rw [hu, Bool.not_false, chalklinelaw15_TotalNegated.j3, if_pos rfl]
  · rw [if_neg ht, chalklinelaw15_TotalNegated.j3, if_pos rfl]

theorem negated_l0 (l0 : List Int) (a1 : Int) (l2 : List Bool) (hw : ∀ x ∈ l0, (Lit.int .i64 x).wf = true) (hl12 : l0.length ≤ 12) (hn2 : a1 ≤ 1000) (K : Nat) (hK : K = 1000000) :
    ∀ d i, i + d = l0.length → chalklinelaw15_TotalNegated.l0 (K + 3 + d) l0 a1 l2 ((l0.take i).map (fun x => wrap64 (-x))) i = some true := by
  intro d
  induction d with
  | zero =>
    intro i h1
    show chalklinelaw15_TotalNegated.l0 (K + 2 + 1) l0 a1 l2 _ _ = _
    rw [chalklinelaw15_TotalNegated.l0, if_neg (show ¬ (i : Int) < (l0.length : Int) by omega), List.take_of_length_le (by omega)]
    exact negated_main l0 a1 l2 hw hl12 hn2 K hK
  | succ d ih =>
    intro i h1
    show chalklinelaw15_TotalNegated.l0 (K + 3 + d + 1) l0 a1 l2 _ _ = _
    have hi : i < l0.length := by omega
    rw [chalklinelaw15_TotalNegated.l0, if_pos (show (i : Int) < (l0.length : Int) by omega), if_pos (show (0 : Int) ≤ (i : Int) by omega), if_pos (by rw [List.length_map, List.length_take]; omega),
      show wrap64 ((i : Int) + 1) = ((i + 1 : Nat) : Int) from by unfold wrap64; omega,
      show (l0.take i).map (fun x => wrap64 (-x)) ++ [wrap64 (-(rd l0 (i : Int)))] = (l0.take (i + 1)).map (fun x => wrap64 (-x)) from by
        rw [List.take_succ_eq_append_getElem hi, List.map_append]
        congr 1
        simp [rd, List.getD_eq_getElem?_getD, hi]]
    exact ih (i + 1) (by omega)

theorem TotalNegated : NegatedPure := by
  intro l0 a1 l2 hw
  obtain ⟨K, hK⟩ : ∃ K : Nat, K = 1000000 := ⟨_, rfl⟩
  refine ⟨K + 3 + l0.length + 1, ?_⟩
  have hj : ∀ x b c k, chalklinelaw15_TotalNegated.j0 (k + 1) x b c true = some true := fun x b c k => by rw [chalklinelaw15_TotalNegated.j0, if_pos rfl]
  unfold chalklinelaw15_TotalNegated.f G.chalklinelaw15_live.f
  simp only [Option.bind_some, if_true]
  by_cases h20 : (l0.length : Int) > 12
  · rw [if_pos h20]; exact hj _ _ _ _
  rw [if_neg h20]
  by_cases h30 : (l2.length : Int) > 3000
  · rw [if_pos h30]; exact hj _ _ _ _
  rw [if_neg h30]
  by_cases hn2 : a1 > 1000
  · rw [decide_eq_true hn2]; exact hj _ _ _ _
  rw [decide_eq_false hn2, chalklinelaw15_TotalNegated.j0, if_neg (by decide)]
  exact negated_l0 l0 a1 l2 hw (by omega) (by omega) K hK l0.length 0 (by omega)

end Go.Proofs.Ytdkfhpgbiohhoaa.Pure
