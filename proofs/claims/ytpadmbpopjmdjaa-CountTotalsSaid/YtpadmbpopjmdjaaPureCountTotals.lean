/-
  The plain law of CountTotals: Least can be satisfied exactly where the totalizer with its k-th output can.
-/
import Derived.Test.YtpadmbpopjmdjaaQTox2
import Derived.Test.YtpadmbpopjmdjaaGTAll
import Derived.Test.YtpadmbpopjmdjaaGCAll
namespace Go.Proofs.Ytpadmbpopjmdjaa.Pure
set_option linter.unusedVariables false
open Go.RowKit Go.Proofs.Ytpadmbpopjmdjaa.QTo Go.Proofs.YtpadmbpopjmdjaaW.PrintWords Go.Proofs.YtpadmbpopjmdjaaW.PrintLast Go.Proofs.YtpadmbpopjmdjaaW.PrintMore
open G (Gr tv Hold cntT Gd Tv holdsB vabs)

theorem gd_gr {m x : Int} (h : Gd m x) : Gr m x := by unfold G.Gd at h; unfold G.Gr; omega

theorem totalOf_uniq {l : List Int} {most next : Int} (hl : l.length ≤ 40) (hw : ∀ x ∈ l, (Lit.int .i64 x).wf = true) (h : (G.totalOf l most next).2.2.2 = 0) :
    ∃ (F : Nat) (I : (Int → Bool) → List Bool), (G.totalOf l most next).2.2.1 = next + F ∧ (∀ T, (I T).length = F) ∧ (∀ T U, (∀ x ∈ l, T x = U x) → I T = I U) ∧
      ∀ T : Int → Bool, (∀ x, Gd (G.totalOf l most next).2.2.1 x → T (wrap64 (-x)) = !(T x)) → ((∀ c ∈ (G.totalOf l most next).2.1, c.any T = true) ↔ ∀ i, i < F → T (next + (i : Int)) = (I T).getD i false) := by
  unfold G.totalOf at h ⊢
  by_cases c1 : next < 1 ∨ 65537 < next ∨ most < 0 ∨ 1099511627776 < most
  · rw [if_pos c1] at h; cases h
  rw [if_neg c1] at h ⊢
  by_cases c2 : G.apartB l next = false
  · rw [if_pos c2] at h; cases h
  rw [if_neg c2] at h ⊢
  have c2' : G.apartB l next = true := by simpa using c2
  have hg := G.apartB_gd hw c2'
  by_cases c4 : l.length = 0 ∨ most = 0
  · rw [if_pos c4]
    exact ⟨0, fun _ => [], by show next = next + ((0 : Nat) : Int); omega, fun _ => rfl, fun _ _ _ => rfl, fun T _ => ⟨fun _ i hi => by omega, fun _ c hc => by cases hc⟩⟩
  rw [if_neg c4] at h ⊢
  have hm : 1 ≤ most := by omega
  have hlen : 1 ≤ l.length := by omega
  unfold G.mainS at h ⊢
  dsimp only at h ⊢
  by_cases c5 : (G.cnt most l.length ⟨next, false, []⟩ l).2.full = true
  · rw [if_pos c5] at h; cases h
  rw [if_neg c5]
  have c5' : (G.cnt most l.length ⟨next, false, []⟩ l).2.full = false := by simpa using c5
  have hv := G.cnt_vars hm l.length ⟨next, false, []⟩ l hlen (Nat.le_refl _) (by omega) rfl (by show next ≤ 65537; omega)
  have hvb := G.Vf_bound hm l.length l.length hlen (Nat.le_refl _) (by omega)
  have hnx : (G.cnt most l.length ⟨next, false, []⟩ l).2.next = next + G.Vf most l.length l.length := by
    by_cases c6 : next + G.Vf most l.length l.length ≤ 65537
    · exact (hv.1 c6).2
    · rw [hv.2 (by show 65537 < next + _; omega)] at c5'
      cases c5'
  have hil : ∀ T, ((G.idl T most l.length l).length : Int) = G.Vf most l.length l.length := fun T => G.idl_len hm l.length l hlen (Nat.le_refl _)
  dsimp only
  refine ⟨(G.Vf most l.length l.length).toNat, fun T => G.idl T most l.length l, by omega, fun T => by have := hil T; show (G.idl T most l.length l).length = _; omega, fun T U hTU => G.idl_congr _ _ hTU, fun T hT => ?_⟩
  have hu := (G.cnt_uniq (T := T) hm l.length ⟨next, false, []⟩ l hlen (Nat.le_refl _) (by omega) rfl (by show 1 ≤ next; omega) (by show next ≤ 65537; omega) hg (fun c hc => by cases hc) c5' hT (fun c hc => by cases hc)).1
  rw [hu]
  dsimp only
  have := hil T
  constructor
  · intro hi i hlt
    exact hi i (by omega)
  · intro hi i hlt
    exact hi i (by omega)

/-- The two checks of the literals say the same. -/
theorem apart_right {n : Int} : ∀ (l : List Int) (S R : Int → Bool), (∀ z, S z = (decide (z = 0) || R z)) → G.apartFrom n S l = G.rightFrom n R l
  | [], _, _, _ => rfl
  | x :: l, S, R, h => by
    unfold G.apartFrom G.rightFrom
    by_cases h0 : vabs x ≤ 0
    · rw [if_pos h0]
      by_cases h1 : vabs x < 0
      · rw [if_pos h1]
      · rw [if_neg h1]
        by_cases h2 : n ≤ vabs x
        · rw [if_pos h2]
        · rw [if_neg h2, if_pos (by rw [h, decide_eq_true (by omega)]; rfl)]
    · rw [if_neg h0, if_neg (by omega)]
      by_cases h2 : n ≤ vabs x
      · rw [if_pos h2, if_pos h2]
      · rw [if_neg h2, if_neg h2, h, decide_eq_false (by omega), Bool.false_or]
        by_cases h3 : R (vabs x) = true
        · rw [if_pos h3, if_pos h3]
        · rw [if_neg h3, if_neg h3]
          refine apart_right l _ _ fun z => ?_
          by_cases h4 : z = vabs x
          · rw [if_pos h4, if_pos h4, Bool.or_true]
          · rw [if_neg h4, if_neg h4, h]

theorem apartB_right {n : Int} (l : List Int) : G.apartB l n = G.rightFrom n (fun _ => false) l := by
  refine apart_right l _ _ fun z => ?_
  by_cases h : z = 0
  · rw [if_pos h, decide_eq_true h]; rfl
  · rw [if_neg h, decide_eq_false h]; rfl

/-- No bound is passed by few literals. -/
theorem totalOf_fine {l : List Int} {next : Int} (hl : l.length ≤ 5) (h1 : 1 ≤ next ∧ next ≤ 100) : (G.totalOf l (l.length : Int) next).2.2.2 = if G.apartB l next = true then 0 else 140 := by
  unfold G.totalOf
  rw [if_neg (by omega)]
  by_cases c2 : G.apartB l next = false
  · rw [if_pos c2, c2]; rfl
  have c3 : G.apartB l next = true := by simpa using c2
  rw [if_neg c2, c3, if_pos (rfl : true = true)]
  by_cases c4 : l.length = 0 ∨ (l.length : Int) = 0
  · rw [if_pos c4]
  rw [if_neg c4]
  have hv := G.cnt_vars (most := (l.length : Int)) (by omega) l.length ⟨next, false, []⟩ l (by omega) (Nat.le_refl _) (by omega) rfl (by show next ≤ 65537; omega)
  have hvb := G.Vf_bound (most := (l.length : Int)) (by omega) l.length l.length (by omega) (Nat.le_refl _) (by omega)
  have hf := (hv.1 (by show next + _ ≤ 65537; omega)).1
  unfold G.mainS
  dsimp only
  rw [if_neg (by rw [hf]; decide)]

theorem Tv_tv {b : List Bool} {m x : Int} (h : Gd m x) : Tv b x = tv b x := by
  unfold G.Gd at h
  unfold G.Tv G.tv rdOf
  by_cases h0 : 0 < x
  · rw [if_pos h0, if_neg (by omega)]
  · rw [if_neg h0, if_pos (by omega)]

theorem countP_cntT {b : List Bool} {l : List Int} {m : Int} (h : ∀ x ∈ l, Gd m x) : l.countP (Tv b) = cntT b l l.length := by
  have hi : ∀ i, i ≤ l.length → (l.take i).countP (Tv b) = cntT b l i := by
    intro i
    induction i with
    | zero => intro _; simp [G.cntT]
    | succ i ih =>
      intro hi
      have hm : l[i]'(by omega) ∈ l := List.getElem_mem _
      have e : l.getD i 0 = l[i]'(by omega) := by simp [List.getD_eq_getElem?_getD, show i < l.length by omega]
      rw [List.take_succ_eq_append_getElem (by omega), List.countP_append, ih (by omega)]
      show _ = cntT b l i + if tv b (l.getD i 0) = true then 1 else 0
      rw [e, List.countP_singleton, Tv_tv (h _ hm)]
  have := hi l.length (Nat.le_refl _)
  rwa [List.take_length] at this

theorem Tv_app {a e : List Bool} {x : Int} (h : Gd (a.length : Int) x) : Tv (a ++ e) x = Tv a x := by
  unfold G.Gd at h
  unfold G.Tv rdOf
  simp only [List.getD_eq_getElem?_getD]
  by_cases h0 : 0 < x
  · rw [if_pos h0, if_pos h0, List.getElem?_append_left (by omega)]
  · rw [if_neg h0, if_neg h0, List.getElem?_append_left (by omega)]

/-- The totalizer with its output j can be satisfied exactly if more than j literals are true. -/
theorem total_sat {a : List Bool} {l : List Int} {most : Int} (hl : l.length ≤ 40) (hw : ∀ x ∈ l, (Lit.int .i64 x).wf = true) (h : (G.totalOf l most (a.length : Int)).2.2.2 = 0) (hA : (G.totalOf l most (a.length : Int)).2.2.1 ≤ 65537) {n : Nat} (hn : (G.totalOf l most (a.length : Int)).2.2.1 = (a.length : Int) + n) {j : Nat} (hj : j < (G.totalOf l most (a.length : Int)).1.length) :
    (∃ e : List Bool, e.length = n ∧ ∀ c ∈ (G.totalOf l most (a.length : Int)).2.1 ++ [[(G.totalOf l most (a.length : Int)).1.getD j 0]], holdsB c (a ++ e) = true) ↔ j < cntT a l l.length := by
  obtain ⟨_, _, _, hgl, hgo, hgc, hT⟩ := G.totalOf_ok hl hw h
  obtain ⟨F, I, hF, hI1, hI2, hu⟩ := totalOf_uniq hl hw h
  obtain rfl : n = F := by omega
  have hgm : Gd (G.totalOf l most (a.length : Int)).2.2.1 ((G.totalOf l most (a.length : Int)).1.getD j 0) := hgo _ (by simp [List.getD_eq_getElem?_getD, hj])
  have hcc := countP_cntT (b := a) hgl
  rw [← hcc]
  have key : ∀ e : List Bool, e.length = n → (∀ c ∈ (G.totalOf l most (a.length : Int)).2.1, holdsB c (a ++ e) = true) → (holdsB [(G.totalOf l most (a.length : Int)).1.getD j 0] (a ++ e) = true ↔ j < l.countP (Tv a)) := fun e he hh => by
    have hb : (G.totalOf l most (a.length : Int)).2.2.1 ≤ ((a ++ e).length : Int) := by rw [List.length_append]; omega
    have := hT (Tv (a ++ e)) (fun x hx => G.Tv_neg (by omega) hx) (fun c hc => by rw [← G.holdsB_Tv hA (hgc c hc) hb]; exact hh c hc) j hj
    rw [G.holdsB_Tv hA (fun x hx => by rw [List.mem_singleton] at hx; subst hx; exact hgm) hb]
    simp only [List.any_cons, List.any_nil, Bool.or_false]
    rw [this, show l.countP (Tv (a ++ e)) = l.countP (Tv a) from List.countP_congr (fun x hx => by rw [Tv_app (hgl x hx)])]
  constructor
  · rintro ⟨e, he, hh⟩
    exact (key e he (fun c hc => hh c (List.mem_append_left _ hc))).1 (hh _ (by simp))
  · intro hc
    have he := hI1 (Tv a)
    have hb : (G.totalOf l most (a.length : Int)).2.2.1 ≤ ((a ++ I (Tv a)).length : Int) := by rw [List.length_append]; omega
    have hall : ∀ c ∈ (G.totalOf l most (a.length : Int)).2.1, holdsB c (a ++ I (Tv a)) = true := fun c hc => by
      rw [G.holdsB_Tv hA (hgc c hc) hb]
      refine (hu (Tv (a ++ I (Tv a))) (fun x hx => G.Tv_neg (by omega) hx)).2 (fun i hi => ?_) c hc
      rw [hI2 (Tv (a ++ I (Tv a))) (Tv a) (fun x hx => Tv_app (hgl x hx))]
      unfold G.Tv rdOf
      by_cases hz : 0 < (a.length : Int) + (i : Int)
      · rw [if_pos hz, show ((a.length : Int) + (i : Int)).toNat = a.length + i by omega, G.getD_app2]
      · have := (G.totalOf_ok hl hw h).1.1
        omega
    refine ⟨I (Tv a), he, fun c hcm => ?_⟩
    rcases List.mem_append.1 hcm with hm | hm
    · exact hall c hm
    · rw [List.mem_singleton] at hm
      subst hm
      exact (key _ he hall).2 hc

theorem can_ok {c : List (List Int)} {a : List Bool} {n : Nat} (ha : a.length ≤ 10000) (hn : n ≤ 9) (hc : ∀ x ∈ c, ∀ b, G.cnf_Holds.f x b = some (holdsB x b)) (hs : c.length ≤ 1000000) {K : Nat} (hK : 1000000001 < K) :
    ∃ t, QCan.chalklinelaw16_can.f K c a ((a.length : Int) + n) = some t ∧ (t.1 = true ↔ ∃ e : List Bool, e.length = n ∧ ∀ x ∈ c, holdsB x (a ++ e) = true) := by
  have hw : wrap64 ((a.length : Int) + n - (a.length : Int)) = n := by unfold wrap64; omega
  unfold QCan.chalklinelaw16_can.f
  rw [hw, if_neg (by omega), decide_eq_false (by omega)]
  obtain ⟨K, rfl⟩ : ∃ j, K = j + 1 := ⟨K - 1, by omega⟩
  rw [QCan.chalklinelaw16_can.j0, if_neg (by decide), if_pos (by omega)]
  have hsh := G.cshl_eq ⟨n, by omega⟩
  have h512 : 2 ^ n ≤ 512 := by
    have : 2 ^ n ≤ 2 ^ 9 := Nat.pow_le_pow_right (by omega) hn
    omega
  have hF : (c.length + n + 10) * 2 ^ n ≤ 1000100 * 512 := Nat.mul_le_mul (by omega) h512
  have h := G.can_l0 (c := c) (a := a) hn (by omega) hc hs rfl (2 ^ n) 0 K (by omega) (by omega)
  rw [hsh]
  exact ⟨_, h, G.canFrom_ext⟩

def TotalsPure : Prop := ∀ (l0 : List Int) (a1 : Int) (l2 : List Bool), (∀ x ∈ l0, (Lit.int .i64 x).wf = true) → ∃ k, chalklinelaw16_CountTotals.f k l0 a1 l2 = some true

theorem CountTotals : TotalsPure := by
  intro l0 a1 l2 hw
  obtain ⟨K, hK⟩ : ∃ K : Nat, K = 2000000000 := ⟨_, rfl⟩
  refine ⟨K + 4, ?_⟩
  have hj : chalklinelaw16_CountTotals.j0 (K + 4) l0 a1 l2 true = some true := by rw [chalklinelaw16_CountTotals.j0, if_pos rfl]
  unfold chalklinelaw16_CountTotals.f G.chalklinelaw16_live.f
  simp only [Option.bind_some, if_true]
  by_cases h1 : (l2.length : Int) > 5
  · rw [if_pos h1]; exact hj
  rw [if_neg h1]
  by_cases h2 : (l0.length : Int) > 5
  · rw [decide_eq_true h2]; exact hj
  rw [decide_eq_false h2, chalklinelaw16_CountTotals.j0, if_neg (by decide)]
  simp only [Option.bind_some, List.length_cons, List.length_nil]
  rw [if_pos (by omega)]
  obtain ⟨a, ha⟩ : ∃ a, [false] ++ l2 = a := ⟨_, rfl⟩
  have hal : a.length = l2.length + 1 := by rw [← ha]; simp
  rw [ha]
  have hwf : G.wfL l0 = true := by simpa [G.wfL] using hw
  have t1 : G.count_Least.f l0 a1 (a.length : Int) = some (G.leastOf l0 a1 (a.length : Int)) := by unfold G.count_Least.f; rw [if_pos ⟨by omega, hwf⟩]
  have t2 : G.total_Total.f l0 (l0.length : Int) (a.length : Int) = some (G.totalOf l0 (l0.length : Int) (a.length : Int)) := by unfold G.total_Total.f; rw [if_pos ⟨by omega, hwf⟩]
  rw [t1]
  simp only [Option.bind_some]
  rw [t2]
  simp only [Option.bind_some]
  have hfine := totalOf_fine (l := l0) (next := (a.length : Int)) (by omega) (by omega)
  have hap := apartB_right (n := (a.length : Int)) l0
  by_cases hr : G.rightE l0 (a.length : Int) = 0
  · have hg := G.right_gr hr hw
    have h0 := G.leastOf_small_ok (k := a1) hr (by omega) (by omega)
    have hrf := (G.rightE_ok hr).2.2.2
    rw [hap, hrf, if_pos rfl] at hfine
    obtain ⟨⟨b1, b2⟩, _, _⟩ := G.leastOf_gr hw h0
    have hs := (G.leastOf_small l0 a1 (a.length : Int)).1
    have hh := G.leastOf_holds hw h0
    have sat := fun (n : Nat) hn => G.least_sat (a := a) (n := n) hw h0 hn
    obtain ⟨_, hta, htl, _, hto, htc, _⟩ := G.totalOf_ok (by omega) hw hfine
    have htb := G.totalOf_bounds l0 (l0.length : Int) (a.length : Int) (by omega)
    have hta2 := G.totalOf_after l0 (l0.length : Int) (a.length : Int) (by omega)
    have tsat := fun (n : Nat) hn (j : Nat) hj => total_sat (a := a) (n := n) (j := j) (by omega) hw hfine hta2.2 hn hj
    obtain ⟨x, hx⟩ : ∃ x, G.leastOf l0 a1 (a.length : Int) = x := ⟨_, rfl⟩
    obtain ⟨y, hy⟩ : ∃ y, G.totalOf l0 (l0.length : Int) (a.length : Int) = y := ⟨_, rfl⟩
    rw [hx] at b1 b2 hs hh sat h0 ⊢
    rw [hy] at hfine hta htl hto htc htb hta2 tsat ⊢
    have hmn : (y.1.length : Int) = l0.length := by rw [htl]; unfold mn; split <;> omega
    rw [if_pos h0, show (y.2.2.2 != 0) = false from by rw [hfine]; rfl, chalklinelaw16_CountTotals.j1, if_neg (by decide)]
    have hj2 : chalklinelaw16_CountTotals.j2 (K + 2) l0 a1 a x.1 x.2.1 y.1 y.2.1 y.2.2.1 true = some true := by rw [chalklinelaw16_CountTotals.j2, if_pos rfl, hmn]; simp
    by_cases hk1 : a1 < 1
    · rw [if_pos hk1]; exact hj2
    rw [if_neg hk1]
    by_cases hk2 : a1 > (y.1.length : Int)
    · rw [decide_eq_true hk2]; exact hj2
    rw [decide_eq_false hk2, chalklinelaw16_CountTotals.j2, if_neg (by decide)]
    have hj3 : chalklinelaw16_CountTotals.j3 (K + 1) a1 a x.1 x.2.1 y.1 y.2.1 y.2.2.1 true = some true := by rw [chalklinelaw16_CountTotals.j3, if_pos rfl]
    have w1 : wrap64 (x.2.1 - (a.length : Int)) = x.2.1 - a.length := by unfold wrap64; omega
    have w2 : wrap64 (y.2.2.1 - (a.length : Int)) = y.2.2.1 - a.length := by unfold wrap64; omega
    have w3 : wrap64 (a1 - 1) = a1 - 1 := by unfold wrap64; omega
    rw [w1, w2]
    by_cases hn1 : x.2.1 - (a.length : Int) > 9
    · rw [if_pos hn1]; exact hj3
    rw [if_neg hn1]
    by_cases hn2 : y.2.2.1 - (a.length : Int) > 9
    · rw [decide_eq_true hn2]; exact hj3
    rw [decide_eq_false hn2, chalklinelaw16_CountTotals.j3, if_neg (by decide), w3, if_pos (by simp only [List.length_nil]; omega)]
    simp only [Option.bind_some, List.nil_append, List.length_cons, List.length_nil]
    rw [if_pos (by omega), if_pos (by omega), if_pos (by omega)]
    obtain ⟨n, hn⟩ : ∃ n : Nat, x.2.1 = (a.length : Int) + n := ⟨(x.2.1 - a.length).toNat, by omega⟩
    obtain ⟨m, hm⟩ : ∃ m : Nat, y.2.2.1 = (a.length : Int) + m := ⟨(y.2.2.1 - a.length).toNat, by omega⟩
    obtain ⟨t, ht, htt⟩ := can_ok (c := x.1) (a := a) (n := n) (by omega) (by omega) hh (by omega) (K := K) (by omega)
    have hrd : rd y.1 (a1 - 1) = y.1.getD (a1 - 1).toNat 0 := rfl
    have hom : Gd y.2.2.1 (y.1.getD (a1 - 1).toNat 0) := hto _ (by simp [List.getD_eq_getElem?_getD, show a1.toNat - 1 < y.1.length by omega])
    have hhu : ∀ c ∈ y.2.1 ++ [[y.1.getD (a1 - 1).toNat 0]], ∀ b, G.cnf_Holds.f c b = some (holdsB c b) := fun c hc b => by
      rcases List.mem_append.1 hc with hc | hc
      · exact G.holds_f (fun x hx => gd_gr (htc c hc x hx)) hta2.2 (htb.2.2 c hc)
      · rw [List.mem_singleton] at hc
        subst hc
        exact G.holds_f (fun x hx => by rw [List.mem_singleton] at hx; subst hx; exact gd_gr hom) hta2.2 (by simp)
    obtain ⟨u, hu, huu⟩ := can_ok (c := y.2.1 ++ [[y.1.getD (a1 - 1).toNat 0]]) (a := a) (n := m) (by omega) (by omega) hhu (by rw [List.length_append, List.length_singleton]; omega) (K := K) (by omega)
    rw [hn, ht, hrd, hm]
    simp only [Option.bind_some]
    rw [hu]
    simp only [Option.bind_some]
    congr 1
    rw [beq_iff_eq, Bool.eq_iff_iff, htt, huu, sat n hn, tsat m hm (a1 - 1).toNat (by omega)]
    omega
  · have hre : G.rightE l0 (a.length : Int) = 140 := by
      unfold G.rightE at hr ⊢
      rw [if_neg (by omega), if_neg (by omega), if_neg (by omega)] at hr ⊢
      unfold G.resE at hr ⊢
      split at hr
      · exact (hr rfl).elim
      · rename_i h; rw [if_neg h]
    have hap2 : G.apartB l0 (a.length : Int) = false := by
      rw [hap]
      unfold G.rightE at hre
      rw [if_neg (by omega), if_neg (by omega), if_neg (by omega)] at hre
      unfold G.resE at hre
      split at hre
      · cases hre
      · rename_i h; simpa using h
    rw [hap2, if_neg (by decide)] at hfine
    obtain ⟨e1, e2, e3⟩ := G.totalOf_err (l := l0) (most := (l0.length : Int)) (next := (a.length : Int)) (by rw [hfine]; decide)
    rw [G.leastOf_right hr, hre, if_neg (by decide), chalklinelaw16_CountTotals.j1, if_pos rfl, hfine, if_pos rfl, e1]
    rfl

#print axioms CountTotals
end Go.Proofs.Ytpadmbpopjmdjaa.Pure
