/-
  The plain law of TotalUnique.
-/
import Derived.Test.YtdkfhpgbiohhoaaQUnx2
import Derived.Test.YtdkfhpgbiohhoaaGUniq
import Derived.Test.YtdkfhpgbiohhoaaGOk
namespace Go.Proofs.Ytdkfhpgbiohhoaa.Pure
open Go.RowKit Go.Proofs.Ytdkfhpgbiohhoaa.QUn Go.Proofs.YtdkfhpgbiohhoaaW.PrintWords Go.Proofs.YtdkfhpgbiohhoaaW.PrintLast
open G (Gd Tv)

theorem lit_f {m x : Int} {b : List Bool} (hm : m ≤ 65537) (h : Gd m x) (hb : m ≤ b.length) : chalklinelaw15_lit.f x b = some (Tv b x) := by
  unfold Gd at h
  have e : wrap64 (-x) = -x := by unfold wrap64; omega
  unfold chalklinelaw15_lit.f Tv
  rw [e]
  by_cases h0 : 0 < x
  · rw [if_neg (by omega), if_pos h0, if_pos (by omega), if_pos (by omega), if_pos h0]
  · rw [if_pos (by omega), if_pos (by omega), if_pos (by omega), if_neg h0]

theorem rd_mem (l : List Int) (i : Nat) (h : i < l.length) : rd l (i : Int) ∈ l ∧ rd l (i : Int) = l.getD i 0 := by
  constructor <;> simp [rd, List.getD_eq_getElem?_getD, h]
theorem rdL_mem (l : List (List Int)) (i : Nat) (h : i < l.length) : rd_L1 l (i : Int) ∈ l ∧ l.drop i = rd_L1 l (i : Int) :: l.drop (i + 1) := by
  constructor
  · simp [rd_L1, List.getD_eq_getElem?_getD, h]
  · rw [List.drop_eq_getElem_cons h]
    simp [rd_L1, List.getD_eq_getElem?_getD, h]

section
variable {m : Int} {b : List Bool} (hm : m ≤ 65537) (hb : m ≤ b.length)
include hm hb

theorem many_l0 {l : List Int} (hl : l.length ≤ 1000000) (hg : ∀ x ∈ l, Gd m x) : ∀ d i (n : Nat) k, i + d = l.length → d < k → n ≤ i → chalklinelaw15_many.l0 k l b (n : Int) i = some ((n + (l.drop i).countP (Tv b) : Nat) : Int) := by
  intro d
  induction d with
  | zero =>
    intro i n k h1 h2 h3
    obtain ⟨k, rfl⟩ : ∃ j, k = j + 1 := ⟨k - 1, by omega⟩
    rw [chalklinelaw15_many.l0, if_neg (show ¬ (i : Int) < (l.length : Int) by omega), List.drop_eq_nil_of_le (by omega)]
    simp
  | succ d ih =>
    intro i n k h1 h2 h3
    obtain ⟨k, rfl⟩ : ∃ j, k = j + 1 := ⟨k - 1, by omega⟩
    have hi : i < l.length := by omega
    obtain ⟨e1, e2⟩ := rd_mem l i hi
    rw [chalklinelaw15_many.l0, if_pos (show (i : Int) < (l.length : Int) by omega), if_pos (show (0 : Int) ≤ (i : Int) by omega), lit_f hm (hg _ e1) hb]
    simp only [Option.bind_some]
    rw [show wrap64 ((i : Int) + 1) = ((i + 1 : Nat) : Int) from by unfold wrap64; omega, show wrap64 ((n : Int) + 1) = ((n + 1 : Nat) : Int) from by unfold wrap64; omega,
      G.drop_rd hi, List.countP_cons, ← e2]
    by_cases ht : Tv b (rd l (i : Int)) = true
    · rw [if_pos ht, if_pos ht, ih (i + 1) (n + 1) k (by omega) (by omega) (by omega)]
      congr 2
      omega
    · rw [if_neg ht, if_neg ht, ih (i + 1) n k (by omega) (by omega) (by omega)]
      congr 2

theorem holds_l0 {cs : List (List Int)} (hl : cs.length ≤ 1000000) (hr : ∀ c ∈ cs, c.length ≤ 3) (hg : ∀ c ∈ cs, ∀ x ∈ c, Gd m x) : ∀ d i k, i + d = cs.length → d < k → chalklinelaw15_holds.l0 k cs b i = some ((cs.drop i).all (fun c => c.any (Tv b))) := by
  intro d
  induction d with
  | zero =>
    intro i k h1 h2
    obtain ⟨k, rfl⟩ : ∃ j, k = j + 1 := ⟨k - 1, by omega⟩
    rw [chalklinelaw15_holds.l0, if_neg (show ¬ (i : Int) < (cs.length : Int) by omega), List.drop_eq_nil_of_le (by omega)]
    rfl
  | succ d ih =>
    intro i k h1 h2
    obtain ⟨k, rfl⟩ : ∃ j, k = j + 1 := ⟨k - 1, by omega⟩
    obtain ⟨e1, e2⟩ := rdL_mem cs i (by omega)
    have hc : G.cnf_Holds.f (rd_L1 cs (i : Int)) b = some ((rd_L1 cs (i : Int)).any (Tv b)) := by
      unfold G.cnf_Holds.f
      have h3 := hr _ e1
      have hwf : G.wfL (rd_L1 cs (i : Int)) = true := by
        unfold G.wfL
        rw [List.all_eq_true]
        exact fun x hx => (hg _ e1 x hx).wf (by omega)
      rw [if_pos ⟨by omega, hwf⟩, G.holdsB_Tv hm (hg _ e1) hb]
    rw [chalklinelaw15_holds.l0, if_pos (show (i : Int) < (cs.length : Int) by omega), if_pos (show (0 : Int) ≤ (i : Int) by omega), hc]
    simp only [Option.bind_some]
    rw [show wrap64 ((i : Int) + 1) = ((i + 1 : Nat) : Int) from by unfold wrap64; omega, e2, List.all_cons]
    by_cases ht : (rd_L1 cs (i : Int)).any (Tv b) = true
    · rw [if_pos ht, ih (i + 1) k (by omega) (by omega), ht, Bool.true_and]
    · rw [if_neg ht]
      simp only [Bool.not_eq_true] at ht
      rw [ht, Bool.false_and]

end

theorem padded_l0 (a : List Bool) (n : Nat) (hn : n ≤ 100000) : ∀ d i (xs : List Bool) k, i + d = n + 1 → d < k → xs.length = n + 1 → 1 ≤ i → ∃ p, chalklinelaw15_padded.l0 k a (n : Int) xs i = some p ∧ p.length = n + 1 := by
  intro d
  induction d with
  | zero =>
    intro i xs k h1 h2 h3 h4
    obtain ⟨k, rfl⟩ : ∃ j, k = j + 1 := ⟨k - 1, by omega⟩
    rw [chalklinelaw15_padded.l0, if_neg (show ¬ (i : Int) ≤ (n : Int) by omega)]
    exact ⟨_, rfl, h3⟩
  | succ d ih =>
    intro i xs k h1 h2 h3 h4
    obtain ⟨k, rfl⟩ : ∃ j, k = j + 1 := ⟨k - 1, by omega⟩
    rw [chalklinelaw15_padded.l0, if_pos (show (i : Int) ≤ (n : Int) by omega)]
    by_cases ha : (i : Int) < (a.length : Int)
    · rw [if_pos ha, if_pos (show (0 : Int) ≤ (i : Int) by omega), if_pos (show (i : Int) < (xs.length : Int) by omega), show wrap64 ((i : Int) + 1) = ((i + 1 : Nat) : Int) from by unfold wrap64; omega]
      exact ih (i + 1) _ k (by omega) (by omega) (by rw [List.length_set]; exact h3) (by omega)
    · rw [if_neg ha]
      exact ⟨_, rfl, h3⟩
theorem padded_f (a : List Bool) (n : Nat) (hn : n ≤ 100000) (k : Nat) (hk : n + 1 < k) : ∃ p, chalklinelaw15_padded.f k a (n : Int) = some p ∧ p.length = n + 1 := by
  unfold chalklinelaw15_padded.f
  have e : wrap64 ((n : Int) + 1) = ((n + 1 : Nat) : Int) := by unfold wrap64; omega
  rw [e, if_pos (by omega), Int.toNat_natCast, if_pos (by omega)]
  exact padded_l0 a n hn n 1 _ k (by omega) (by omega) (by simp) (by omega)

def Vf8 (most : Int) (n : Nat) : Prop := G.Vf most n n ≤ 8
theorem Vf_four {most : Int} : ∀ n : Nat, 1 ≤ n → n ≤ 4 → Vf8 most n := by
  intro n h1 h2
  have a2 := G.manyOf_le 2 most
  have a3 := G.manyOf_le 3 most
  have a4 := G.manyOf_le 4 most
  unfold Vf8
  match n, h1, h2 with
  | 1, _, _ => simp [G.Vf]
  | 2, _, _ => simp [G.Vf]; omega
  | 3, _, _ => simp [G.Vf]; omega
  | 4, _, _ => simp [G.Vf]; omega

theorem totalOf_uniq {l : List Int} {most next : Int} (hl : l.length ≤ 4) (hw : ∀ x ∈ l, (Lit.int .i64 x).wf = true) (h : (G.totalOf l most next).2.2.2 = 0) :
    ∃ (F : Nat) (I : (Int → Bool) → List Bool), F ≤ 8 ∧ (G.totalOf l most next).2.2.1 = next + F ∧ (∀ T, (I T).length = F) ∧ (∀ T U, (∀ x ∈ l, T x = U x) → I T = I U) ∧
      ∀ T : Int → Bool, (∀ x, Gd (G.totalOf l most next).2.2.1 x → T (wrap64 (-x)) = !(T x)) → ((∀ c ∈ (G.totalOf l most next).2.1, c.any T = true) ↔ ∀ i, i < F → T (next + (i : Int)) = (I T).getD i false) := by
  unfold G.totalOf at h ⊢
  by_cases c1 : next < 1 ∨ 65537 < next ∨ most < 0 ∨ 1099511627776 < most
  · rw [if_pos c1] at h; cases h
  rw [if_neg c1] at h ⊢
  by_cases c2 : G.apartB l next = false
  · rw [if_pos c2] at h; cases h
  rw [if_neg c2] at h ⊢
  have c2' : G.apartB l next = true := by simpa using c2
  have hg := G.apartB_gd hw c2'
  by_cases c4 : l.length = 0 ∨ most = 0
  · rw [if_pos c4]
    exact ⟨0, fun _ => [], by omega, by show next = next + ((0 : Nat) : Int); omega, fun _ => rfl, fun _ _ _ => rfl, fun T _ => ⟨fun _ i hi => by omega, fun _ c hc => by cases hc⟩⟩
  rw [if_neg c4] at h ⊢
  have hm : 1 ≤ most := by omega
  have hlen : 1 ≤ l.length := by omega
  unfold G.mainS at h ⊢
  dsimp only at h ⊢
  by_cases c5 : (G.cnt most l.length ⟨next, false, []⟩ l).2.full = true
  · rw [if_pos c5] at h; cases h
  rw [if_neg c5]
  have c5' : (G.cnt most l.length ⟨next, false, []⟩ l).2.full = false := by simpa using c5
  have hv := G.cnt_vars hm l.length ⟨next, false, []⟩ l hlen (Nat.le_refl _) (by omega) rfl (by show next ≤ 65537; omega)
  have hvb := G.Vf_bound hm l.length l.length hlen (Nat.le_refl _) (by omega)
  have h8 := Vf_four (most := most) l.length hlen hl
  unfold Vf8 at h8
  have hnx : (G.cnt most l.length ⟨next, false, []⟩ l).2.next = next + G.Vf most l.length l.length := by
    by_cases c6 : next + G.Vf most l.length l.length ≤ 65537
    · exact (hv.1 c6).2
    · rw [hv.2 (by show 65537 < next + _; omega)] at c5'
      cases c5'
  have hil : ∀ T, ((G.idl T most l.length l).length : Int) = G.Vf most l.length l.length := fun T => G.idl_len hm l.length l hlen (Nat.le_refl _)
  dsimp only
  refine ⟨(G.Vf most l.length l.length).toNat, fun T => G.idl T most l.length l, by omega, by omega, fun T => by have := hil T; show (G.idl T most l.length l).length = _; omega, fun T U hTU => G.idl_congr _ _ hTU, fun T hT => ?_⟩
  have hu := (G.cnt_uniq (T := T) hm l.length ⟨next, false, []⟩ l hlen (Nat.le_refl _) (by omega) rfl (by show 1 ≤ next; omega) (by show next ≤ 65537; omega) hg (fun c hc => by cases hc) c5' hT (fun c hc => by cases hc)).1
  rw [hu]
  dsimp only
  have := hil T
  constructor
  · intro hi i hlt
    exact hi i (by omega)
  · intro hi i hlt
    exact hi i (by omega)

/-- The number whose bits are D. -/
def ofB : List Bool → Nat
  | [] => 0
  | b :: D => (if b = true then 1 else 0) + 2 * ofB D
theorem ofB_lt : ∀ D : List Bool, ofB D < 2 ^ D.length := by
  intro D
  induction D with
  | nil => simp [ofB]
  | cons b D ih =>
    rw [ofB, List.length_cons, Nat.pow_succ]
    split <;> omega
theorem ofB_iff : ∀ (D : List Bool) (m : Nat), m < 2 ^ D.length → ((∀ i, i < D.length → m.testBit i = D.getD i false) ↔ m = ofB D) := by
  intro D
  induction D with
  | nil => intro m hm; simp at hm; simp [ofB, hm]
  | cons b D ih =>
    intro m hm
    rw [List.length_cons, Nat.pow_succ] at hm
    have h2 := ih (m / 2) (by omega)
    rw [ofB]
    constructor
    · intro h
      have h0 := h 0 (by simp)
      have hr := h2.1 (fun i hi => by
        have := h (i + 1) (by simp; omega)
        rw [Nat.testBit_succ] at this
        simpa using this)
      rw [Nat.testBit_zero] at h0
      simp only [List.getD_cons_zero] at h0
      rw [← hr]
      cases b with
      | true => simp at h0; simp; omega
      | false => simp at h0; simp; omega
    · intro h i hi
      have hd : m / 2 = ofB D := by split at h <;> omega
      cases i with
      | zero =>
        rw [Nat.testBit_zero]
        cases b with
        | true => simp at h; simp; omega
        | false => simp at h; simp; omega
      | succ i =>
        rw [Nat.testBit_succ]
        simpa using h2.2 hd i (by simpa using hi)

theorem bit_eq : ∀ m : Fin 256, ∀ i : Fin 8, ((Go.bits .and .i64 (shr .i64 ((m.val : Nat) : Int) (IntKind.u64.wrap ((i.val : Nat) : Int))) 1) == 1) = m.val.testBit i.val := by decide +kernel
theorem shl_eq : ∀ F : Fin 9, shl .i64 1 (IntKind.u64.wrap ((F.val : Nat) : Int)) = ((2 ^ F.val : Nat) : Int) := by decide +kernel
theorem u64_nn : ∀ F : Fin 9, 0 ≤ IntKind.u64.wrap ((F.val : Nat) : Int) := by decide +kernel

theorem rdOf_setv {xs : List Bool} {v z : Int} {u : Bool} (hv : 0 ≤ v) (hl : v.toNat < xs.length) (hz : 0 ≤ z) : rdOf false (xs.set v.toNat u) z = if z = v then u else rdOf false xs z := by
  simp only [rdOf, List.getD_eq_getElem?_getD, List.getElem?_set]
  by_cases h : z = v
  · subst h
    simp [hl]
  · rw [if_neg (show v.toNat ≠ z.toNat from by omega), if_neg h]

/-- b, the new variables by the bits of m. -/
structure Bd8 (next : Int) (F m : Nat) (b b' : List Bool) : Prop where
  len : b'.length = b.length
  old : ∀ z, 0 ≤ z → z < next → rdOf false b' z = rdOf false b z
  bit : ∀ i, i < F → rdOf false b' (next + (i : Int)) = m.testBit i

/-- What follows in a round, behind the inner loop. -/
def tailU (k : Nat) (l : List Int) (next : Int) (o : List Int) (cs : List (List Int)) (F : Int) (b : List Bool) (w m : Int) : Option Bool :=
  (chalklinelaw15_holds.f k cs b).bind fun t => (if t = true then ((chalklinelaw15_many.f k l b).bind fun n => (chalklinelaw15_TotalUnique.l2 k l next o cs F b (wrap64 (w + 1)) m n 0)) else (chalklinelaw15_TotalUnique.l0 k l next o cs F b w (wrap64 (m + 1))))

theorem unique_l1 {next : Int} (hn : 1 ≤ next ∧ next ≤ 65537) {F m : Nat} (hF : F ≤ 8) (hm : m < 256) (l o : List Int) (cs : List (List Int)) (w : Int) (b : List Bool) (hb : next + (F : Int) < (b.length : Int)) (K : Nat) :
    ∀ d i b', i + d = F → b'.length = b.length → (∀ z, 0 ≤ z → z < next → rdOf false b' z = rdOf false b z) → (∀ j, j < i → rdOf false b' (next + (j : Int)) = m.testBit j) →
      ∃ b'', Bd8 next F m b b'' ∧ chalklinelaw15_TotalUnique.l1 (K + d + 1) l next o cs (F : Int) b' w (m : Int) (i : Int) = tailU K l next o cs (F : Int) b'' w (m : Int) := by
  intro d
  induction d with
  | zero =>
    intro i b' h1 h2 h3 h4
    refine ⟨b', ⟨h2, h3, fun j hj => h4 j (by omega)⟩, ?_⟩
    show chalklinelaw15_TotalUnique.l1 (K + 1) l next o cs (F : Int) b' w (m : Int) (i : Int) = _
    rw [chalklinelaw15_TotalUnique.l1, if_neg (show ¬ (i : Int) < (F : Int) by omega)]
    rfl
  | succ d ih =>
    intro i b' h1 h2 h3 h4
    show ∃ b'', _ ∧ chalklinelaw15_TotalUnique.l1 (K + d + 1 + 1) l next o cs (F : Int) b' w (m : Int) (i : Int) = _
    have ew : wrap64 (next + (i : Int)) = next + (i : Int) := by unfold wrap64; omega
    have hu := u64_nn ⟨i, by omega⟩
    have hbit := bit_eq ⟨m, hm⟩ ⟨i, by omega⟩
    dsimp only at hu hbit
    rw [chalklinelaw15_TotalUnique.l1, if_pos (show (i : Int) < (F : Int) by omega), if_pos hu, ew, if_pos (by omega), if_pos (by omega), hbit, show wrap64 ((i : Int) + 1) = ((i + 1 : Nat) : Int) from by unfold wrap64; omega]
    refine ih (i + 1) _ (by omega) (by rw [List.length_set]; exact h2) (fun z z1 z2 => ?_) (fun j hj => ?_)
    · rw [rdOf_setv (by omega) (by omega) z1, if_neg (by omega)]
      exact h3 z z1 z2
    · rw [rdOf_setv (by omega) (by omega) (by omega)]
      by_cases hj2 : j = i
      · subst hj2
        rw [if_pos rfl]
      · rw [if_neg (by omega)]
        exact h4 j (by omega)

theorem unique_l2 {A : Int} {b : List Bool} (hA : A ≤ 65537) (hb : A ≤ b.length) (l : List Int) (next : Int) {o : List Int} (cs : List (List Int)) (F w m : Int) (hl : o.length ≤ 1000000) (hg : ∀ x ∈ o, Gd A x) (n : Nat) (hn : ∀ j, j < o.length → (Tv b (o.getD j 0) = true ↔ j < n)) (K : Nat) :
    ∀ d i, i + d = o.length → chalklinelaw15_TotalUnique.l2 (K + d + 1) l next o cs F b w m (n : Int) (i : Int) = chalklinelaw15_TotalUnique.l0 K l next o cs F b w (wrap64 (m + 1)) := by
  intro d
  induction d with
  | zero =>
    intro i h1
    show chalklinelaw15_TotalUnique.l2 (K + 1) l next o cs F b w m (n : Int) (i : Int) = _
    rw [chalklinelaw15_TotalUnique.l2, if_neg (show ¬ (i : Int) < (o.length : Int) by omega)]
  | succ d ih =>
    intro i h1
    show chalklinelaw15_TotalUnique.l2 (K + d + 1 + 1) l next o cs F b w m (n : Int) (i : Int) = _
    have hi : i < o.length := by omega
    obtain ⟨e1, e2⟩ := rd_mem o i hi
    rw [chalklinelaw15_TotalUnique.l2, if_pos (show (i : Int) < (o.length : Int) by omega), if_pos (show (0 : Int) ≤ (i : Int) by omega), lit_f hA (hg _ e1) hb]
    simp only [Option.bind_some]
    have hv : Tv b (rd o (i : Int)) = decide ((n : Int) > (i : Int)) := by
      have := hn i hi
      rw [← e2] at this
      by_cases hc : i < n
      · rw [this.2 hc, decide_eq_true (by omega)]
      · rw [decide_eq_false (by omega)]
        cases ht : Tv b (rd o (i : Int)) with
        | true => exact (hc (this.1 ht)).elim
        | false => rfl
    rw [hv, bne_self_eq_false, if_neg (by decide), show wrap64 ((i : Int) + 1) = ((i + 1 : Nat) : Int) from by unfold wrap64; omega]
    exact ih (i + 1) (by omega)

def UniquePure : Prop := ∀ (l0 : List Int) (a1 : Int) (a2 : Int) (l3 : List Bool), (∀ x ∈ l0, (Lit.int .i64 x).wf = true) → ∃ k, chalklinelaw15_TotalUnique.f k l0 a1 a2 l3 = some true

theorem TotalUnique : UniquePure := by
  intro l0 a1 a2 l3 hw
  obtain ⟨K, hK⟩ : ∃ K : Nat, K = 1000000 := ⟨_, rfl⟩
  have hj : ∀ x b c e k, chalklinelaw15_TotalUnique.j0 (k + 1) x b c e true = some true := fun x b c e k => by rw [chalklinelaw15_TotalUnique.j0, if_pos rfl]
  by_cases h20 : (l0.length : Int) > 4
  · refine ⟨1, ?_⟩
    unfold chalklinelaw15_TotalUnique.f G.chalklinelaw15_live.f
    simp only [Option.bind_some, if_true]
    rw [if_pos h20]; exact hj _ _ _ _ _
  by_cases hn2 : a2 > 30
  · refine ⟨1, ?_⟩
    unfold chalklinelaw15_TotalUnique.f G.chalklinelaw15_live.f
    simp only [Option.bind_some, if_true]
    rw [if_neg h20, decide_eq_true hn2]; exact hj _ _ _ _ _
  have hl : l0.length ≤ 40 := by omega
  have hwf : G.wfL l0 = true := by simpa [G.wfL] using hw
  have t1 : G.total_Total.f l0 a1 a2 = some (G.totalOf l0 a1 a2) := by unfold G.total_Total.f; rw [if_pos ⟨hl, hwf⟩]
  by_cases h0 : (G.totalOf l0 a1 a2).2.2.2 = 0
  case neg =>
    refine ⟨1, ?_⟩
    unfold chalklinelaw15_TotalUnique.f G.chalklinelaw15_live.f
    simp only [Option.bind_some, if_true]
    rw [if_neg h20, decide_eq_false hn2, chalklinelaw15_TotalUnique.j0, if_neg (by decide), t1]
    simp only [Option.bind_some]
    rw [if_neg h0]
  obtain ⟨k1, k2, k3, k4, k5, k6, k7⟩ := G.totalOf_ok hl hw h0
  obtain ⟨b1, b2, b3⟩ := G.totalOf_bounds l0 a1 a2 hl
  obtain ⟨F, I, hF, hA, hI1, hI2, hI3⟩ := totalOf_uniq (by omega) hw h0
  obtain ⟨x, hx⟩ : ∃ x, G.totalOf l0 a1 a2 = x := ⟨_, rfl⟩
  rw [hx] at t1 h0 k2 k3 k5 k6 k7 b1 b2 b3 hA hI3
  obtain ⟨A, hAA⟩ : ∃ A : Nat, x.2.2.1 = A := ⟨x.2.2.1.toNat, by omega⟩
  obtain ⟨p, p1, p2⟩ := padded_f l3 A (by omega) (K + 20000) (by omega)
  have ho4 : x.1.length ≤ 4 := by
    have : (x.1.length : Int) ≤ 4 := by rw [k3]; unfold mn; split <;> omega
    omega
  have hDl := hI1 (Tv p)
  have hp : x.2.2.1 ≤ (p.length : Int) := by omega
  have sat : ∀ (m : Nat) (b : List Bool), m < 2 ^ F → Bd8 a2 F m p b → x.2.1.all (fun c => c.any (Tv b)) = decide (m = ofB (I (Tv p))) := by
    intro m b hm hb
    have hneg : ∀ z, Gd x.2.2.1 z → Tv b (wrap64 (-z)) = !(Tv b z) := fun z hz => G.Tv_neg (by omega) hz
    have hIb : I (Tv b) = I (Tv p) := hI2 _ _ (fun z hz => by
      have hg := k4 z hz
      unfold Gd at hg
      unfold Tv
      by_cases hz0 : 0 < z
      · rw [if_pos hz0, if_pos hz0, hb.old z (by omega) (by omega)]
      · rw [if_neg hz0, if_neg hz0, hb.old (-z) (by omega) (by omega)])
    have h1 := hI3 (Tv b) hneg
    rw [hIb] at h1
    have h2 : (∀ i, i < F → Tv b (a2 + (i : Int)) = (I (Tv p)).getD i false) ↔ m = ofB (I (Tv p)) := by
      have h3 := ofB_iff (I (Tv p)) m (by rw [hDl]; exact hm)
      rw [hDl] at h3
      rw [← h3]
      have hv : ∀ i, i < F → Tv b (a2 + (i : Int)) = m.testBit i := fun i hi => by
        unfold Tv
        rw [if_pos (by omega), hb.bit i hi]
      exact ⟨fun h i hi => by rw [← hv i hi]; exact h i hi, fun h i hi => by rw [hv i hi]; exact h i hi⟩
    rw [Bool.eq_iff_iff, List.all_eq_true, decide_eq_true_iff]
    exact h1.trans h2
  have h256 : 2 ^ F ≤ 256 := by
    have : 2 ^ F ≤ 2 ^ 8 := Nat.pow_le_pow_right (by omega) hF
    simpa using this
  have hm0 := ofB_lt (I (Tv p))
  rw [hDl] at hm0
  obtain ⟨m0, hm00⟩ : ∃ m0, ofB (I (Tv p)) = m0 := ⟨_, rfl⟩
  rw [hm00] at sat hm0
  have loop : ∀ (d m : Nat) (b : List Bool) (w k : Nat), m + d = 2 ^ F → w ≤ m → b.length = p.length → (∀ z, 0 ≤ z → z < a2 → rdOf false b z = rdOf false p z) → K + 64 * d < k →
      chalklinelaw15_TotalUnique.l0 k l0 a2 x.1 x.2.1 (F : Int) b (w : Int) (m : Int) = some (decide (w + (if m ≤ m0 then 1 else 0) = 1)) := by
    intro d
    induction d with
    | zero =>
      intro m b w k h1 hw2 h2 h3 h4
      obtain ⟨k, rfl⟩ : ∃ j, k = j + 1 := ⟨k - 1, by omega⟩
      have hu := u64_nn ⟨F, by omega⟩
      have hs := shl_eq ⟨F, by omega⟩
      dsimp only at hu hs
      rw [chalklinelaw15_TotalUnique.l0, if_pos hu, hs, if_neg (by omega), if_neg (by omega)]
      congr 1
      rw [Bool.eq_iff_iff]
      simp
      omega
    | succ d ih =>
      intro m b w k h1 hw2 h2 h3 h4
      obtain ⟨k, rfl⟩ : ∃ j, k = j + 1 := ⟨k - 1, by omega⟩
      have hu := u64_nn ⟨F, by omega⟩
      have hs := shl_eq ⟨F, by omega⟩
      dsimp only at hu hs
      rw [chalklinelaw15_TotalUnique.l0, if_pos hu, hs, if_pos (by omega)]
      obtain ⟨K1, hK1⟩ : ∃ K1, k = K1 + F + 1 := ⟨k - F - 1, by omega⟩
      obtain ⟨b2', hb2, e2⟩ := unique_l1 (next := a2) (by omega) hF (m := m) (by omega) l0 x.1 x.2.1 (w : Int) b (by omega) K1 F 0 b (by omega) rfl (fun _ _ _ => rfl) (fun j hj => by omega)
      rw [hK1]
      rw [show ((0 : Nat) : Int) = 0 from rfl] at e2
      rw [e2]
      have hbp : Bd8 a2 F m p b2' := ⟨hb2.len.trans h2, fun z z1 z2 => (hb2.old z z1 z2).trans (h3 z z1 z2), hb2.bit⟩
      have hlen : x.2.2.1 ≤ (b2'.length : Int) := by rw [hbp.len]; exact hp
      unfold tailU chalklinelaw15_holds.f
      have hh := holds_l0 (m := x.2.2.1) (b := b2') (by omega) hlen (cs := x.2.1) (by omega) b3 k6 x.2.1.length 0 K1 (by omega) (by omega)
      rw [show ((0 : Nat) : Int) = 0 from rfl, List.drop_zero] at hh
      rw [hh]
      simp only [Option.bind_some]
      have hsat := sat m b2' (by omega) hbp
      by_cases hmm : m = m0
      · rw [decide_eq_true hmm] at hsat
        rw [if_pos hsat]
        unfold chalklinelaw15_many.f
        have hmn := many_l0 (m := x.2.2.1) (b := b2') (by omega) hlen (l := l0) (by omega) (fun z hz => (k4 z hz).mono (by omega)) l0.length 0 0 K1 (by omega) (by omega) (by omega)
        rw [show ((0 : Nat) : Int) = 0 from rfl, List.drop_zero, Nat.zero_add] at hmn
        rw [hmn]
        simp only [Option.bind_some]
        obtain ⟨K2, hK2⟩ : ∃ K2, K1 = K2 + x.1.length + 1 := ⟨K1 - x.1.length - 1, by omega⟩
        have hl2 := unique_l2 (A := x.2.2.1) (b := b2') (by omega) hlen l0 a2 (o := x.1) x.2.1 (F : Int) (wrap64 ((w : Int) + 1)) (m : Int) (by omega) k5 _ (k7 (Tv b2') (fun z hz => G.Tv_neg (by omega) hz) (List.all_eq_true.1 hsat)) K2 x.1.length 0 (by omega)
        rw [show ((0 : Nat) : Int) = 0 from rfl] at hl2
        rw [hK2, hl2, show wrap64 ((w : Int) + 1) = ((w + 1 : Nat) : Int) from by unfold wrap64; omega, show wrap64 ((m : Int) + 1) = ((m + 1 : Nat) : Int) from by unfold wrap64; omega]
        rw [ih (m + 1) b2' (w + 1) K2 (by omega) (by omega) hbp.len hbp.old (by omega), if_neg (by omega), if_pos (by omega)]
      · rw [decide_eq_false hmm] at hsat
        rw [if_neg (by rw [hsat]; decide), show wrap64 ((m : Int) + 1) = ((m + 1 : Nat) : Int) from by unfold wrap64; omega, ih (m + 1) b2' w K1 (by omega) (by omega) hbp.len hbp.old (by omega)]
        congr 3
        by_cases hle : m ≤ m0
        · rw [if_pos hle, if_pos (by omega)]
        · rw [if_neg hle, if_neg (by omega)]
  refine ⟨K + 20002, ?_⟩
  unfold chalklinelaw15_TotalUnique.f G.chalklinelaw15_live.f
  simp only [Option.bind_some, if_true]
  have ef : wrap64 (x.2.2.1 - a2) = (F : Int) := by unfold wrap64; omega
  rw [if_neg h20, decide_eq_false hn2, chalklinelaw15_TotalUnique.j0, if_neg (by decide), t1]
  simp only [Option.bind_some]
  rw [if_pos h0, ef, if_neg (by omega), decide_eq_false (by omega), chalklinelaw15_TotalUnique.j1, if_neg (by decide), hAA, p1]
  simp only [Option.bind_some]
  have := loop (2 ^ F) 0 p 0 (K + 20000) (by omega) (by omega) rfl (fun _ _ _ => rfl) (by omega)
  rw [show ((0 : Nat) : Int) = 0 from rfl] at this
  rw [this, if_pos (by omega)]
  rfl

end Go.Proofs.Ytdkfhpgbiohhoaa.Pure
