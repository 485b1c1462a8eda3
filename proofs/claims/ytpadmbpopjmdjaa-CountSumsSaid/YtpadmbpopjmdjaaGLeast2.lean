/-
  count.Least where it lays clauses: the walk.
-/
import Derived.Test.YtpadmbpopjmdjaaGLeast
namespace Go.Proofs.Ytpadmbpopjmdjaa.G
set_option linter.unusedVariables false
set_option linter.unusedSimpArgs false
open Go.RowKit Go.Proofs.YtpadmbpopjmdjaaW.PrintWords Go.Proofs.YtpadmbpopjmdjaaW.PrintLast Go.Proofs.YtpadmbpopjmdjaaW.PrintMore
attribute [local go_sem] max2_int min2_int max_two min_two max_three min_three max_four min_four

/-- The register j of the row above row i. -/
def abv (next : Int) (k i : Nat) (j : Nat) : Int := if j ≤ min i k then next + sm k (i - 1) + j - 1 else 0

theorem regs_row {next : Int} {k i j : Nat} (hn : 1 ≤ next) (hs : next + sm k (i + 1) ≤ 65537) (h1 : 1 ≤ j) (h2 : j ≤ min (i + 1) k) : regs (next + sm k i) ((min (i + 1) k : Nat) : Int) j = next + sm k i + j - 1 := by
  have := sm_succ k i
  unfold regs
  rw [if_neg (by omega), if_neg (by omega)]
  unfold wrap64
  omega

theorem LB.Fr.come {t : LB} {w w1 wk : World} (h0 : t.S0 = w.heap.size) (hd : Below w.heap.size w w1) (hf : t.Fr w1 wk) : Below w.heap.size w wk :=
  hd.trans (by have := hf.below (by rw [h0]; exact hd.size); rwa [h0] at this)

theorem put_calls_d (t : LB) (arr : Array Value) (n : Nat) (ys : List Int) (v : Value) (cs : List (List Int)) (w : World) (hst : t.St w v cs) (hd : DelOk w.heap.size arr n ys) (hcs : cs.length < 4000000000000) :
    Calls Try.prog 28 #[.pointer (some ⟨t.bl, 0, none⟩), .slice (some ⟨w.heap.size, 0, none⟩) n n] (w.alloc (.cells arr 3 (0, 0))).drew fun e w' => e = .returned (.tuple #[]) ∧ ∃ v', t.St w' v' (cs ++ [ys]) ∧ t.Fr w w' := by
  have h := put_calls t arr n ys v cs w.drew hst.drew hd hcs
  have e1 : w.drew.heap.size = w.heap.size := rfl
  have e2 : w.drew.alloc (.cells arr 3 (0, 0)) = (w.alloc (.cells arr 3 (0, 0))).drew := rfl
  rw [e1, e2] at h
  refine h.mono ?_
  rintro e w' ⟨rfl, v', h1, h2⟩
  exact ⟨rfl, v', h1, (LB.Fr.refl t w).drew.trans h2⟩

theorem del_cl1 {next : Int} {k i j : Nat} {x A B : Int} (hn : 1 ≤ next) (hj : 1 ≤ j) (hx : x ≠ 0) (hA : A = next + sm k i + j - 1) (hB : abv next k i j = B) (g : Nat) : DelOk g #[.int .i64 (-A), .int .i64 B, .int .i64 x] 3 (cl1 next k i x j) := by
  subst hA
  unfold abv at hB
  unfold cl1
  by_cases h : j ≤ min i k
  · rw [if_pos h] at hB ⊢
    subst hB
    exact del3 g _ _ _ (by omega) (by omega) hx
  · rw [if_neg h] at hB ⊢
    subst hB
    exact del2 g _ _ (by omega) hx
theorem del_cl2 {next : Int} {k i j : Nat} {A B C : Int} (hn : 1 ≤ next) (hj : 2 ≤ j) (hj2 : j ≤ min (i + 1) k) (hA : A = next + sm k i + j - 1) (hB : abv next k i j = B) (hC : abv next k i (j - 1) = C) (g : Nat) : DelOk g #[.int .i64 (-A), .int .i64 B, .int .i64 C] 3 (cl2 next k i j) := by
  subst hA
  unfold abv at hB hC
  unfold cl2
  rw [if_pos (by omega)] at hC
  have hC' : next + (sm k (i - 1) : Int) + j - 2 = C := by omega
  rw [hC']
  have hC0 : C ≠ 0 := by omega
  by_cases h : j ≤ min i k
  · rw [if_pos h] at hB ⊢
    subst hB
    exact del3 g _ _ _ (by omega) (by omega) hC0
  · rw [if_neg h] at hB ⊢
    subst hB
    exact del2 g _ _ (by omega) hC0
theorem abv_bound {next : Int} {k i j : Nat} (hn : 1 ≤ next) (hj : 1 ≤ j) (hs : next + sm k i ≤ 65537) : 0 ≤ abv next k i j ∧ abv next k i j ≤ 65536 := by
  unfold abv
  split
  · rename_i h
    obtain ⟨m, rfl⟩ : ∃ m, i = m + 1 := ⟨i - 1, by omega⟩
    have := sm_succ k m
    rw [show m + 1 - 1 = m from rfl]
    omega
  · omega

set_option maxRecDepth 100000 in
set_option maxHeartbeats 4000000 in
theorem least_rows (A0 : Option Addr) (c0 : Nat) (l : List Int) (k : Nat) (next : Int) (w : World) (hr : Kd.C (Kd.int .i64) w A0 l.length l) (hc : l.length ≤ c0) (hr0 : ∀ W, Below w.heap.size w W → Calls Try.prog 27 #[.slice A0 l.length c0, .int .i64 next] W fun e w' => e = .returned (.int .i64 0) ∧ Below W.heap.size W w') (hl : l.length ≤ 4096) (hk : 1 ≤ k) (hk2 : k ≤ l.length) (hn1 : 1 ≤ next) (hn2 : next ≤ 65537)
    (hx : ∀ x ∈ l, x ≠ 0 ∧ -65537 < x ∧ x < 65537) (R : Nat) (hR : sm k l.length = R) (hb1 : ¬ 65536 < next + (R : Int) - 1) (hb2 : ¬ 65536 < 2 * (R : Int) - l.length + 1) :
    Calls Try.prog 13 #[.slice A0 l.length c0, .int .i64 k, .int .i64 next] w (LeastPost (leastCs next k l, next + sm k l.length, 0) w) := by
  have HC := Aside0.mk hr0
  have HR0 := Aside0.mk hr
  have HX := Aside0.mk hx
  have hreg := regs_eq hl hk hk2
  rw [hR] at hreg
  have HR := Aside0.mk hR
  clear hr0 hR hr hx
  go_enter Try.func13, Try.ntmps13
  go_wp2_with (first | (go_at_call 27; refine (HC.out _ (Below.refl _ _)).mono ?_; rintro e w1 ⟨rfl, hd⟩; have HD := Aside0.mk hd; clear hd) | (go_at_call 29; refine (row_calls 0 0 _).mono ?_; rintro e w2 ⟨p0, q0, rfl, hbp, hbq, hp0, hq0, hd⟩; have HP0 := Aside0.mk hp0; have HQ0 := Aside0.mk hq0; have HBP := Aside0.mk hbp; have HBQ := Aside0.mk hbq; have HD2 := Aside0.mk hd; clear hp0 hq0 hbp hbq hd))
  obtain ⟨t, ht0, ht1, ht2⟩ : ∃ t : LB, t.S0 = w.heap.size ∧ t.S = w1.heap.size + 1 ∧ t.bl = w1.heap.size := ⟨⟨_, _, _⟩, rfl, rfl, rfl⟩
  have hw1 := HD.out.size
  have hbp0 : w1.heap.size + 1 ≤ p0 := by have := HBP.out; simpa using this
  have hbq0 : w1.heap.size + 1 ≤ q0 := by have := HBQ.out; simpa using this
  have hsz : (w1.alloc (Obj.cells #[Value.slice none 0 0] 49)).heap.size = w1.heap.size + 1 := by simp
  have HS2 : Aside0 (t.St w2 (.slice none 0 0) (crows next k l 0)) := ⟨(LB.St.mk (by rw [ht2]; exact blk_new w1 _) (Kd.R_nil _ _ _ _ _) ⟨by omega, by omega⟩ (by omega) (by rw [hsz]; omega)).below HD2.out⟩
  have HF2 : Aside0 (t.Fr w1 w2) := ⟨(LB.Fr.of_below (below_alloc (Below.refl _ _) _)).trans (.of_below HD2.out)⟩
  have HT0 := Aside0.mk ht0
  have HB0 := Aside0.mk (show t.S ≤ p0 ∧ t.S ≤ q0 from ⟨by omega, by omega⟩)
  have HW1 := Aside0.mk hw1
  have HLT := Aside0.mk HS2.out.lt
  rw [← ht2]
  clear ht0 ht1 ht2 hsz hw1 hbp0 hbq0 HBP HBQ HD2 hreg
  have hm0 : (0 : Int) ≤ (sm k l.length : Int) := by omega
  clear hm0
  go_loopg [2, 14, 66] l.length (fun kq v2 v14 v66 wr => ∃ (i : Nat) (pb pm : Int) (p q : Nat) (v : Value), i ≤ l.length ∧ v66 = .int .i64 i ∧ v14 = .func (.func 49) #[] #[.pointer (some ⟨q, 0, none⟩), .pointer (some ⟨p, 0, none⟩)] ∧ v2 = .int .i64 (next + sm k i) ∧ Aside0 (kq + i = l.length) ∧
    Aside0 (wr.heap[p]? = some (.cells #[.int .i64 pb] 3 (0, 0)) ∧ wr.heap[q]? = some (.cells #[.int .i64 pm] 3 (0, 0)) ∧ t.S ≤ p ∧ t.S ≤ q) ∧ Aside0 (∀ j : Nat, 1 ≤ j → regs pb pm j = abv next k i j) ∧ Aside0 (t.St wr v (crows next k l i)) ∧ Aside0 (t.Fr w1 wr))
  case atStart =>
    refine ⟨0, 0, 0, p0, q0, _, by omega, rfl, rfl, ?_, ⟨by omega⟩, ⟨HP0.out, HQ0.out, HB0.out⟩, ⟨fun j hj => ?_⟩, HS2, HF2⟩
    · rw [show next + ((sm k 0 : Nat) : Int) = next from by show next + ((0 : Nat) : Int) = next; omega]
    · unfold regs abv
      rw [if_neg (by omega), if_pos (by omega), if_neg (by omega)]
  case round =>
    obtain ⟨i, pb, pm, p, q, v, hi, rfl, rfl, rfl, HN, HBX, HAB, HS, HF⟩ := hrel
    by_cases hlt : i < l.length
    · obtain ⟨M, hM⟩ : ∃ M, min (i + 1) k = M := ⟨_, rfl⟩
      have hM1 : 1 ≤ M := by omega
      have hM2 : M ≤ k := by omega
      have hmin : (if (k : Int) < (i : Int) + 1 then (k : Int) else (i : Int) + 1) = (M : Int) := by split <;> omega
      have hmin2 : (if (i : Int) + 1 < (k : Int) then (i : Int) + 1 else (k : Int)) = (M : Int) := by split <;> omega
      obtain ⟨sI, hsI⟩ : ∃ sI, sm k i = sI := ⟨_, rfl⟩
      have hs1 := sm_succ k i
      have hs2 := sm_mono (k := k) (show i + 1 ≤ l.length from hlt)
      rw [HR.out] at hs2
      rw [hM, hsI] at hs1
      have hb3 : next + (sI : Int) + M ≤ 65537 := by omega
      have HM := Aside0.mk hM
      have HSI := Aside0.mk hsI
      rw [hsI]
      clear hM hsI hs1 hs2
      go_wp2_with (first | (go_at_call 29; refine (row_calls _ _ _).mono ?_; rintro e w3 ⟨p2, q2, rfl, hbp2, hbq2, hp2, hq2, hd3⟩; have HBX2 := Aside0.mk (And.intro hbp2 hbq2); have HP2 := Aside0.mk hp2; have HQ2 := Aside0.mk hq2; have HD3 := Aside0.mk hd3; clear hp2 hq2 hbp2 hbq2 hd3))
      obtain ⟨ad, e0, hcell⟩ := Kd.at_int HR0.out (i : Int) (by omega) (by omega)
      cases e0
      obtain ⟨x, hxe⟩ : ∃ x, l.getD i 0 = x := ⟨_, rfl⟩
      rw [show rd l (i : Int) = x from by simpa [rd] using hxe, Int.toNat_natCast] at hcell
      have hxm := HX.out x (by rw [← hxe]; simp [List.getD_eq_getElem?_getD, hlt])
      have HXE := Aside0.mk hxe
      have HXM := Aside0.mk hxm
      have hx1 := hxm.2.1
      have hx2 := hxm.2.2
      have HCE := Aside0.mk hcell
      have HAB2 := Aside0.mk HP2.out
      have HF3 := Aside0.mk (HF.out.trans (.of_below HD3.out))
      have HS3 := Aside0.mk (HS.out.below HD3.out)
      have HBX3 := Aside0.mk (And.intro (blk_below HBX.out.1 HD3.out) (blk_below HBX.out.2.1 HD3.out))
      have HBS := Aside0.mk (And.intro (HBX.out.2.2.1) (HBX.out.2.2.2))
      have HBS2 := Aside0.mk (show t.S ≤ p2 ∧ t.S ≤ q2 from ⟨Nat.le_trans HS.out.size HBX2.out.1, Nat.le_trans HS.out.size HBX2.out.2⟩)
      clear hcell hxe hxm HD3 HBX HBX2 hmin hmin2
      obtain ⟨wo, rfl⟩ : ∃ wo : World, wo = wr := ⟨_, rfl⟩
      obtain ⟨g6, rfl⟩ : ∃ g6 : Nat, g6 = gk := ⟨_, rfl⟩
      go_loopg [18] M (fun kq2 v18 wk => ∃ (j : Nat) (v' : Value), 1 ≤ j ∧ j ≤ M + 1 ∧ v18 = .int .i64 j ∧ Aside0 (kq2 + j = M + 1) ∧ Aside0 (t.St wk v' (crows next k l i ++ crow next k i x (j - 1))) ∧ Aside0 (t.Fr w3 wk))
      case atStart => exact ⟨1, v, by omega, by omega, rfl, ⟨rfl⟩, ⟨by show t.St w3 v (crows next k l i ++ []); rw [List.append_nil]; exact HS3.out⟩, ⟨.refl _ _⟩⟩
      case round =>
        obtain ⟨j, v', hj1, hj2, rfl, HN2, HSK, HFK⟩ := hrel
        by_cases hjM : j ≤ M
        · have hb4 : next + (sI : Int) + j - 1 ≤ 65536 := by omega
          obtain ⟨A, hA⟩ : ∃ A, next + (sI : Int) + (j : Int) - 1 = A := ⟨_, rfl⟩
          have hA1 : 1 ≤ A := by omega
          have hA2 : A ≤ 65536 := by omega
          obtain ⟨B, hB⟩ : ∃ B, abv next k i j = B := ⟨_, rfl⟩
          have hBB := abv_bound (k := k) (i := i) hn1 hj1 (by rw [HSI.out]; omega)
          rw [hB] at hBB
          have hB1 := hBB.1
          have hB2 := hBB.2
          have bne : t.bl < t.S := HLT.out
          have HHE := Aside0.mk (fun W (h : t.Fr w3 W) => row1_calls (next + sI) M j p2 q2 W (h.box HP2.out (by have := HBS2.out.1; omega)) (h.box HQ2.out (by have := HBS2.out.2; omega)))
          rw [show regs (next + (sI : Int)) (M : Int) (j : Int) = A from by rw [← hA, ← HSI.out, ← HM.out]; exact regs_row hn1 (by rw [sm_succ, HM.out, HSI.out]; omega) hj1 (by rw [HM.out]; exact hjM)] at HHE
          have HAE := Aside0.mk (fun W (h : t.Fr w3 W) => row1_calls pb pm j p q W (h.box HBX3.out.1 (by have := HBS.out.1; omega)) (h.box HBX3.out.2 (by have := HBS.out.2; omega)))
          rw [HAB.out j hj1, hB] at HAE
          have HDE := Aside0.mk (fun g => del_cl1 (A := A) (x := x) (k := k) (i := i) hn1 hj1 HXM.out.1 (by rw [HSI.out]; exact hA.symm) hB g)
          have hcx := pw_cell_below (LB.Fr.come HT0.out HD.out (HF3.out.trans HFK.out)) HCE.out
          have HLN := Aside0.mk (show (crows next k l i ++ crow next k i x (j - 1)).length < 4000000000000 from by have c1 := crows_len next hk l i; have c2 := crow_len next k i x (j - 1); rw [HSI.out] at c1; rw [List.length_append, c2]; omega)
          have HA := Aside0.mk hA
          have HBB := Aside0.mk hB
          clear hA hB hBB hb4 bne
          go_upto_region 22 with (fail)
          go_cut [] from 76 to 110 (fun wx => ∃ v'', Aside0 (t.St wx v'' (crows next k l i ++ crow next k i x (j - 1) ++ [cl1 next k i x j])) ∧ Aside0 (t.Fr w3 wx))
          case first =>
            have hxd : wr.drew.cell? (ad.add i) = some (.int .i64 x) := hcx
            have hwA : IntKind.i64.wrap (-A) = -A := IntWalk.i64_in _ (by omega)
            go_region_held3 (fun W => W.cell? (ad.add i) = some (.int .i64 x)) (first | exact hxd | exact pw_cell_below (below_alloc (Below.refl _ _) _) hxd | assumption) (first | (go_at_call_of 49 (Value.pointer (some ⟨q2, 0, none⟩)); refine (HHE.out _ (by exact HFK.out.drew)).mono ?_; rintro e w4 ⟨rfl, rfl⟩) | (go_at_call_of 49 (Value.pointer (some ⟨q, 0, none⟩)); refine (HAE.out _ (by exact HFK.out.drew)).mono ?_; rintro e w4 ⟨rfl, rfl⟩) | (go_at_call 28; refine (put_calls_d t _ 3 _ v' _ wr HSK.out (HDE.out _) HLN.out).mono ?_; rintro e w5 ⟨rfl, v5, hst5, hfr5⟩; have HS5 := Aside0.mk hst5; have HF5 := Aside0.mk (HFK.out.trans hfr5); have hx5 : w5.cell? (ad.add i) = some (.int .i64 x) := pw_cell_below (LB.Fr.come HT0.out HD.out (HF3.out.trans HF5.out)) HCE.out; clear hst5 hfr5))
            go_wp2
            go_meet
            case rel => exact ⟨v5, HS5, HF5⟩
          case rest =>
            obtain ⟨v5, HS5, HF5⟩ := hcut
            by_cases hj3 : 1 < j
            · obtain ⟨C, hC⟩ : ∃ C, abv next k i (j - 1) = C := ⟨_, rfl⟩
              have hCB := abv_bound (k := k) (i := i) hn1 (show 1 ≤ j - 1 by omega) (by rw [HSI.out]; omega)
              rw [hC] at hCB
              have hC1 := hCB.1
              have hC2 := hCB.2
              have bne : t.bl < t.S := HLT.out
              have HCE2 := Aside0.mk (fun W (h : t.Fr w3 W) => row1_calls pb pm (j - 1) p q W (h.box HBX3.out.1 (by have := HBS.out.1; omega)) (h.box HBX3.out.2 (by have := HBS.out.2; omega)))
              rw [show ((j : Int) - 1) = ((j - 1 : Nat) : Int) from by omega, HAB.out (j - 1) (by omega), hC, show ((j - 1 : Nat) : Int) = (j : Int) - 1 from by omega] at HCE2
              have HDE2 := Aside0.mk (fun g => del_cl2 (A := A) (k := k) (i := i) hn1 hj3 (by rw [HM.out]; exact hjM) (by rw [HSI.out]; exact HA.out.symm) HBB.out hC g)
              have HLN2 := Aside0.mk (show (crows next k l i ++ crow next k i x (j - 1) ++ [cl1 next k i x j]).length < 4000000000000 from by have c1 := crows_len next hk l i; have c2 := crow_len next k i x (j - 1); rw [HSI.out] at c1; rw [List.length_append, List.length_append, c2, List.length_singleton]; omega)
              clear hC hCB bne
              go_wp2_with fail
              refine (HHE.out _ (by exact HF5.out)).mono ?_
              rintro e w4 ⟨rfl, rfl⟩
              go_wp2_with fail
              refine (HAE.out _ (by exact HF5.out)).mono ?_
              rintro e w4 ⟨rfl, rfl⟩
              go_wp2_with fail
              refine (HCE2.out _ (by exact HF5.out)).mono ?_
              rintro e w4 ⟨rfl, rfl⟩
              go_wp2_with fail
              refine (put_calls t _ 3 _ v5 _ wc HS5.out (HDE2.out _) HLN2.out).mono ?_
              rintro e w5 ⟨rfl, v6, hst6, hfr6⟩
              have HS6 := Aside0.mk hst6
              have HF6 := Aside0.mk (HF5.out.trans hfr6)
              clear hst6 hfr6
              go_wp2
              go_roundg (gk - 1)
              case measure => have := HN2.out; omega
              case rel =>
                refine ⟨j + 1, v6, by omega, by omega, by go_num, ⟨by have := HN2.out; omega⟩, ⟨?_⟩, HF6⟩
                have h_ := HS6.out
                obtain ⟨m, rfl⟩ : ∃ m, j = m + 1 := ⟨j - 1, by omega⟩
                rw [show m + 1 - 1 = m from rfl] at h_
                show t.St _ v6 (crows next k l i ++ (crow next k i x m ++ cl12 next k i x (m + 1)))
                unfold cl12
                rw [if_pos hj3]
                simpa only [List.append_assoc, List.cons_append, List.nil_append] using h_
            · go_wp2
              go_roundg (gk - 1)
              case measure => have := HN2.out; omega
              case rel =>
                refine ⟨j + 1, v5, by omega, by omega, by go_num, ⟨by have := HN2.out; omega⟩, ⟨?_⟩, HF5⟩
                have h_ := HS5.out
                obtain ⟨m, rfl⟩ : ∃ m, j = m + 1 := ⟨j - 1, by omega⟩
                rw [show m + 1 - 1 = m from rfl] at h_
                show t.St _ v5 (crows next k l i ++ (crow next k i x m ++ cl12 next k i x (m + 1)))
                unfold cl12
                rw [if_neg hj3]
                simpa only [List.append_assoc, List.cons_append, List.nil_append] using h_
        · have hjj : j = M + 1 := by omega
          go_wp2
          go_roundg (g6 - 1)
          case measure => have := HN.out; omega
          case rel =>
            have bne : t.bl < t.S := HLT.out
            refine ⟨i + 1, next + sI, M, p2, q2, v', by omega, by go_num, rfl, ?_, ⟨by have := HN.out; omega⟩, ⟨HFK.out.box HP2.out (by have := HBS2.out.1; omega), HFK.out.box HQ2.out (by have := HBS2.out.2; omega), HBS2.out.1, HBS2.out.2⟩, ⟨fun j hj => ?_⟩, ⟨?_⟩, ⟨HF3.out.trans HFK.out⟩⟩
            · rw [sm_succ, HM.out, HSI.out]
              congr 1
              omega
            · have e1 := HM.out
              have e2 := HSI.out
              by_cases h : j ≤ M
              · have h3 := regs_row (k := k) (i := i) (j := j) hn1 (by rw [sm_succ, HM.out, HSI.out]; omega) hj (by omega)
                rw [e1, e2] at h3
                rw [h3]
                unfold abv
                rw [if_pos (by omega), show i + 1 - 1 = i from rfl, e2]
              · unfold regs abv
                rw [if_neg (by omega), if_pos (by omega), if_neg (by omega)]
            · have h_ := HSK.out
              rw [hjj, show M + 1 - 1 = M from rfl, ← HXE.out, ← HM.out] at h_
              exact h_
    · have hii : i = l.length := by omega
      subst hii
      have bne : t.bl < t.S := HLT.out
      obtain ⟨E, hE⟩ : ∃ E, next + (sm k (l.length - 1) : Int) + k - 1 = E := ⟨_, rfl⟩
      have hE0 : E ≠ 0 := by omega
      have hAk := HAB.out k hk
      unfold abv at hAk
      rw [if_pos (by omega), hE] at hAk
      have HEE := Aside0.mk (fun W (h : t.Fr wr W) => row1_calls pb pm k p q W (h.box HBX.out.1 (by have := HBX.out.2.2.1; omega)) (h.box HBX.out.2.1 (by have := HBX.out.2.2.2; omega)))
      rw [hAk] at HEE
      have HDE := Aside0.mk (fun g => del1 g E hE0)
      have HLN := Aside0.mk (show (crows next k l l.length).length < 4000000000000 from by have c1 := crows_len next hk l l.length; rw [HR.out] at c1; omega)
      have HE := Aside0.mk hE
      clear hE hE0 hAk bne
      go_wp2_with fail
      refine (HEE.out _ (by exact .refl _ _)).mono ?_
      rintro e w4 ⟨rfl, rfl⟩
      go_wp2_with fail
      refine (put_calls t _ 1 _ v _ wr HS.out (HDE.out _) HLN.out).mono ?_
      rintro e w5 ⟨rfl, v6, hst6, hfr6⟩
      have HS6 := Aside0.mk hst6
      have HF6 := Aside0.mk (HF.out.trans hfr6)
      have hcc := blk_cell HS6.out.c 0
      clear hst6 hfr6
      go_wp2
      go_ret3
      refine ⟨v6, rfl, ?_, LB.Fr.come HT0.out HD.out HF6.out⟩
      have h_ := HS6.out.rows
      rw [← HE.out] at h_
      exact Kd.R_mono (Kd.R_lower (Kd.R_bound h_) (by have := HS6.out.ge.2; rw [HT0.out] at this; exact this)) (fun k hk => by have := hk.2.1; have := HS6.out.ge.2; rw [HT0.out] at this; omega)

#print axioms least_rows

end Go.Proofs.Ytpadmbpopjmdjaa.G
