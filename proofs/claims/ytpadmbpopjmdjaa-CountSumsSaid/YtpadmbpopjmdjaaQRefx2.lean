-- Printed for this seat by a program of this session (wip/tools/give.py).
import Derived.Test.YtpadmbpopjmdjaaQRefx0
import Derived.Test.YtpadmbpopjmdjaaQRefx1
namespace Go.Proofs.Ytpadmbpopjmdjaa.QRef
open Go.RowKit Go.Proofs.YtpadmbpopjmdjaaW.PrintWords Go.Proofs.YtpadmbpopjmdjaaW.PrintLast Go.Proofs.YtpadmbpopjmdjaaW.PrintMore
attribute [local go_sem] max2_int min2_int max_two min_two max_three min_three max_four min_four   -- for this text's walks alone
set_option linter.unusedVariables false
set_option linter.unusedSimpArgs false

/-! ### chalklineref16_Least: function 14 -/
mutual
def chalklineref16_Least.l0 : Nat → List Int → Int → Int → Int → Int → Int → Option ((List (List Int)) × Int × Int)
  | 0, _, _, _, _, _, _ => none
  | k + 1, x0, x1, x2, x10, x11, x12 => if x12 ≤ x10 then (chalklineref16_Least.l0 k x0 x1 x2 x10 (wrap64 (x11 + (mn x12 x1))) (wrap64 (x12 + 1))) else (if x11 > 65536 then (some (([] : List (List Int)), 0, 2)) else (chalklineref16_Least.l1 k x0 x1 x10 ([] : List (List Int)) x2 0 1))
def chalklineref16_Least.l1 : Nat → List Int → Int → Int → List (List Int) → Int → Int → Int → Option ((List (List Int)) × Int × Int)
  | 0, _, _, _, _, _, _, _ => none
  | k + 1, x0, x1, x10, x13, x14, x15, x16 => if x16 ≤ x10 then (chalklineref16_Least.l2 k x0 x1 x10 x13 x14 x15 x16 1) else (if x13.length < 5864062014805 then ((some (x13 ++ [(([wrap64 ((wrap64 (x15 + x1)) - 1)] : List Int))] : List (List Int))).bind fun y124 => (if (y124.length : Int) > 65536 then (some (([] : List (List Int)), 0, 2)) else (some (y124, x14, 0)))) else (none))
def chalklineref16_Least.l2 : Nat → List Int → Int → Int → List (List Int) → Int → Int → Int → Int → Option ((List (List Int)) × Int × Int)
  | 0, _, _, _, _, _, _, _, _ => none
  | k + 1, x0, x1, x10, x13, x14, x15, x16, x17 => if x17 ≤ (mn x16 x1) then ((some (([wrap64 (-(wrap64 ((wrap64 (x14 + x17)) - 1)))] : List Int) : List Int)).bind fun y127 => ((some (([wrap64 (-(wrap64 ((wrap64 (x14 + x17)) - 1)))] : List Int) : List Int)).bind fun y130 => (if x17 ≤ (mn (wrap64 (x16 - 1)) x1) then (if y127.length < 17592186044416 then ((some (y127 ++ [wrap64 ((wrap64 (x15 + x17)) - 1)] : List Int)).bind fun y133 => (if y130.length < 17592186044416 then ((some (y130 ++ [wrap64 ((wrap64 (x15 + x17)) - 1)] : List Int)).bind fun y136 => (if 0 ≤ (wrap64 (x16 - 1)) then (if (wrap64 (x16 - 1)) < (x0.length : Int) then (if y133.length < 17592186044416 then (if x13.length < 5864062014805 then ((some (x13 ++ [(y133 ++ [rd x0 (wrap64 (x16 - 1))])] : List (List Int))).bind fun y143 => (if x17 ≥ 2 then (if y136.length < 17592186044416 then (if y143.length < 5864062014805 then (chalklineref16_Least.l2 k x0 x1 x10 (y143 ++ [(y136 ++ [wrap64 ((wrap64 (x15 + x17)) - 2)])]) x14 x15 x16 (wrap64 (x17 + 1))) else (none)) else (none)) else (chalklineref16_Least.l2 k x0 x1 x10 y143 x14 x15 x16 (wrap64 (x17 + 1))))) else (none)) else (none)) else (none)) else (none))) else (none))) else (none)) else (if 0 ≤ (wrap64 (x16 - 1)) then (if (wrap64 (x16 - 1)) < (x0.length : Int) then (if y127.length < 17592186044416 then (if x13.length < 5864062014805 then ((some (x13 ++ [(y127 ++ [rd x0 (wrap64 (x16 - 1))])] : List (List Int))).bind fun y156 => (if x17 ≥ 2 then (if y130.length < 17592186044416 then (if y156.length < 5864062014805 then (chalklineref16_Least.l2 k x0 x1 x10 (y156 ++ [(y130 ++ [wrap64 ((wrap64 (x15 + x17)) - 2)])]) x14 x15 x16 (wrap64 (x17 + 1))) else (none)) else (none)) else (chalklineref16_Least.l2 k x0 x1 x10 y156 x14 x15 x16 (wrap64 (x17 + 1))))) else (none)) else (none)) else (none)) else (none))))) else (chalklineref16_Least.l1 k x0 x1 x10 x13 (wrap64 (x14 + (mn x16 x1))) x14 (wrap64 (x16 + 1)))
end
def chalklineref16_Least.f (k : Nat) (l0 : List Int) (a1 : Int) (a2 : Int) : Option ((List (List Int)) × Int × Int) := (chalklineref16_lits.f k l0 a2).bind fun t114 => (if t114 = 0 then (if a1 ≤ 0 then (some (([] : List (List Int)), a2, 0)) else (if a1 > (l0.length : Int) then (some ((([(([] : List Int))] : List (List Int))), a2, 0)) else (chalklineref16_Least.l0 k l0 a1 a2 (l0.length : Int) (wrap64 (a2 - 1)) 1))) else (some (([] : List (List Int)), 0, t114)))
theorem chalklineref16_Least.mono_l : ∀ k, (∀ y0 y1 y2 y3 y4 y5, LeO (chalklineref16_Least.l0 k y0 y1 y2 y3 y4 y5) (chalklineref16_Least.l0 (k + 1) y0 y1 y2 y3 y4 y5)) ∧ (∀ y0 y1 y2 y3 y4 y5 y6, LeO (chalklineref16_Least.l1 k y0 y1 y2 y3 y4 y5 y6) (chalklineref16_Least.l1 (k + 1) y0 y1 y2 y3 y4 y5 y6)) ∧ (∀ y0 y1 y2 y3 y4 y5 y6 y7, LeO (chalklineref16_Least.l2 k y0 y1 y2 y3 y4 y5 y6 y7) (chalklineref16_Least.l2 (k + 1) y0 y1 y2 y3 y4 y5 y6 y7))
  | 0 => ⟨fun _ _ _ _ _ _ r h => by simp [chalklineref16_Least.l0] at h, fun _ _ _ _ _ _ _ r h => by simp [chalklineref16_Least.l1] at h, fun _ _ _ _ _ _ _ _ r h => by simp [chalklineref16_Least.l2] at h⟩
  | k + 1 => by
    obtain ⟨ih0, ih1, ih2⟩ := chalklineref16_Least.mono_l k
    refine ⟨?_, ?_, ?_⟩
    · intro y0 y1 y2 y3 y4 y5
      unfold chalklineref16_Least.l0
      repeat' first
      | (with_reducible exact ih0 _ _ _ _ _ _)
      | (with_reducible exact ih1 _ _ _ _ _ _ _)
      | (with_reducible exact ih2 _ _ _ _ _ _ _ _)
      | (with_reducible exact chalklineref16_lits.mono _ _ _)
      | (with_reducible exact LeO.refl _)
      | (with_reducible exact LeO.none _)
      | (with_reducible refine LeO.ite ?_ ?_)
      | (with_reducible refine LeO.bind ?_ (fun _ => ?_))
      | exact ih0 _ _ _ _ _ _
      | exact ih1 _ _ _ _ _ _ _
      | exact ih2 _ _ _ _ _ _ _ _
      | exact chalklineref16_lits.mono _ _ _
      | exact LeO.none _
      | refine LeO.ite ?_ ?_
      | refine LeO.bind ?_ (fun _ => ?_)
    · intro y0 y1 y2 y3 y4 y5 y6
      unfold chalklineref16_Least.l1
      repeat' first
      | (with_reducible exact ih0 _ _ _ _ _ _)
      | (with_reducible exact ih1 _ _ _ _ _ _ _)
      | (with_reducible exact ih2 _ _ _ _ _ _ _ _)
      | (with_reducible exact chalklineref16_lits.mono _ _ _)
      | (with_reducible exact LeO.refl _)
      | (with_reducible exact LeO.none _)
      | (with_reducible refine LeO.ite ?_ ?_)
      | (with_reducible refine LeO.bind ?_ (fun _ => ?_))
      | exact ih0 _ _ _ _ _ _
      | exact ih1 _ _ _ _ _ _ _
      | exact ih2 _ _ _ _ _ _ _ _
      | exact chalklineref16_lits.mono _ _ _
      | exact LeO.none _
      | refine LeO.ite ?_ ?_
      | refine LeO.bind ?_ (fun _ => ?_)
    · intro y0 y1 y2 y3 y4 y5 y6 y7
      unfold chalklineref16_Least.l2
      repeat' first
      | (with_reducible exact ih0 _ _ _ _ _ _)
      | (with_reducible exact ih1 _ _ _ _ _ _ _)
      | (with_reducible exact ih2 _ _ _ _ _ _ _ _)
      | (with_reducible exact chalklineref16_lits.mono _ _ _)
      | (with_reducible exact LeO.refl _)
      | (with_reducible exact LeO.none _)
      | (with_reducible refine LeO.ite ?_ ?_)
      | (with_reducible refine LeO.bind ?_ (fun _ => ?_))
      | exact ih0 _ _ _ _ _ _
      | exact ih1 _ _ _ _ _ _ _
      | exact ih2 _ _ _ _ _ _ _ _
      | exact chalklineref16_lits.mono _ _ _
      | exact LeO.none _
      | refine LeO.ite ?_ ?_
      | refine LeO.bind ?_ (fun _ => ?_)
theorem chalklineref16_Least.mono : ∀ a0 a1 a2 k, LeO (chalklineref16_Least.f k a0 a1 a2) (chalklineref16_Least.f (k + 1) a0 a1 a2) := by
  intro a0 a1 a2 k
  obtain ⟨ih0, ih1, ih2⟩ := chalklineref16_Least.mono_l k
  unfold chalklineref16_Least.f
  repeat' first
      | (with_reducible exact ih0 _ _ _ _ _ _)
      | (with_reducible exact ih1 _ _ _ _ _ _ _)
      | (with_reducible exact ih2 _ _ _ _ _ _ _ _)
      | (with_reducible exact chalklineref16_lits.mono _ _ _)
      | (with_reducible exact LeO.refl _)
      | (with_reducible exact LeO.none _)
      | (with_reducible refine LeO.ite ?_ ?_)
      | (with_reducible refine LeO.bind ?_ (fun _ => ?_))
      | exact ih0 _ _ _ _ _ _
      | exact ih1 _ _ _ _ _ _ _
      | exact ih2 _ _ _ _ _ _ _ _
      | exact chalklineref16_lits.mono _ _ _
      | exact LeO.none _
      | refine LeO.ite ?_ ?_
      | refine LeO.bind ?_ (fun _ => ?_)
set_option maxHeartbeats 8000000 in
set_option maxRecDepth 100000 in
theorem chalklineref16_Least.calls (k : Nat) (A0 : Option Addr) (c0 : Nat) (l0 : List Int) (a1 : Int) (a2 : Int) (r1 : List (List Int)) (r2 : Int) (r3 : Int) (w : World) (hr0 : Kd.C (Kd.int .i64) w A0 l0.length l0) (hc0 : l0.length ≤ c0) (h : chalklineref16_Least.f k l0 a1 a2 = some (r1, r2, r3)) :
    Calls Try.prog 14 #[.slice A0 l0.length c0, .int .i64 a1, .int .i64 a2] w fun e w' => ∃ v0_ : Value, e = .returned (.tuple #[v0_, .int .i64 r2, .int .i64 r3]) ∧ Kd.N (Kd.slice 3 (Kd.int .i64)) 22 w' w.heap.size (fun k_ => (w.heap.size ≤ k_)) v0_ r1 ∧ Below w.heap.size w w' := by
  have HR0 := Aside0.mk hr0
  have HC0 := Aside0.mk hc0
  clear hr0 hc0
  have HB := Aside0.mk (Below.refl w.heap.size w)
  have H : ((chalklineref16_lits.f k l0 a2).bind fun t114 => (if t114 = 0 then (if a1 ≤ 0 then (some (([] : List (List Int)), a2, 0)) else (if a1 > (l0.length : Int) then (some ((([(([] : List Int))] : List (List Int))), a2, 0)) else (chalklineref16_Least.l0 k l0 a1 a2 (l0.length : Int) (wrap64 (a2 - 1)) 1))) else (some (([] : List (List Int)), 0, t114)))) = some (r1, r2, r3) := h
  clear h
  replace H := Option.bind_eq_some_iff.mp H
  obtain ⟨t114, A40, H⟩ := H
  replace H : (if t114 = 0 then (if a1 ≤ 0 then (some (([] : List (List Int)), a2, 0)) else (if a1 > (l0.length : Int) then (some ((([(([] : List Int))] : List (List Int))), a2, 0)) else (chalklineref16_Least.l0 k l0 a1 a2 (l0.length : Int) (wrap64 (a2 - 1)) 1))) else (some (([] : List (List Int)), 0, t114))) = some (r1, r2, r3) := H
  have A4 := Aside0.mk A40
  clear A40
  by_cases c5 : t114 = 0
  · rw [if_pos c5] at H
    have c5b0 : (t114 == 0) = true := beq_iff_eq.mpr c5
    have c5b1 : (t114 != 0) = false := bne_eq_false_iff_eq.mpr c5
    clear c5
    by_cases c6 : a1 ≤ 0
    · rw [if_pos c6] at H
      have c6b0 : decide (a1 ≤ 0) = true := decide_eq_true c6
      clear c6
      simp only [Option.some.injEq, Prod.mk.injEq] at H
      obtain ⟨rfl, rfl, rfl⟩ := H
      go_enter Try.func14, Try.ntmps14
      go_wp2_with (first | ((with_reducible refine gate_callee (f := 30) rfl ?_); refine goesL_ (some 23) rfl rfl Try.func30 (by kernel_rfl) rfl #[.slice A0 l0.length c0, .int .i64 a2] rfl (by (try simp only [List.map_toArray, List.map_cons, List.map_nil]); first | done | rfl | (simp only [List.length_drop, List.length_take]; rfl)) ?_; (with_reducible refine (chalklineref16_lits.calls k _ _ l0 a2 t114 _ ?side1 ?side2 A4.out).mono ?_); (case side1 => repeat (first | exact HR0.out | (with_reducible refine Kd.C_alloc ?_ _) | (with_reducible refine Kd.C_drewN ?_ _) | (with_reducible refine Kd.C_drew ?_))); (case side2 => exact HC0.out); rintro e w7 ⟨rfl, hb⟩; refine ⟨_, rfl, ?_⟩; have n0_ := Aside0.mk (below_step (by repeat (first | (with_reducible first | exact HB.out | apply below_alloc | apply pw_below_drewN | apply below_drew1) | exact HB.out)) hb); clear HB; have HB := n0_; clear n0_; (try clear hb); (try clear hb2); (try clear hk); (try clear hi)))
      go_ret3
      exact ⟨_, by first | rfl | (simp [errW_none, errW_some] <;> rfl) | (simp [*, errW_none, errW_some] <;> rfl), by first | exact Kd.S_nil _ _ _ _ _ | exact Kd.N_nil _ _ _ _ _ | exact Kd.V_nil _ _ _ _ _ | exact Kd.Q_nil _ _ _ _ _ | exact Kd.R_nil _ _ _ _ _, by repeat (first | (with_reducible first | exact HB.out | apply below_alloc | apply pw_below_drewN | apply below_drew1) | exact HB.out)⟩
    · rw [if_neg c6] at H
      have c6b0 : decide (a1 ≤ 0) = false := decide_eq_false c6
      clear c6
      by_cases c8 : a1 > (l0.length : Int)
      · rw [if_pos c8] at H
        have c8b0 : decide ((l0.length : Int) < a1) = true := decide_eq_true c8
        clear c8
        obtain ⟨y115, hy115⟩ : ∃ y_ : List Int, y_ = (([] : List Int)) := ⟨_, rfl⟩
        replace H : (some ((([y115] : List (List Int))), a2, 0)) = some (r1, r2, r3) := by first | (rw [hy115]; with_reducible exact H) | (have H2_ := (Option.bind_some _ _).symm.trans H; rw [hy115]; with_reducible exact H2_) | (have H2_ := (Option.bind_some _ _).symm.trans H; with_reducible exact H2_) | with_reducible exact H | (rw [hy115]; exact H) | exact H
        have Ny115 := Aside0.mk hy115
        clear hy115
        obtain ⟨y118, hy118⟩ : ∃ y_ : List (List Int), y_ = (([y115] : List (List Int))) := ⟨_, rfl⟩
        replace H : (some (y118, a2, 0)) = some (r1, r2, r3) := by first | (rw [hy118]; with_reducible exact H) | (have H2_ := (Option.bind_some _ _).symm.trans H; rw [hy118]; with_reducible exact H2_) | (have H2_ := (Option.bind_some _ _).symm.trans H; with_reducible exact H2_) | with_reducible exact H | (rw [hy118]; exact H) | exact H
        have Ny118 := Aside0.mk hy118
        clear hy118
        simp only [Option.some.injEq, Prod.mk.injEq] at H
        obtain ⟨rfl, rfl, rfl⟩ := H
        go_enter Try.func14, Try.ntmps14
        go_wp2_with (first | ((with_reducible refine gate_callee (f := 30) rfl ?_); refine goesL_ (some 23) rfl rfl Try.func30 (by kernel_rfl) rfl #[.slice A0 l0.length c0, .int .i64 a2] rfl (by (try simp only [List.map_toArray, List.map_cons, List.map_nil]); first | done | rfl | (simp only [List.length_drop, List.length_take]; rfl)) ?_; (with_reducible refine (chalklineref16_lits.calls k _ _ l0 a2 t114 _ ?side1 ?side2 A4.out).mono ?_); (case side1 => repeat (first | exact HR0.out | (with_reducible refine Kd.C_alloc ?_ _) | (with_reducible refine Kd.C_drewN ?_ _) | (with_reducible refine Kd.C_drew ?_))); (case side2 => exact HC0.out); rintro e w9 ⟨rfl, hb⟩; refine ⟨_, rfl, ?_⟩; have n0_ := Aside0.mk (below_step (by repeat (first | (with_reducible first | exact HB.out | apply below_alloc | apply pw_below_drewN | apply below_drew1) | exact HB.out)) hb); clear HB; have HB := n0_; clear n0_; (try clear hb); (try clear hb2); (try clear hk); (try clear hi)) | ((with_reducible refine gate_dst (N := 35) rfl ?_); refine Kd.R_lit (Kd.int .i64) _ 3 ?hg (N := 35) ?hd (xs := ([] : List Int)) (inner := []) (ok := fun _ => True) (okp := fun _ => True) ?hr ?hp (fun _ hk => hk) trivial (Below.refl _ _) (Nat.le_refl _) (by simp) ?_; (case hd => rfl); (case hg => rfl); (case hr => first | (go_simp; done) | (go_simp; rfl)); (case hp => exact (Reps.none _ _)); intro v116 w10 ho11 hb hg_ hnew_; clear hg_ hnew_; (first | rw [← Ny115.out] at ho11 | (simp only [Int.reduceToNat] at ho11; rw [← Ny115.out] at ho11)); have n0_ := Aside0.mk (Kd.R_lower (Kd.R_newM (M := fun k_ => (w.heap.size ≤ k_)) ho11 (below_size (by repeat (first | (with_reducible first | exact HB.out | apply below_alloc | apply pw_below_drewN | apply below_drew1) | exact HB.out))) (fun k_ h_ => h_)) (below_size (by repeat (first | (with_reducible first | exact HB.out | apply below_alloc | apply pw_below_drewN | apply below_drew1) | exact HB.out)))); have n1_ := Aside0.mk (below_step (by repeat (first | (with_reducible first | exact HB.out | apply below_alloc | apply pw_below_drewN | apply below_drew1) | exact HB.out)) hb); clear HB; have HO117 := n0_; have HB := n1_; clear n0_ n1_; clear hb ho11; obtain ⟨Ao12, co12, eo12⟩ := Kd.R_slice HO117.out; subst eo12) | ((with_reducible refine gate_dst (N := 36) rfl ?_); refine Kd.N_lit (Kd.slice 3 (Kd.int .i64)) _ 22 ?hg (N' := 36) ?hd (xs := ([y115] : List (List Int))) (inner := [.slice Ao12 y115.length co12]) (ok := (fun k_ => (w.heap.size ≤ k_))) (okp := (fun k_ => (w.heap.size ≤ k_))) ?hr ?hp (fun _ hk => hk) ((show ∀ k_, w10.heap.size ≤ k_ → (fun k_ => (w.heap.size ≤ k_)) k_ from fun k_ hk => (Nat.le_trans (below_size (by repeat (first | (with_reducible first | exact HB.out | apply below_alloc | apply pw_below_drewN | apply below_drew1) | exact HB.out))) hk)) _ (Nat.le_refl _)) (Below.refl _ _) (Nat.le_refl _) (by simp) ?_; (case hd => rfl); (case hg => rfl); (case hr => first | (go_simp; done) | (go_simp; rfl)); (case hp => exact (Reps.one (show Kd.FK (Kd.slice 3 (Kd.int .i64)) _ _ y115 [.slice Ao12 y115.length co12] from (Kd.FK_slice_mk (Kd.R_reads' (Kd.R_mono (ok' := (fun k_ => (w.heap.size ≤ k_))) (HO117.out) (fun k_ hk => hk.1))).2.1 (Kd.R_F (Kd.R_mono (ok' := (fun k_ => (w.heap.size ≤ k_))) (HO117.out) (fun k_ hk => hk.1))))) (Reps.none _ _))); intro v119 w13 ho14 hb hg_ hnew_; clear hg_ hnew_; (first | rw [← Ny118.out] at ho14 | (simp only [Int.reduceToNat] at ho14; rw [← Ny118.out] at ho14)); have n0_ := Aside0.mk (Kd.N_lower ho14 (below_size (by repeat (first | (with_reducible first | exact HB.out | apply below_alloc | apply pw_below_drewN | apply below_drew1) | exact HB.out)))); have n1_ := Aside0.mk (below_step (by repeat (first | (with_reducible first | exact HB.out | apply below_alloc | apply pw_below_drewN | apply below_drew1) | exact HB.out)) hb); clear HB; clear HO117; have HO120 := n0_; have HB := n1_; clear n0_ n1_; clear hb ho14))
        go_ret3
        exact ⟨_, by first | rfl | (simp [errW_none, errW_some] <;> rfl) | (simp [*, errW_none, errW_some] <;> rfl), by (with_reducible repeat (first | apply Kd.N_alloc | apply Kd.N_drewN | apply Kd.N_drew)); exact HO120.out, by repeat (first | (with_reducible first | exact HB.out | apply below_alloc | apply pw_below_drewN | apply below_drew1) | exact HB.out)⟩
      · rw [if_neg c8] at H
        have c8b0 : decide ((l0.length : Int) < a1) = false := decide_eq_false c8
        clear c8
        have H' := Aside0.mk H
        clear H
        go_enter Try.func14, Try.ntmps14
        go_wp2_with (first | ((with_reducible refine gate_callee (f := 30) rfl ?_); refine goesL_ (some 23) rfl rfl Try.func30 (by kernel_rfl) rfl #[.slice A0 l0.length c0, .int .i64 a2] rfl (by (try simp only [List.map_toArray, List.map_cons, List.map_nil]); first | done | rfl | (simp only [List.length_drop, List.length_take]; rfl)) ?_; (with_reducible refine (chalklineref16_lits.calls k _ _ l0 a2 t114 _ ?side1 ?side2 A4.out).mono ?_); (case side1 => repeat (first | exact HR0.out | (with_reducible refine Kd.C_alloc ?_ _) | (with_reducible refine Kd.C_drewN ?_ _) | (with_reducible refine Kd.C_drew ?_))); (case side2 => exact HC0.out); rintro e w15 ⟨rfl, hb⟩; refine ⟨_, rfl, ?_⟩; have n0_ := Aside0.mk (below_step (by repeat (first | (with_reducible first | exact HB.out | apply below_alloc | apply pw_below_drewN | apply below_drew1) | exact HB.out)) hb); clear HB; have HB := n0_; clear n0_; (try clear hb); (try clear hb2); (try clear hk); (try clear hi)))
        go_loopg [11, 12] k (fun kq v11 v12 w' => ∃ (x11_1 : Int) (x12_1 : Int), v11 = .int .i64 x11_1 ∧ v12 = .int .i64 x12_1 ∧ Aside0 (chalklineref16_Least.l0 kq l0 a1 a2 (l0.length : Int) x11_1 x12_1 = some (r1, r2, r3)) ∧ Aside0 (kq ≤ k) ∧ Aside0 (Below w.heap.size w w'))
        case atStart => exact ⟨(wrap64 (a2 - 1)), (1), (by first | rfl | (simp; done) | (simp [*]; done)), (by first | rfl | (simp; done) | (simp [*]; done)), H', ⟨Nat.le_refl _⟩, ⟨by repeat (first | (with_reducible first | exact HB.out | apply below_alloc | apply pw_below_drewN | apply below_drew1) | exact HB.out)⟩⟩
        case round =>
          clear H'
          try clear c1
          try clear p2
          try clear c3
          try clear c5
          try clear c5b0
          try clear c5b1
          try clear c6
          try clear c6b0
          try clear p6
          try clear c8
          try clear c8b0
          try clear c14
          obtain ⟨x11_1, x12_1, rfl, rfl, HA, HK1, HB⟩ := hrel
          cases gk with
          | zero => exact absurd HA.out (by simp [chalklineref16_Least.l0])
          | succ k1 =>
            have H := HA.out
            clear HA
            simp only [chalklineref16_Least.l0] at H
            by_cases c16 : x12_1 ≤ (l0.length : Int)
            · rw [if_pos c16] at H
              have c16b0 : decide (x12_1 ≤ (l0.length : Int)) = true := decide_eq_true c16
              clear c16
              obtain ⟨ji17, hji17⟩ : ∃ j_ : Int, (mn x12_1 a1) = j_ := ⟨_, rfl⟩
              replace H : (chalklineref16_Least.l0 k1 l0 a1 a2 (l0.length : Int) (wrap64 (x11_1 + (ji17))) (wrap64 (x12_1 + 1))) = some (r1, r2, r3) := by first | (rw [hji17] at H; exact H) | (simp only [hji17] at H ⊢; exact H)
              have hji17_ : (if a1 < x12_1 then a1 else x12_1) = ji17 := hji17
              have H' := Aside0.mk H
              clear H
              go_wp2
              go_roundg k1
              case measure => have := HK1.out; omega
              case rel => exact ⟨(wrap64 (x11_1 + (ji17))), (wrap64 (x12_1 + 1)), (by first | rfl | (simp; done) | (simp only [← hji17] <;> (first | rfl | simp)) | (simp [*]; done)), (by first | rfl | (simp; done) | (simp [*]; done)), H', ⟨by have := HK1.out; omega⟩, ⟨by repeat (first | (with_reducible first | exact HB.out | apply below_alloc | apply pw_below_drewN | apply below_drew1) | exact HB.out)⟩⟩
            · rw [if_neg c16] at H
              have c16b0 : decide (x12_1 ≤ (l0.length : Int)) = false := decide_eq_false c16
              clear c16
              by_cases c18 : x11_1 > 65536
              · rw [if_pos c18] at H
                have c18b0 : decide (65536 < x11_1) = true := decide_eq_true c18
                clear c18
                simp only [Option.some.injEq, Prod.mk.injEq] at H
                obtain ⟨rfl, rfl, rfl⟩ := H
                go_wp2
                go_ret3
                exact ⟨_, by first | rfl | (simp [errW_none, errW_some] <;> rfl) | (simp [*, errW_none, errW_some] <;> rfl), by first | exact Kd.S_nil _ _ _ _ _ | exact Kd.N_nil _ _ _ _ _ | exact Kd.V_nil _ _ _ _ _ | exact Kd.Q_nil _ _ _ _ _ | exact Kd.R_nil _ _ _ _ _, by repeat (first | (with_reducible first | exact HB.out | apply below_alloc | apply pw_below_drewN | apply below_drew1) | exact HB.out)⟩
              · rw [if_neg c18] at H
                have c18b0 : decide (65536 < x11_1) = false := decide_eq_false c18
                clear c18
                have H' := Aside0.mk H
                clear H
                go_wp2
                go_loopg [13, 14, 15, 16] k1 (fun kq v13 v14 v15 v16 w' => ∃ (x13_2 : List (List Int)) (x14_2 : Int) (x15_2 : Int) (x16_2 : Int), v14 = .int .i64 x14_2 ∧ v15 = .int .i64 x15_2 ∧ v16 = .int .i64 x16_2 ∧ Aside0 (chalklineref16_Least.l1 kq l0 a1 (l0.length : Int) x13_2 x14_2 x15_2 x16_2 = some (r1, r2, r3)) ∧ Aside0 (kq ≤ k1) ∧ Aside0 (Kd.N (Kd.slice 3 (Kd.int .i64)) 22 w' w.heap.size (fun k_ => (w.heap.size ≤ k_)) v13 x13_2) ∧ Aside0 (Below w.heap.size w w'))
                case atStart => exact ⟨(([] : List (List Int))), (a2), (0), (1), (by first | rfl | (simp; done) | (simp [*]; done)), (by first | rfl | (simp; done) | (simp [*]; done)), (by first | rfl | (simp; done) | (simp [*]; done)), H', ⟨Nat.le_refl _⟩, ⟨by first | exact Kd.S_nil _ _ _ _ _ | exact Kd.N_nil _ _ _ _ _ | exact Kd.V_nil _ _ _ _ _ | exact Kd.Q_nil _ _ _ _ _ | exact Kd.R_nil _ _ _ _ _⟩, ⟨by repeat (first | (with_reducible first | exact HB.out | apply below_alloc | apply pw_below_drewN | apply below_drew1) | exact HB.out)⟩⟩
                case round =>
                  clear H'
                  try clear c1
                  try clear p2
                  try clear c3
                  try clear c5
                  try clear c5b0
                  try clear c5b1
                  try clear c6
                  try clear c6b0
                  try clear p6
                  try clear c8
                  try clear c8b0
                  try clear c14
                  try clear c16
                  try clear c16b0
                  try clear c18
                  try clear c18b0
                  try clear p2
                  try clear p6
                  obtain ⟨x13_2, x14_2, x15_2, x16_2, rfl, rfl, rfl, HA, HK2, HO_13, HB⟩ := hrel
                  cases gk with
                  | zero => exact absurd HA.out (by simp [chalklineref16_Least.l1])
                  | succ k2 =>
                    have H := HA.out
                    clear HA
                    simp only [chalklineref16_Least.l1] at H
                    by_cases c19 : x16_2 ≤ (l0.length : Int)
                    · rw [if_pos c19] at H
                      have c19b0 : decide (x16_2 ≤ (l0.length : Int)) = true := decide_eq_true c19
                      clear c19
                      have H' := Aside0.mk H
                      clear H
                      go_wp2
                      go_loopg [13, 17] k2 (fun kq v13 v17 w' => ∃ (x13_3 : List (List Int)) (x17_3 : Int), v17 = .int .i64 x17_3 ∧ Aside0 (chalklineref16_Least.l2 kq l0 a1 (l0.length : Int) x13_3 x14_2 x15_2 x16_2 x17_3 = some (r1, r2, r3)) ∧ Aside0 (kq ≤ k2) ∧ Aside0 (Kd.N (Kd.slice 3 (Kd.int .i64)) 22 w' w.heap.size (fun k_ => (w.heap.size ≤ k_)) v13 x13_3) ∧ Aside0 (Below w.heap.size w w'))
                      case atStart => exact ⟨(x13_2), (1), (by first | rfl | (simp; done) | (simp [*]; done)), H', ⟨Nat.le_refl _⟩, ⟨by (with_reducible repeat (first | apply Kd.N_alloc | apply Kd.N_drewN | apply Kd.N_drew)); exact HO_13.out⟩, ⟨by repeat (first | (with_reducible first | exact HB.out | apply below_alloc | apply pw_below_drewN | apply below_drew1) | exact HB.out)⟩⟩
                      case round =>
                        clear H'
                        try clear c1
                        try clear p2
                        try clear c3
                        try clear c5
                        try clear c5b0
                        try clear c5b1
                        try clear c6
                        try clear c6b0
                        try clear p6
                        try clear c8
                        try clear c8b0
                        try clear c14
                        try clear c16
                        try clear c16b0
                        try clear c18
                        try clear c18b0
                        try clear c19
                        try clear c19b0
                        try clear p2
                        try clear p6
                        obtain ⟨x13_3, x17_3, rfl, HA, HK3, HO_13, HB⟩ := hrel
                        cases gk with
                        | zero => exact absurd HA.out (by simp [chalklineref16_Least.l2])
                        | succ k3 =>
                          have H := HA.out
                          clear HA
                          simp only [chalklineref16_Least.l2] at H
                          obtain ⟨ji20, hji20⟩ : ∃ j_ : Int, (mn x16_2 a1) = j_ := ⟨_, rfl⟩
                          replace H : (if x17_3 ≤ (ji20) then ((some (([wrap64 (-(wrap64 ((wrap64 (x14_2 + x17_3)) - 1)))] : List Int) : List Int)).bind fun y127 => ((some (([wrap64 (-(wrap64 ((wrap64 (x14_2 + x17_3)) - 1)))] : List Int) : List Int)).bind fun y130 => (if x17_3 ≤ (mn (wrap64 (x16_2 - 1)) a1) then (if y127.length < 17592186044416 then ((some (y127 ++ [wrap64 ((wrap64 (x15_2 + x17_3)) - 1)] : List Int)).bind fun y133 => (if y130.length < 17592186044416 then ((some (y130 ++ [wrap64 ((wrap64 (x15_2 + x17_3)) - 1)] : List Int)).bind fun y136 => (if 0 ≤ (wrap64 (x16_2 - 1)) then (if (wrap64 (x16_2 - 1)) < (l0.length : Int) then (if y133.length < 17592186044416 then (if x13_3.length < 5864062014805 then ((some (x13_3 ++ [(y133 ++ [rd l0 (wrap64 (x16_2 - 1))])] : List (List Int))).bind fun y143 => (if x17_3 ≥ 2 then (if y136.length < 17592186044416 then (if y143.length < 5864062014805 then (chalklineref16_Least.l2 k3 l0 a1 (l0.length : Int) (y143 ++ [(y136 ++ [wrap64 ((wrap64 (x15_2 + x17_3)) - 2)])]) x14_2 x15_2 x16_2 (wrap64 (x17_3 + 1))) else (none)) else (none)) else (chalklineref16_Least.l2 k3 l0 a1 (l0.length : Int) y143 x14_2 x15_2 x16_2 (wrap64 (x17_3 + 1))))) else (none)) else (none)) else (none)) else (none))) else (none))) else (none)) else (if 0 ≤ (wrap64 (x16_2 - 1)) then (if (wrap64 (x16_2 - 1)) < (l0.length : Int) then (if y127.length < 17592186044416 then (if x13_3.length < 5864062014805 then ((some (x13_3 ++ [(y127 ++ [rd l0 (wrap64 (x16_2 - 1))])] : List (List Int))).bind fun y156 => (if x17_3 ≥ 2 then (if y130.length < 17592186044416 then (if y156.length < 5864062014805 then (chalklineref16_Least.l2 k3 l0 a1 (l0.length : Int) (y156 ++ [(y130 ++ [wrap64 ((wrap64 (x15_2 + x17_3)) - 2)])]) x14_2 x15_2 x16_2 (wrap64 (x17_3 + 1))) else (none)) else (none)) else (chalklineref16_Least.l2 k3 l0 a1 (l0.length : Int) y156 x14_2 x15_2 x16_2 (wrap64 (x17_3 + 1))))) else (none)) else (none)) else (none)) else (none))))) else (chalklineref16_Least.l1 k3 l0 a1 (l0.length : Int) x13_3 (wrap64 (x14_2 + (ji20))) x14_2 (wrap64 (x16_2 + 1)))) = some (r1, r2, r3) := by first | (rw [hji20] at H; exact H) | (simp only [hji20] at H ⊢; exact H)
                          have hji20_ : (if a1 < x16_2 then a1 else x16_2) = ji20 := hji20
                          by_cases c21 : x17_3 ≤ (ji20)
                          · rw [if_pos c21] at H
                            have c21b0 : decide (x17_3 ≤ (ji20)) = true := decide_eq_true c21
                            clear c21
                            obtain ⟨y127, hy127⟩ : ∃ y_ : List Int, y_ = (([wrap64 (-(wrap64 ((wrap64 (x14_2 + x17_3)) - 1)))] : List Int)) := ⟨_, rfl⟩
                            replace H : ((some (([wrap64 (-(wrap64 ((wrap64 (x14_2 + x17_3)) - 1)))] : List Int) : List Int)).bind fun y130 => (if x17_3 ≤ (mn (wrap64 (x16_2 - 1)) a1) then (if y127.length < 17592186044416 then ((some (y127 ++ [wrap64 ((wrap64 (x15_2 + x17_3)) - 1)] : List Int)).bind fun y133 => (if y130.length < 17592186044416 then ((some (y130 ++ [wrap64 ((wrap64 (x15_2 + x17_3)) - 1)] : List Int)).bind fun y136 => (if 0 ≤ (wrap64 (x16_2 - 1)) then (if (wrap64 (x16_2 - 1)) < (l0.length : Int) then (if y133.length < 17592186044416 then (if x13_3.length < 5864062014805 then ((some (x13_3 ++ [(y133 ++ [rd l0 (wrap64 (x16_2 - 1))])] : List (List Int))).bind fun y143 => (if x17_3 ≥ 2 then (if y136.length < 17592186044416 then (if y143.length < 5864062014805 then (chalklineref16_Least.l2 k3 l0 a1 (l0.length : Int) (y143 ++ [(y136 ++ [wrap64 ((wrap64 (x15_2 + x17_3)) - 2)])]) x14_2 x15_2 x16_2 (wrap64 (x17_3 + 1))) else (none)) else (none)) else (chalklineref16_Least.l2 k3 l0 a1 (l0.length : Int) y143 x14_2 x15_2 x16_2 (wrap64 (x17_3 + 1))))) else (none)) else (none)) else (none)) else (none))) else (none))) else (none)) else (if 0 ≤ (wrap64 (x16_2 - 1)) then (if (wrap64 (x16_2 - 1)) < (l0.length : Int) then (if y127.length < 17592186044416 then (if x13_3.length < 5864062014805 then ((some (x13_3 ++ [(y127 ++ [rd l0 (wrap64 (x16_2 - 1))])] : List (List Int))).bind fun y156 => (if x17_3 ≥ 2 then (if y130.length < 17592186044416 then (if y156.length < 5864062014805 then (chalklineref16_Least.l2 k3 l0 a1 (l0.length : Int) (y156 ++ [(y130 ++ [wrap64 ((wrap64 (x15_2 + x17_3)) - 2)])]) x14_2 x15_2 x16_2 (wrap64 (x17_3 + 1))) else (none)) else (none)) else (chalklineref16_Least.l2 k3 l0 a1 (l0.length : Int) y156 x14_2 x15_2 x16_2 (wrap64 (x17_3 + 1))))) else (none)) else (none)) else (none)) else (none)))) = some (r1, r2, r3) := by first | (rw [hy127]; with_reducible exact H) | (have H2_ := (Option.bind_some _ _).symm.trans H; rw [hy127]; with_reducible exact H2_) | (have H2_ := (Option.bind_some _ _).symm.trans H; with_reducible exact H2_) | with_reducible exact H | (rw [hy127]; exact H) | exact H
                            have Ny127 := Aside0.mk hy127
                            clear hy127
                            obtain ⟨y130, hy130⟩ : ∃ y_ : List Int, y_ = (([wrap64 (-(wrap64 ((wrap64 (x14_2 + x17_3)) - 1)))] : List Int)) := ⟨_, rfl⟩
                            replace H : (if x17_3 ≤ (mn (wrap64 (x16_2 - 1)) a1) then (if y127.length < 17592186044416 then ((some (y127 ++ [wrap64 ((wrap64 (x15_2 + x17_3)) - 1)] : List Int)).bind fun y133 => (if y130.length < 17592186044416 then ((some (y130 ++ [wrap64 ((wrap64 (x15_2 + x17_3)) - 1)] : List Int)).bind fun y136 => (if 0 ≤ (wrap64 (x16_2 - 1)) then (if (wrap64 (x16_2 - 1)) < (l0.length : Int) then (if y133.length < 17592186044416 then (if x13_3.length < 5864062014805 then ((some (x13_3 ++ [(y133 ++ [rd l0 (wrap64 (x16_2 - 1))])] : List (List Int))).bind fun y143 => (if x17_3 ≥ 2 then (if y136.length < 17592186044416 then (if y143.length < 5864062014805 then (chalklineref16_Least.l2 k3 l0 a1 (l0.length : Int) (y143 ++ [(y136 ++ [wrap64 ((wrap64 (x15_2 + x17_3)) - 2)])]) x14_2 x15_2 x16_2 (wrap64 (x17_3 + 1))) else (none)) else (none)) else (chalklineref16_Least.l2 k3 l0 a1 (l0.length : Int) y143 x14_2 x15_2 x16_2 (wrap64 (x17_3 + 1))))) else (none)) else (none)) else (none)) else (none))) else (none))) else (none)) else (if 0 ≤ (wrap64 (x16_2 - 1)) then (if (wrap64 (x16_2 - 1)) < (l0.length : Int) then (if y127.length < 17592186044416 then (if x13_3.length < 5864062014805 then ((some (x13_3 ++ [(y127 ++ [rd l0 (wrap64 (x16_2 - 1))])] : List (List Int))).bind fun y156 => (if x17_3 ≥ 2 then (if y130.length < 17592186044416 then (if y156.length < 5864062014805 then (chalklineref16_Least.l2 k3 l0 a1 (l0.length : Int) (y156 ++ [(y130 ++ [wrap64 ((wrap64 (x15_2 + x17_3)) - 2)])]) x14_2 x15_2 x16_2 (wrap64 (x17_3 + 1))) else (none)) else (none)) else (chalklineref16_Least.l2 k3 l0 a1 (l0.length : Int) y156 x14_2 x15_2 x16_2 (wrap64 (x17_3 + 1))))) else (none)) else (none)) else (none)) else (none))) = some (r1, r2, r3) := by first | (rw [hy130]; with_reducible exact H) | (have H2_ := (Option.bind_some _ _).symm.trans H; rw [hy130]; with_reducible exact H2_) | (have H2_ := (Option.bind_some _ _).symm.trans H; with_reducible exact H2_) | with_reducible exact H | (rw [hy130]; exact H) | exact H
                            have Ny130 := Aside0.mk hy130
                            clear hy130
                            obtain ⟨ji22, hji22⟩ : ∃ j_ : Int, (mn (wrap64 (x16_2 - 1)) a1) = j_ := ⟨_, rfl⟩
                            replace H : (if x17_3 ≤ (ji22) then (if y127.length < 17592186044416 then ((some (y127 ++ [wrap64 ((wrap64 (x15_2 + x17_3)) - 1)] : List Int)).bind fun y133 => (if y130.length < 17592186044416 then ((some (y130 ++ [wrap64 ((wrap64 (x15_2 + x17_3)) - 1)] : List Int)).bind fun y136 => (if 0 ≤ (wrap64 (x16_2 - 1)) then (if (wrap64 (x16_2 - 1)) < (l0.length : Int) then (if y133.length < 17592186044416 then (if x13_3.length < 5864062014805 then ((some (x13_3 ++ [(y133 ++ [rd l0 (wrap64 (x16_2 - 1))])] : List (List Int))).bind fun y143 => (if x17_3 ≥ 2 then (if y136.length < 17592186044416 then (if y143.length < 5864062014805 then (chalklineref16_Least.l2 k3 l0 a1 (l0.length : Int) (y143 ++ [(y136 ++ [wrap64 ((wrap64 (x15_2 + x17_3)) - 2)])]) x14_2 x15_2 x16_2 (wrap64 (x17_3 + 1))) else (none)) else (none)) else (chalklineref16_Least.l2 k3 l0 a1 (l0.length : Int) y143 x14_2 x15_2 x16_2 (wrap64 (x17_3 + 1))))) else (none)) else (none)) else (none)) else (none))) else (none))) else (none)) else (if 0 ≤ (wrap64 (x16_2 - 1)) then (if (wrap64 (x16_2 - 1)) < (l0.length : Int) then (if y127.length < 17592186044416 then (if x13_3.length < 5864062014805 then ((some (x13_3 ++ [(y127 ++ [rd l0 (wrap64 (x16_2 - 1))])] : List (List Int))).bind fun y156 => (if x17_3 ≥ 2 then (if y130.length < 17592186044416 then (if y156.length < 5864062014805 then (chalklineref16_Least.l2 k3 l0 a1 (l0.length : Int) (y156 ++ [(y130 ++ [wrap64 ((wrap64 (x15_2 + x17_3)) - 2)])]) x14_2 x15_2 x16_2 (wrap64 (x17_3 + 1))) else (none)) else (none)) else (chalklineref16_Least.l2 k3 l0 a1 (l0.length : Int) y156 x14_2 x15_2 x16_2 (wrap64 (x17_3 + 1))))) else (none)) else (none)) else (none)) else (none))) = some (r1, r2, r3) := by first | (rw [hji22] at H; exact H) | (simp only [hji22] at H ⊢; exact H)
                            have hji22_ : (if a1 < (wrap64 (x16_2 - 1)) then a1 else (wrap64 (x16_2 - 1))) = ji22 := hji22
                            by_cases c23 : x17_3 ≤ (ji22)
                            · rw [if_pos c23] at H
                              have c23b0 : decide (x17_3 ≤ (ji22)) = true := decide_eq_true c23
                              clear c23
                              by_cases c24 : y127.length < 17592186044416
                              · rw [if_pos c24] at H
                                have LMc24 := Aside0.mk c24
                                clear c24
                                obtain ⟨y133, hy133⟩ : ∃ y_ : List Int, y_ = (y127 ++ [wrap64 ((wrap64 (x15_2 + x17_3)) - 1)]) := ⟨_, rfl⟩
                                replace H : (if y130.length < 17592186044416 then ((some (y130 ++ [wrap64 ((wrap64 (x15_2 + x17_3)) - 1)] : List Int)).bind fun y136 => (if 0 ≤ (wrap64 (x16_2 - 1)) then (if (wrap64 (x16_2 - 1)) < (l0.length : Int) then (if y133.length < 17592186044416 then (if x13_3.length < 5864062014805 then ((some (x13_3 ++ [(y133 ++ [rd l0 (wrap64 (x16_2 - 1))])] : List (List Int))).bind fun y143 => (if x17_3 ≥ 2 then (if y136.length < 17592186044416 then (if y143.length < 5864062014805 then (chalklineref16_Least.l2 k3 l0 a1 (l0.length : Int) (y143 ++ [(y136 ++ [wrap64 ((wrap64 (x15_2 + x17_3)) - 2)])]) x14_2 x15_2 x16_2 (wrap64 (x17_3 + 1))) else (none)) else (none)) else (chalklineref16_Least.l2 k3 l0 a1 (l0.length : Int) y143 x14_2 x15_2 x16_2 (wrap64 (x17_3 + 1))))) else (none)) else (none)) else (none)) else (none))) else (none)) = some (r1, r2, r3) := by first | (rw [hy133]; with_reducible exact H) | (have H2_ := (Option.bind_some _ _).symm.trans H; rw [hy133]; with_reducible exact H2_) | (have H2_ := (Option.bind_some _ _).symm.trans H; with_reducible exact H2_) | with_reducible exact H | (rw [hy133]; exact H) | exact H
                                have Ny133 := Aside0.mk hy133
                                clear hy133
                                by_cases c25 : y130.length < 17592186044416
                                · rw [if_pos c25] at H
                                  have LMc25 := Aside0.mk c25
                                  clear c25
                                  obtain ⟨y136, hy136⟩ : ∃ y_ : List Int, y_ = (y130 ++ [wrap64 ((wrap64 (x15_2 + x17_3)) - 1)]) := ⟨_, rfl⟩
                                  replace H : (if 0 ≤ (wrap64 (x16_2 - 1)) then (if (wrap64 (x16_2 - 1)) < (l0.length : Int) then (if y133.length < 17592186044416 then (if x13_3.length < 5864062014805 then ((some (x13_3 ++ [(y133 ++ [rd l0 (wrap64 (x16_2 - 1))])] : List (List Int))).bind fun y143 => (if x17_3 ≥ 2 then (if y136.length < 17592186044416 then (if y143.length < 5864062014805 then (chalklineref16_Least.l2 k3 l0 a1 (l0.length : Int) (y143 ++ [(y136 ++ [wrap64 ((wrap64 (x15_2 + x17_3)) - 2)])]) x14_2 x15_2 x16_2 (wrap64 (x17_3 + 1))) else (none)) else (none)) else (chalklineref16_Least.l2 k3 l0 a1 (l0.length : Int) y143 x14_2 x15_2 x16_2 (wrap64 (x17_3 + 1))))) else (none)) else (none)) else (none)) else (none)) = some (r1, r2, r3) := by first | (rw [hy136]; with_reducible exact H) | (have H2_ := (Option.bind_some _ _).symm.trans H; rw [hy136]; with_reducible exact H2_) | (have H2_ := (Option.bind_some _ _).symm.trans H; with_reducible exact H2_) | with_reducible exact H | (rw [hy136]; exact H) | exact H
                                  have Ny136 := Aside0.mk hy136
                                  clear hy136
                                  obtain ⟨ji26, hji26⟩ : ∃ j_ : Int, (wrap64 (x16_2 - 1)) = j_ := ⟨_, rfl⟩
                                  replace H : (if 0 ≤ (ji26) then (if (ji26) < (l0.length : Int) then (if y133.length < 17592186044416 then (if x13_3.length < 5864062014805 then ((some (x13_3 ++ [(y133 ++ [rd l0 (ji26)])] : List (List Int))).bind fun y143 => (if x17_3 ≥ 2 then (if y136.length < 17592186044416 then (if y143.length < 5864062014805 then (chalklineref16_Least.l2 k3 l0 a1 (l0.length : Int) (y143 ++ [(y136 ++ [wrap64 ((wrap64 (x15_2 + x17_3)) - 2)])]) x14_2 x15_2 x16_2 (wrap64 (x17_3 + 1))) else (none)) else (none)) else (chalklineref16_Least.l2 k3 l0 a1 (l0.length : Int) y143 x14_2 x15_2 x16_2 (wrap64 (x17_3 + 1))))) else (none)) else (none)) else (none)) else (none)) = some (r1, r2, r3) := by first | (rw [hji26] at H; exact H) | (simp only [hji26] at H ⊢; exact H)
                                  have hji26w : (IntKind.i64.wrap (x16_2 - 1)) = ji26 := (i64_w _).trans hji26
                                  rw [hji26] at hji22_
                                  by_cases c27 : 0 ≤ (ji26)
                                  · rw [if_pos c27] at H
                                    have c27b0 : decide (0 ≤ (ji26)) = true := decide_eq_true c27
                                    clear c27
                                    by_cases c28 : (ji26) < (l0.length : Int)
                                    · rw [if_pos c28] at H
                                      have c28b0 : decide ((ji26) < (l0.length : Int)) = true := decide_eq_true c28
                                      clear c28
                                      by_cases c29 : y133.length < 17592186044416
                                      · rw [if_pos c29] at H
                                        have LMc29 := Aside0.mk c29
                                        clear c29
                                        obtain ⟨y140, hy140⟩ : ∃ y_ : List Int, y_ = (y133 ++ [rd l0 (ji26)]) := ⟨_, rfl⟩
                                        replace H : (if x13_3.length < 5864062014805 then ((some (x13_3 ++ [y140] : List (List Int))).bind fun y143 => (if x17_3 ≥ 2 then (if y136.length < 17592186044416 then (if y143.length < 5864062014805 then (chalklineref16_Least.l2 k3 l0 a1 (l0.length : Int) (y143 ++ [(y136 ++ [wrap64 ((wrap64 (x15_2 + x17_3)) - 2)])]) x14_2 x15_2 x16_2 (wrap64 (x17_3 + 1))) else (none)) else (none)) else (chalklineref16_Least.l2 k3 l0 a1 (l0.length : Int) y143 x14_2 x15_2 x16_2 (wrap64 (x17_3 + 1))))) else (none)) = some (r1, r2, r3) := by first | (rw [hy140]; with_reducible exact H) | (have H2_ := (Option.bind_some _ _).symm.trans H; rw [hy140]; with_reducible exact H2_) | (have H2_ := (Option.bind_some _ _).symm.trans H; with_reducible exact H2_) | with_reducible exact H | (rw [hy140]; exact H) | exact H
                                        have Ny140 := Aside0.mk hy140
                                        clear hy140
                                        by_cases c30 : x13_3.length < 5864062014805
                                        · rw [if_pos c30] at H
                                          have LMc30 := Aside0.mk c30
                                          clear c30
                                          obtain ⟨y143, hy143⟩ : ∃ y_ : List (List Int), y_ = (x13_3 ++ [y140]) := ⟨_, rfl⟩
                                          replace H : (if x17_3 ≥ 2 then (if y136.length < 17592186044416 then (if y143.length < 5864062014805 then (chalklineref16_Least.l2 k3 l0 a1 (l0.length : Int) (y143 ++ [(y136 ++ [wrap64 ((wrap64 (x15_2 + x17_3)) - 2)])]) x14_2 x15_2 x16_2 (wrap64 (x17_3 + 1))) else (none)) else (none)) else (chalklineref16_Least.l2 k3 l0 a1 (l0.length : Int) y143 x14_2 x15_2 x16_2 (wrap64 (x17_3 + 1)))) = some (r1, r2, r3) := by first | (rw [hy143]; with_reducible exact H) | (have H2_ := (Option.bind_some _ _).symm.trans H; rw [hy143]; with_reducible exact H2_) | (have H2_ := (Option.bind_some _ _).symm.trans H; with_reducible exact H2_) | with_reducible exact H | (rw [hy143]; exact H) | exact H
                                          have Ny143 := Aside0.mk hy143
                                          clear hy143
                                          by_cases c31 : x17_3 ≥ 2
                                          · rw [if_pos c31] at H
                                            have c31b0 : decide (2 ≤ x17_3) = true := decide_eq_true c31
                                            clear c31
                                            by_cases c32 : y136.length < 17592186044416
                                            · rw [if_pos c32] at H
                                              have LMc32 := Aside0.mk c32
                                              clear c32
                                              obtain ⟨y146, hy146⟩ : ∃ y_ : List Int, y_ = (y136 ++ [wrap64 ((wrap64 (x15_2 + x17_3)) - 2)]) := ⟨_, rfl⟩
                                              replace H : (if y143.length < 5864062014805 then (chalklineref16_Least.l2 k3 l0 a1 (l0.length : Int) (y143 ++ [y146]) x14_2 x15_2 x16_2 (wrap64 (x17_3 + 1))) else (none)) = some (r1, r2, r3) := by first | (rw [hy146]; with_reducible exact H) | (have H2_ := (Option.bind_some _ _).symm.trans H; rw [hy146]; with_reducible exact H2_) | (have H2_ := (Option.bind_some _ _).symm.trans H; with_reducible exact H2_) | with_reducible exact H | (rw [hy146]; exact H) | exact H
                                              have Ny146 := Aside0.mk hy146
                                              clear hy146
                                              by_cases c33 : y143.length < 5864062014805
                                              · rw [if_pos c33] at H
                                                have LMc33 := Aside0.mk c33
                                                clear c33
                                                obtain ⟨y149, hy149⟩ : ∃ y_ : List (List Int), y_ = (y143 ++ [y146]) := ⟨_, rfl⟩
                                                replace H : (chalklineref16_Least.l2 k3 l0 a1 (l0.length : Int) y149 x14_2 x15_2 x16_2 (wrap64 (x17_3 + 1))) = some (r1, r2, r3) := by first | (rw [hy149]; with_reducible exact H) | (have H2_ := (Option.bind_some _ _).symm.trans H; rw [hy149]; with_reducible exact H2_) | (have H2_ := (Option.bind_some _ _).symm.trans H; with_reducible exact H2_) | with_reducible exact H | (rw [hy149]; exact H) | exact H
                                                have Ny149 := Aside0.mk hy149
                                                clear hy149
                                                have H' := Aside0.mk H
                                                clear H
                                                go_wp2_with (first | ((with_reducible refine gate_dst (N := 71) rfl ?_); refine Kd.R_lit (Kd.int .i64) _ 3 ?hg (N := 71) ?hd (xs := ([wrap64 (-(wrap64 ((wrap64 (x14_2 + x17_3)) - 1)))] : List Int)) (inner := [.int .i64 (wrap64 (-(wrap64 ((wrap64 (x14_2 + x17_3)) - 1))))]) (ok := fun _ => True) (okp := fun _ => True) ?hr ?hp (fun _ hk => hk) trivial (Below.refl _ _) (Nat.le_refl _) (by simp) ?_; (case hd => rfl); (case hg => rfl); (case hr => first | (go_simp; done) | (go_simp; rfl)); (case hp => exact (Reps.one (show Kd.M (Kd.int .i64) _ _ _ (wrap64 (-(wrap64 ((wrap64 (x14_2 + x17_3)) - 1)))) [.int .i64 (wrap64 (-(wrap64 ((wrap64 (x14_2 + x17_3)) - 1))))] from rfl) (Reps.none _ _))); intro v128 w34 ho35 hb hg_ hnew_; clear hg_ hnew_; (first | rw [← Ny127.out] at ho35 | (simp only [Int.reduceToNat] at ho35; rw [← Ny127.out] at ho35)); have n0_ := Aside0.mk (Kd.N_elder' (by (with_reducible repeat (first | apply Kd.N_alloc | apply Kd.N_drewN | apply Kd.N_drew)); exact HO_13.out) (Kd.R_base ho35) hb); have n1_ := Aside0.mk (Kd.R_lower (Kd.R_newM (M := fun k_ => (w.heap.size ≤ k_)) ho35 (below_size (by repeat (first | (with_reducible first | exact HB.out | apply below_alloc | apply pw_below_drewN | apply below_drew1) | exact HB.out))) (fun k_ h_ => h_)) (below_size (by repeat (first | (with_reducible first | exact HB.out | apply below_alloc | apply pw_below_drewN | apply below_drew1) | exact HB.out)))); have n2_ := Aside0.mk (below_step (by repeat (first | (with_reducible first | exact HB.out | apply below_alloc | apply pw_below_drewN | apply below_drew1) | exact HB.out)) hb); clear HO_13; clear HB; have HO_13 := n0_; have HO129 := n1_; have HB := n2_; clear n0_ n1_ n2_; clear hb ho35) | ((with_reducible refine gate_dst (N := 74) rfl ?_); refine Kd.R_lit (Kd.int .i64) _ 3 ?hg (N := 74) ?hd (xs := ([wrap64 (-(wrap64 ((wrap64 (x14_2 + x17_3)) - 1)))] : List Int)) (inner := [.int .i64 (wrap64 (-(wrap64 ((wrap64 (x14_2 + x17_3)) - 1))))]) (ok := fun _ => True) (okp := fun _ => True) ?hr ?hp (fun _ hk => hk) trivial (Below.refl _ _) (Nat.le_refl _) (by simp) ?_; (case hd => rfl); (case hg => rfl); (case hr => first | (go_simp; done) | (go_simp; rfl)); (case hp => exact (Reps.one (show Kd.M (Kd.int .i64) _ _ _ (wrap64 (-(wrap64 ((wrap64 (x14_2 + x17_3)) - 1)))) [.int .i64 (wrap64 (-(wrap64 ((wrap64 (x14_2 + x17_3)) - 1))))] from rfl) (Reps.none _ _))); intro v131 w36 ho37 hb hg_ hnew_; clear hg_ hnew_; (first | rw [← Ny130.out] at ho37 | (simp only [Int.reduceToNat] at ho37; rw [← Ny130.out] at ho37)); have n0_ := Aside0.mk (Kd.N_elder' (by (with_reducible repeat (first | apply Kd.N_alloc | apply Kd.N_drewN | apply Kd.N_drew)); exact HO_13.out) (Kd.R_base ho37) hb); have n1_ := Aside0.mk (Kd.R_elder' (by (with_reducible repeat (first | apply Kd.R_alloc | apply Kd.R_drewN | apply Kd.R_drew)); exact HO129.out) (Kd.R_base ho37) hb); have n2_ := Aside0.mk (Kd.R_lower (Kd.R_new' (Kd.R_newM (M := fun k_ => (w.heap.size ≤ k_)) ho37 (below_size (by repeat (first | (with_reducible first | exact HB.out | apply below_alloc | apply pw_below_drewN | apply below_drew1) | exact HB.out))) (fun k_ h_ => h_)) (Kd.R_lt (by (with_reducible repeat (first | apply Kd.R_alloc | apply Kd.R_drewN | apply Kd.R_drew)); exact HO129.out))) (below_size (by repeat (first | (with_reducible first | exact HB.out | apply below_alloc | apply pw_below_drewN | apply below_drew1) | exact HB.out)))); have n3_ := Aside0.mk (below_step (by repeat (first | (with_reducible first | exact HB.out | apply below_alloc | apply pw_below_drewN | apply below_drew1) | exact HB.out)) hb); clear HO_13; clear HO129; clear HB; have HO_13 := n0_; have HO129 := n1_; have HO132 := n2_; have HB := n3_; clear n0_ n1_ n2_ n3_; clear hb ho37) | ((with_reducible refine gate_builtin (b := .append) (xs := #[.tmp 81, .tmp 86]) rfl ?_); at_builtin; refine Kd.R_append (Kd.int .i64) (w0 := w) w.heap.size rfl (.tmp 81) (.tmp 86) 22 3 (.int .i64 0) 8 rfl Try.underlying22 info3 rfl (by decide) (by omega) v128 y127 (wrap64 ((wrap64 (x15_2 + x17_3)) - 1)) [.int .i64 (wrap64 ((wrap64 (x15_2 + x17_3)) - 1))] (fun k_ => (w.heap.size ≤ k_) ∧ some k_ ≠ (v131 : Value).ownBlock) (fun _ => False) rfl rfl ?aP (fun _ hk => hk.elim) ?aF ?aO ?aB ?aS ?aL ?_; (case aP => exact rfl); (case aB => exact (by repeat (first | (with_reducible first | exact HB.out | apply below_alloc | apply pw_below_drewN | apply below_drew1) | exact HB.out))); (case aF => exact (fun k_ hk => ⟨(Nat.le_trans (below_size (by repeat (first | (with_reducible first | exact HB.out | apply below_alloc | apply pw_below_drewN | apply below_drew1) | exact HB.out))) hk), Kd.fresh' (Kd.R_lt (by (with_reducible repeat (first | apply Kd.R_alloc | apply Kd.R_drewN | apply Kd.R_drew)); exact HO132.out)) k_ hk⟩)); (case aO => exact (by (with_reducible repeat (first | apply Kd.R_alloc | apply Kd.R_drewN | apply Kd.R_drew)); exact Kd.R_mono HO129.out (fun _ hk => ⟨hk.1.1, hk.2⟩))); (case aS => exact (below_size (by repeat (first | (with_reducible first | exact HB.out | apply below_alloc | apply pw_below_drewN | apply below_drew1) | exact HB.out)))); (case aL => have := LMc24.out; omega); intro v134 w38 ho hb hg hat; rw [← Ny133.out] at ho; have n0_ := Aside0.mk (Kd.N_afterv (ok := (fun k_ => (w.heap.size ≤ k_) ∧ some k_ ≠ (v131 : Value).ownBlock)) (by (with_reducible repeat (first | apply Kd.N_alloc | apply Kd.N_drewN | apply Kd.N_drew)); exact Kd.N_mono HO_13.out (fun _ hk => ⟨⟨hk.1.1, hk.2⟩, hk.1.2⟩)) hg hat); have n1_ := Aside0.mk (Kd.R_after (ok := (fun k_ => (w.heap.size ≤ k_))) (by (with_reducible repeat (first | apply Kd.R_alloc | apply Kd.R_drewN | apply Kd.R_drew)); exact Kd.R_mono HO132.out (fun _ hk => ⟨hk.1.1, hk.2⟩)) hg hat); have n2_ := Aside0.mk (hb); have n3_ := Aside0.mk (ho); clear HO_13; clear HO132; clear HB; clear HO129; have HO_13 := n0_; have HO132 := n1_; have HB := n2_; have HO135 := n3_; clear n0_ n1_ n2_ n3_; clear ho hb hg hat) | ((with_reducible refine gate_builtin (b := .append) (xs := #[.tmp 88, .tmp 93]) rfl ?_); at_builtin; refine Kd.R_append (Kd.int .i64) (w0 := w) w.heap.size rfl (.tmp 88) (.tmp 93) 22 3 (.int .i64 0) 8 rfl Try.underlying22 info3 rfl (by decide) (by omega) v131 y130 (wrap64 ((wrap64 (x15_2 + x17_3)) - 1)) [.int .i64 (wrap64 ((wrap64 (x15_2 + x17_3)) - 1))] (fun k_ => (w.heap.size ≤ k_) ∧ some k_ ≠ (v134 : Value).ownBlock) (fun _ => False) rfl rfl ?aP (fun _ hk => hk.elim) ?aF ?aO ?aB ?aS ?aL ?_; (case aP => exact rfl); (case aB => exact (by repeat (first | (with_reducible first | exact HB.out | apply below_alloc | apply pw_below_drewN | apply below_drew1) | exact HB.out))); (case aF => exact (fun k_ hk => ⟨(Nat.le_trans (below_size (by repeat (first | (with_reducible first | exact HB.out | apply below_alloc | apply pw_below_drewN | apply below_drew1) | exact HB.out))) hk), Kd.fresh' (Kd.R_lt (by (with_reducible repeat (first | apply Kd.R_alloc | apply Kd.R_drewN | apply Kd.R_drew)); exact HO135.out)) k_ hk⟩)); (case aO => exact (by (with_reducible repeat (first | apply Kd.R_alloc | apply Kd.R_drewN | apply Kd.R_drew)); exact HO132.out)); (case aS => exact (below_size (by repeat (first | (with_reducible first | exact HB.out | apply below_alloc | apply pw_below_drewN | apply below_drew1) | exact HB.out)))); (case aL => have := LMc25.out; omega); intro v137 w39 ho hb hg hat; rw [← Ny136.out] at ho; have n0_ := Aside0.mk (Kd.N_afterv (ok := (fun k_ => (w.heap.size ≤ k_) ∧ some k_ ≠ (v134 : Value).ownBlock)) (by (with_reducible repeat (first | apply Kd.N_alloc | apply Kd.N_drewN | apply Kd.N_drew)); exact Kd.N_mono HO_13.out (fun _ hk => ⟨⟨hk.1.1, hk.2⟩, hk.1.2⟩)) hg hat); have n1_ := Aside0.mk (Kd.R_after (ok := (fun k_ => (w.heap.size ≤ k_))) (by (with_reducible repeat (first | apply Kd.R_alloc | apply Kd.R_drewN | apply Kd.R_drew)); exact HO135.out) hg hat); have n2_ := Aside0.mk (hb); have n3_ := Aside0.mk (ho); clear HO_13; clear HO135; clear HB; clear HO132; have HO_13 := n0_; have HO135 := n1_; have HB := n2_; have HO138 := n3_; clear n0_ n1_ n2_ n3_; clear ho hb hg hat; have p139 : 0 ≤ ((ji26) : Int) := of_decide_eq_true (by first | (with_reducible assumption) | assumption); have q139 : (ji26) < (l0.length : Int) := of_decide_eq_true (by first | (with_reducible assumption) | assumption); obtain ⟨ad139, e139, hx139_0⟩ := Kd.at_int HR0.out (ji26) p139 q139; cases e139; replace hx139_0 := (HB.out.cell (World.block_lt_of_cell? w _ hx139_0)).trans hx139_0; replace p139 := eq_true p139; replace q139 := eq_true q139) | ((with_reducible refine gate_builtin (b := .append) (xs := #[.tmp 95, .tmp 101]) rfl ?_); at_builtin; refine Kd.R_append (Kd.int .i64) (w0 := w) w.heap.size rfl (.tmp 95) (.tmp 101) 22 3 (.int .i64 0) 8 rfl Try.underlying22 info3 rfl (by decide) (by omega) v134 y133 (rd l0 (ji26)) [.int .i64 (rd l0 (ji26))] (fun k_ => (w.heap.size ≤ k_) ∧ some k_ ≠ (v137 : Value).ownBlock) (fun _ => False) rfl rfl ?aP (fun _ hk => hk.elim) ?aF ?aO ?aB ?aS ?aL ?_; (case aP => exact rfl); (case aB => exact (by repeat (first | (with_reducible first | exact HB.out | apply below_alloc | apply pw_below_drewN | apply below_drew1) | exact HB.out))); (case aF => exact (fun k_ hk => ⟨(Nat.le_trans (below_size (by repeat (first | (with_reducible first | exact HB.out | apply below_alloc | apply pw_below_drewN | apply below_drew1) | exact HB.out))) hk), Kd.fresh' (Kd.R_lt (by (with_reducible repeat (first | apply Kd.R_alloc | apply Kd.R_drewN | apply Kd.R_drew)); exact HO138.out)) k_ hk⟩)); (case aO => exact (by (with_reducible repeat (first | apply Kd.R_alloc | apply Kd.R_drewN | apply Kd.R_drew)); exact HO135.out)); (case aS => exact (below_size (by repeat (first | (with_reducible first | exact HB.out | apply below_alloc | apply pw_below_drewN | apply below_drew1) | exact HB.out)))); (case aL => have := LMc29.out; omega); intro v141 w40 ho hb hg hat; rw [← Ny140.out] at ho; have n0_ := Aside0.mk (Kd.N_afterv (ok := (fun k_ => (w.heap.size ≤ k_) ∧ some k_ ≠ (v137 : Value).ownBlock)) (by (with_reducible repeat (first | apply Kd.N_alloc | apply Kd.N_drewN | apply Kd.N_drew)); exact Kd.N_mono HO_13.out (fun _ hk => ⟨⟨hk.1.1, hk.2⟩, hk.1.2⟩)) hg hat); have n1_ := Aside0.mk (Kd.R_after (ok := (fun k_ => (w.heap.size ≤ k_))) (by (with_reducible repeat (first | apply Kd.R_alloc | apply Kd.R_drewN | apply Kd.R_drew)); exact HO138.out) hg hat); have n2_ := Aside0.mk (hb); have n3_ := Aside0.mk (ho); clear HO_13; clear HO138; clear HB; clear HO135; have HO_13 := n0_; have HO138 := n1_; have HB := n2_; have HO142 := n3_; clear n0_ n1_ n2_ n3_; clear ho hb hg hat; obtain ⟨Ao42, co42, eo42⟩ := Kd.R_slice HO142.out; subst eo42) | ((with_reducible refine gate_builtin (b := .append) (xs := #[.tmp 103, .tmp 105]) rfl ?_); at_builtin; refine Kd.N_append (Kd.slice 3 (Kd.int .i64)) (w0 := w) w.heap.size rfl (.tmp 103) (.tmp 105) 24 22 (.slice none 0 0) 24 rfl Try.underlying24 info22 rfl (by decide) (by omega) u13 x13_3 y140 [.slice Ao42 y140.length co42] (fun k_ => (w.heap.size ≤ k_) ∧ some k_ ≠ (v137 : Value).ownBlock) (fun k_ => ((fun k_ => (w.heap.size ≤ k_) ∧ some k_ ≠ (v137 : Value).ownBlock)) k_ ∧ some k_ ≠ (u13 : Value).ownBlock) rfl rfl ?aP (fun _ hk => hk) ?aF ?aO ?aB ?aS ?aL ?_; (case aP => exact (Kd.FK_slice_mk (Kd.R_reads' (Kd.R_mono (ok' := (fun k_ => ((fun k_ => (w.heap.size ≤ k_) ∧ some k_ ≠ (v137 : Value).ownBlock)) k_ ∧ some k_ ≠ (u13 : Value).ownBlock)) (Kd.R_apart' (HO142.out) (Kd.N_typed HO_13.out) (by decide)) (fun k_ hk => ⟨⟨hk.1.1, hk.1.2⟩, hk.2⟩))).2.1 (Kd.R_F (Kd.R_mono (ok' := (fun k_ => ((fun k_ => (w.heap.size ≤ k_) ∧ some k_ ≠ (v137 : Value).ownBlock)) k_ ∧ some k_ ≠ (u13 : Value).ownBlock)) (Kd.R_apart' (HO142.out) (Kd.N_typed HO_13.out) (by decide)) (fun k_ hk => ⟨⟨hk.1.1, hk.1.2⟩, hk.2⟩))))); (case aB => exact (by repeat (first | (with_reducible first | exact HB.out | apply below_alloc | apply pw_below_drewN | apply below_drew1) | exact HB.out))); (case aF => exact (fun k_ hk => ⟨(Nat.le_trans (below_size (by repeat (first | (with_reducible first | exact HB.out | apply below_alloc | apply pw_below_drewN | apply below_drew1) | exact HB.out))) hk), Kd.fresh' (Kd.R_lt (by (with_reducible repeat (first | apply Kd.R_alloc | apply Kd.R_drewN | apply Kd.R_drew)); exact HO138.out)) k_ hk⟩)); (case aO => exact (by (with_reducible repeat (first | apply Kd.N_alloc | apply Kd.N_drewN | apply Kd.N_drew)); exact Kd.N_mono HO_13.out (fun _ hk => ⟨hk.1.1, hk.1.2⟩))); (case aS => exact (below_size (by repeat (first | (with_reducible first | exact HB.out | apply below_alloc | apply pw_below_drewN | apply below_drew1) | exact HB.out)))); (case aL => have := LMc30.out; omega); intro v144 w41 ho hb hg hat; rw [← Ny143.out] at ho; have n0_ := Aside0.mk (Kd.R_over' (by (with_reducible repeat (first | apply Kd.R_alloc | apply Kd.R_drewN | apply Kd.R_drew)); exact HO138.out) (Kd.N_typed (by (with_reducible repeat (first | apply Kd.N_alloc | apply Kd.N_drewN | apply Kd.N_drew)); exact HO_13.out)) (by decide) hg); have n1_ := Aside0.mk (hb); have n2_ := Aside0.mk (ho); clear HO138; clear HB; clear HO_13; clear HO142; have HO138 := n0_; have HB := n1_; have HO145 := n2_; clear n0_ n1_ n2_; clear ho hb hg hat) | ((with_reducible refine gate_builtin (b := .append) (xs := #[.tmp 109, .tmp 114]) rfl ?_); at_builtin; refine Kd.R_append (Kd.int .i64) (w0 := w) w.heap.size rfl (.tmp 109) (.tmp 114) 22 3 (.int .i64 0) 8 rfl Try.underlying22 info3 rfl (by decide) (by omega) v137 y136 (wrap64 ((wrap64 (x15_2 + x17_3)) - 2)) [.int .i64 (wrap64 ((wrap64 (x15_2 + x17_3)) - 2))] (fun k_ => (w.heap.size ≤ k_)) (fun _ => False) rfl rfl ?aP (fun _ hk => hk.elim) ?aF ?aO ?aB ?aS ?aL ?_; (case aP => exact rfl); (case aB => exact (by repeat (first | (with_reducible first | exact HB.out | apply below_alloc | apply pw_below_drewN | apply below_drew1) | exact HB.out))); (case aF => exact (fun k_ hk => (Nat.le_trans (below_size (by repeat (first | (with_reducible first | exact HB.out | apply below_alloc | apply pw_below_drewN | apply below_drew1) | exact HB.out))) hk))); (case aO => exact (by (with_reducible repeat (first | apply Kd.R_alloc | apply Kd.R_drewN | apply Kd.R_drew)); exact Kd.R_mono HO138.out (fun _ hk => hk.1))); (case aS => exact (below_size (by repeat (first | (with_reducible first | exact HB.out | apply below_alloc | apply pw_below_drewN | apply below_drew1) | exact HB.out)))); (case aL => have := LMc32.out; omega); intro v147 w43 ho hb hg hat; rw [← Ny146.out] at ho; have n0_ := Aside0.mk (Kd.N_afterv (ok := (fun k_ => (w.heap.size ≤ k_))) (by (with_reducible repeat (first | apply Kd.N_alloc | apply Kd.N_drewN | apply Kd.N_drew)); exact HO145.out) hg hat); have n1_ := Aside0.mk (hb); have n2_ := Aside0.mk (ho); clear HO145; clear HB; clear HO138; have HO145 := n0_; have HB := n1_; have HO148 := n2_; clear n0_ n1_ n2_; clear ho hb hg hat; obtain ⟨Ao45, co45, eo45⟩ := Kd.R_slice HO148.out; subst eo45) | ((with_reducible refine gate_builtin (b := .append) (xs := #[.tmp 116, .tmp 118]) rfl ?_); at_builtin; refine Kd.N_append (Kd.slice 3 (Kd.int .i64)) (w0 := w) w.heap.size rfl (.tmp 116) (.tmp 118) 24 22 (.slice none 0 0) 24 rfl Try.underlying24 info22 rfl (by decide) (by omega) v144 y143 y146 [.slice Ao45 y146.length co45] (fun k_ => (w.heap.size ≤ k_)) (fun k_ => ((fun k_ => (w.heap.size ≤ k_))) k_ ∧ some k_ ≠ (v144 : Value).ownBlock) rfl rfl ?aP (fun _ hk => hk) ?aF ?aO ?aB ?aS ?aL ?_; (case aP => exact (Kd.FK_slice_mk (Kd.R_reads' (Kd.R_mono (ok' := (fun k_ => ((fun k_ => (w.heap.size ≤ k_))) k_ ∧ some k_ ≠ (v144 : Value).ownBlock)) (Kd.R_apart' (HO148.out) (Kd.N_typed HO145.out) (by decide)) (fun k_ hk => ⟨hk.1, hk.2⟩))).2.1 (Kd.R_F (Kd.R_mono (ok' := (fun k_ => ((fun k_ => (w.heap.size ≤ k_))) k_ ∧ some k_ ≠ (v144 : Value).ownBlock)) (Kd.R_apart' (HO148.out) (Kd.N_typed HO145.out) (by decide)) (fun k_ hk => ⟨hk.1, hk.2⟩))))); (case aB => exact (by repeat (first | (with_reducible first | exact HB.out | apply below_alloc | apply pw_below_drewN | apply below_drew1) | exact HB.out))); (case aF => exact (fun k_ hk => (Nat.le_trans (below_size (by repeat (first | (with_reducible first | exact HB.out | apply below_alloc | apply pw_below_drewN | apply below_drew1) | exact HB.out))) hk))); (case aO => exact (by (with_reducible repeat (first | apply Kd.N_alloc | apply Kd.N_drewN | apply Kd.N_drew)); exact Kd.N_mono HO145.out (fun _ hk => hk.1))); (case aS => exact (below_size (by repeat (first | (with_reducible first | exact HB.out | apply below_alloc | apply pw_below_drewN | apply below_drew1) | exact HB.out)))); (case aL => have := LMc33.out; omega); intro v150 w44 ho hb hg hat; rw [← Ny149.out] at ho; have n0_ := Aside0.mk (hb); have n1_ := Aside0.mk (ho); clear HB; clear HO145; clear HO148; have HB := n0_; have HO151 := n1_; clear n0_ n1_; clear ho hb hg hat))
                                                go_roundg k3
                                                case measure => have := HK1.out; have := HK2.out; have := HK3.out; omega
                                                case rel => exact ⟨(y149), (wrap64 (x17_3 + 1)), (by first | rfl | (simp; done) | (simp [*]; done)), H', ⟨by have := HK1.out; have := HK2.out; have := HK3.out; omega⟩, ⟨by (with_reducible repeat (first | apply Kd.N_alloc | apply Kd.N_drewN | apply Kd.N_drew)); exact HO151.out⟩, ⟨by repeat (first | (with_reducible first | exact HB.out | apply below_alloc | apply pw_below_drewN | apply below_drew1) | exact HB.out)⟩⟩
                                              · rw [if_neg c33] at H
                                                exact absurd H (by simp)
                                            · rw [if_neg c32] at H
                                              exact absurd H (by simp)
                                          · rw [if_neg c31] at H
                                            have c31b0 : decide (2 ≤ x17_3) = false := decide_eq_false c31
                                            clear c31
                                            have H' := Aside0.mk H
                                            clear H
                                            go_wp2_with (first | ((with_reducible refine gate_dst (N := 71) rfl ?_); refine Kd.R_lit (Kd.int .i64) _ 3 ?hg (N := 71) ?hd (xs := ([wrap64 (-(wrap64 ((wrap64 (x14_2 + x17_3)) - 1)))] : List Int)) (inner := [.int .i64 (wrap64 (-(wrap64 ((wrap64 (x14_2 + x17_3)) - 1))))]) (ok := fun _ => True) (okp := fun _ => True) ?hr ?hp (fun _ hk => hk) trivial (Below.refl _ _) (Nat.le_refl _) (by simp) ?_; (case hd => rfl); (case hg => rfl); (case hr => first | (go_simp; done) | (go_simp; rfl)); (case hp => exact (Reps.one (show Kd.M (Kd.int .i64) _ _ _ (wrap64 (-(wrap64 ((wrap64 (x14_2 + x17_3)) - 1)))) [.int .i64 (wrap64 (-(wrap64 ((wrap64 (x14_2 + x17_3)) - 1))))] from rfl) (Reps.none _ _))); intro v128 w46 ho47 hb hg_ hnew_; clear hg_ hnew_; (first | rw [← Ny127.out] at ho47 | (simp only [Int.reduceToNat] at ho47; rw [← Ny127.out] at ho47)); have n0_ := Aside0.mk (Kd.N_elder' (by (with_reducible repeat (first | apply Kd.N_alloc | apply Kd.N_drewN | apply Kd.N_drew)); exact HO_13.out) (Kd.R_base ho47) hb); have n1_ := Aside0.mk (Kd.R_lower (Kd.R_newM (M := fun k_ => (w.heap.size ≤ k_)) ho47 (below_size (by repeat (first | (with_reducible first | exact HB.out | apply below_alloc | apply pw_below_drewN | apply below_drew1) | exact HB.out))) (fun k_ h_ => h_)) (below_size (by repeat (first | (with_reducible first | exact HB.out | apply below_alloc | apply pw_below_drewN | apply below_drew1) | exact HB.out)))); have n2_ := Aside0.mk (below_step (by repeat (first | (with_reducible first | exact HB.out | apply below_alloc | apply pw_below_drewN | apply below_drew1) | exact HB.out)) hb); clear HO_13; clear HB; have HO_13 := n0_; have HO129 := n1_; have HB := n2_; clear n0_ n1_ n2_; clear hb ho47) | ((with_reducible refine gate_dst (N := 74) rfl ?_); refine Kd.R_lit (Kd.int .i64) _ 3 ?hg (N := 74) ?hd (xs := ([wrap64 (-(wrap64 ((wrap64 (x14_2 + x17_3)) - 1)))] : List Int)) (inner := [.int .i64 (wrap64 (-(wrap64 ((wrap64 (x14_2 + x17_3)) - 1))))]) (ok := fun _ => True) (okp := fun _ => True) ?hr ?hp (fun _ hk => hk) trivial (Below.refl _ _) (Nat.le_refl _) (by simp) ?_; (case hd => rfl); (case hg => rfl); (case hr => first | (go_simp; done) | (go_simp; rfl)); (case hp => exact (Reps.one (show Kd.M (Kd.int .i64) _ _ _ (wrap64 (-(wrap64 ((wrap64 (x14_2 + x17_3)) - 1)))) [.int .i64 (wrap64 (-(wrap64 ((wrap64 (x14_2 + x17_3)) - 1))))] from rfl) (Reps.none _ _))); intro v131 w48 ho49 hb hg_ hnew_; clear hg_ hnew_; (first | rw [← Ny130.out] at ho49 | (simp only [Int.reduceToNat] at ho49; rw [← Ny130.out] at ho49)); have n0_ := Aside0.mk (Kd.N_elder' (by (with_reducible repeat (first | apply Kd.N_alloc | apply Kd.N_drewN | apply Kd.N_drew)); exact HO_13.out) (Kd.R_base ho49) hb); have n1_ := Aside0.mk (Kd.R_elder' (by (with_reducible repeat (first | apply Kd.R_alloc | apply Kd.R_drewN | apply Kd.R_drew)); exact HO129.out) (Kd.R_base ho49) hb); have n2_ := Aside0.mk (Kd.R_lower (Kd.R_new' (Kd.R_newM (M := fun k_ => (w.heap.size ≤ k_)) ho49 (below_size (by repeat (first | (with_reducible first | exact HB.out | apply below_alloc | apply pw_below_drewN | apply below_drew1) | exact HB.out))) (fun k_ h_ => h_)) (Kd.R_lt (by (with_reducible repeat (first | apply Kd.R_alloc | apply Kd.R_drewN | apply Kd.R_drew)); exact HO129.out))) (below_size (by repeat (first | (with_reducible first | exact HB.out | apply below_alloc | apply pw_below_drewN | apply below_drew1) | exact HB.out)))); have n3_ := Aside0.mk (below_step (by repeat (first | (with_reducible first | exact HB.out | apply below_alloc | apply pw_below_drewN | apply below_drew1) | exact HB.out)) hb); clear HO_13; clear HO129; clear HB; have HO_13 := n0_; have HO129 := n1_; have HO132 := n2_; have HB := n3_; clear n0_ n1_ n2_ n3_; clear hb ho49) | ((with_reducible refine gate_builtin (b := .append) (xs := #[.tmp 81, .tmp 86]) rfl ?_); at_builtin; refine Kd.R_append (Kd.int .i64) (w0 := w) w.heap.size rfl (.tmp 81) (.tmp 86) 22 3 (.int .i64 0) 8 rfl Try.underlying22 info3 rfl (by decide) (by omega) v128 y127 (wrap64 ((wrap64 (x15_2 + x17_3)) - 1)) [.int .i64 (wrap64 ((wrap64 (x15_2 + x17_3)) - 1))] (fun k_ => (w.heap.size ≤ k_) ∧ some k_ ≠ (v131 : Value).ownBlock) (fun _ => False) rfl rfl ?aP (fun _ hk => hk.elim) ?aF ?aO ?aB ?aS ?aL ?_; (case aP => exact rfl); (case aB => exact (by repeat (first | (with_reducible first | exact HB.out | apply below_alloc | apply pw_below_drewN | apply below_drew1) | exact HB.out))); (case aF => exact (fun k_ hk => ⟨(Nat.le_trans (below_size (by repeat (first | (with_reducible first | exact HB.out | apply below_alloc | apply pw_below_drewN | apply below_drew1) | exact HB.out))) hk), Kd.fresh' (Kd.R_lt (by (with_reducible repeat (first | apply Kd.R_alloc | apply Kd.R_drewN | apply Kd.R_drew)); exact HO132.out)) k_ hk⟩)); (case aO => exact (by (with_reducible repeat (first | apply Kd.R_alloc | apply Kd.R_drewN | apply Kd.R_drew)); exact Kd.R_mono HO129.out (fun _ hk => ⟨hk.1.1, hk.2⟩))); (case aS => exact (below_size (by repeat (first | (with_reducible first | exact HB.out | apply below_alloc | apply pw_below_drewN | apply below_drew1) | exact HB.out)))); (case aL => have := LMc24.out; omega); intro v134 w50 ho hb hg hat; rw [← Ny133.out] at ho; have n0_ := Aside0.mk (Kd.N_afterv (ok := (fun k_ => (w.heap.size ≤ k_) ∧ some k_ ≠ (v131 : Value).ownBlock)) (by (with_reducible repeat (first | apply Kd.N_alloc | apply Kd.N_drewN | apply Kd.N_drew)); exact Kd.N_mono HO_13.out (fun _ hk => ⟨⟨hk.1.1, hk.2⟩, hk.1.2⟩)) hg hat); have n1_ := Aside0.mk (Kd.R_after (ok := (fun k_ => (w.heap.size ≤ k_))) (by (with_reducible repeat (first | apply Kd.R_alloc | apply Kd.R_drewN | apply Kd.R_drew)); exact Kd.R_mono HO132.out (fun _ hk => ⟨hk.1.1, hk.2⟩)) hg hat); have n2_ := Aside0.mk (hb); have n3_ := Aside0.mk (ho); clear HO_13; clear HO132; clear HB; clear HO129; have HO_13 := n0_; have HO132 := n1_; have HB := n2_; have HO135 := n3_; clear n0_ n1_ n2_ n3_; clear ho hb hg hat) | ((with_reducible refine gate_builtin (b := .append) (xs := #[.tmp 88, .tmp 93]) rfl ?_); at_builtin; refine Kd.R_append (Kd.int .i64) (w0 := w) w.heap.size rfl (.tmp 88) (.tmp 93) 22 3 (.int .i64 0) 8 rfl Try.underlying22 info3 rfl (by decide) (by omega) v131 y130 (wrap64 ((wrap64 (x15_2 + x17_3)) - 1)) [.int .i64 (wrap64 ((wrap64 (x15_2 + x17_3)) - 1))] (fun k_ => (w.heap.size ≤ k_) ∧ some k_ ≠ (v134 : Value).ownBlock) (fun _ => False) rfl rfl ?aP (fun _ hk => hk.elim) ?aF ?aO ?aB ?aS ?aL ?_; (case aP => exact rfl); (case aB => exact (by repeat (first | (with_reducible first | exact HB.out | apply below_alloc | apply pw_below_drewN | apply below_drew1) | exact HB.out))); (case aF => exact (fun k_ hk => ⟨(Nat.le_trans (below_size (by repeat (first | (with_reducible first | exact HB.out | apply below_alloc | apply pw_below_drewN | apply below_drew1) | exact HB.out))) hk), Kd.fresh' (Kd.R_lt (by (with_reducible repeat (first | apply Kd.R_alloc | apply Kd.R_drewN | apply Kd.R_drew)); exact HO135.out)) k_ hk⟩)); (case aO => exact (by (with_reducible repeat (first | apply Kd.R_alloc | apply Kd.R_drewN | apply Kd.R_drew)); exact HO132.out)); (case aS => exact (below_size (by repeat (first | (with_reducible first | exact HB.out | apply below_alloc | apply pw_below_drewN | apply below_drew1) | exact HB.out)))); (case aL => have := LMc25.out; omega); intro v137 w51 ho hb hg hat; rw [← Ny136.out] at ho; have n0_ := Aside0.mk (Kd.N_afterv (ok := (fun k_ => (w.heap.size ≤ k_) ∧ some k_ ≠ (v134 : Value).ownBlock)) (by (with_reducible repeat (first | apply Kd.N_alloc | apply Kd.N_drewN | apply Kd.N_drew)); exact Kd.N_mono HO_13.out (fun _ hk => ⟨⟨hk.1.1, hk.2⟩, hk.1.2⟩)) hg hat); have n1_ := Aside0.mk (Kd.R_after (ok := (fun k_ => (w.heap.size ≤ k_))) (by (with_reducible repeat (first | apply Kd.R_alloc | apply Kd.R_drewN | apply Kd.R_drew)); exact HO135.out) hg hat); have n2_ := Aside0.mk (hb); have n3_ := Aside0.mk (ho); clear HO_13; clear HO135; clear HB; clear HO132; have HO_13 := n0_; have HO135 := n1_; have HB := n2_; have HO138 := n3_; clear n0_ n1_ n2_ n3_; clear ho hb hg hat; have p139 : 0 ≤ ((ji26) : Int) := of_decide_eq_true (by first | (with_reducible assumption) | assumption); have q139 : (ji26) < (l0.length : Int) := of_decide_eq_true (by first | (with_reducible assumption) | assumption); obtain ⟨ad139, e139, hx139_0⟩ := Kd.at_int HR0.out (ji26) p139 q139; cases e139; replace hx139_0 := (HB.out.cell (World.block_lt_of_cell? w _ hx139_0)).trans hx139_0; replace p139 := eq_true p139; replace q139 := eq_true q139) | ((with_reducible refine gate_builtin (b := .append) (xs := #[.tmp 95, .tmp 101]) rfl ?_); at_builtin; refine Kd.R_append (Kd.int .i64) (w0 := w) w.heap.size rfl (.tmp 95) (.tmp 101) 22 3 (.int .i64 0) 8 rfl Try.underlying22 info3 rfl (by decide) (by omega) v134 y133 (rd l0 (ji26)) [.int .i64 (rd l0 (ji26))] (fun k_ => (w.heap.size ≤ k_) ∧ some k_ ≠ (v137 : Value).ownBlock) (fun _ => False) rfl rfl ?aP (fun _ hk => hk.elim) ?aF ?aO ?aB ?aS ?aL ?_; (case aP => exact rfl); (case aB => exact (by repeat (first | (with_reducible first | exact HB.out | apply below_alloc | apply pw_below_drewN | apply below_drew1) | exact HB.out))); (case aF => exact (fun k_ hk => ⟨(Nat.le_trans (below_size (by repeat (first | (with_reducible first | exact HB.out | apply below_alloc | apply pw_below_drewN | apply below_drew1) | exact HB.out))) hk), Kd.fresh' (Kd.R_lt (by (with_reducible repeat (first | apply Kd.R_alloc | apply Kd.R_drewN | apply Kd.R_drew)); exact HO138.out)) k_ hk⟩)); (case aO => exact (by (with_reducible repeat (first | apply Kd.R_alloc | apply Kd.R_drewN | apply Kd.R_drew)); exact HO135.out)); (case aS => exact (below_size (by repeat (first | (with_reducible first | exact HB.out | apply below_alloc | apply pw_below_drewN | apply below_drew1) | exact HB.out)))); (case aL => have := LMc29.out; omega); intro v141 w52 ho hb hg hat; rw [← Ny140.out] at ho; have n0_ := Aside0.mk (Kd.N_afterv (ok := (fun k_ => (w.heap.size ≤ k_) ∧ some k_ ≠ (v137 : Value).ownBlock)) (by (with_reducible repeat (first | apply Kd.N_alloc | apply Kd.N_drewN | apply Kd.N_drew)); exact Kd.N_mono HO_13.out (fun _ hk => ⟨⟨hk.1.1, hk.2⟩, hk.1.2⟩)) hg hat); have n1_ := Aside0.mk (Kd.R_after (ok := (fun k_ => (w.heap.size ≤ k_))) (by (with_reducible repeat (first | apply Kd.R_alloc | apply Kd.R_drewN | apply Kd.R_drew)); exact HO138.out) hg hat); have n2_ := Aside0.mk (hb); have n3_ := Aside0.mk (ho); clear HO_13; clear HO138; clear HB; clear HO135; have HO_13 := n0_; have HO138 := n1_; have HB := n2_; have HO142 := n3_; clear n0_ n1_ n2_ n3_; clear ho hb hg hat; obtain ⟨Ao54, co54, eo54⟩ := Kd.R_slice HO142.out; subst eo54) | ((with_reducible refine gate_builtin (b := .append) (xs := #[.tmp 103, .tmp 105]) rfl ?_); at_builtin; refine Kd.N_append (Kd.slice 3 (Kd.int .i64)) (w0 := w) w.heap.size rfl (.tmp 103) (.tmp 105) 24 22 (.slice none 0 0) 24 rfl Try.underlying24 info22 rfl (by decide) (by omega) u13 x13_3 y140 [.slice Ao54 y140.length co54] (fun k_ => (w.heap.size ≤ k_) ∧ some k_ ≠ (v137 : Value).ownBlock) (fun k_ => ((fun k_ => (w.heap.size ≤ k_) ∧ some k_ ≠ (v137 : Value).ownBlock)) k_ ∧ some k_ ≠ (u13 : Value).ownBlock) rfl rfl ?aP (fun _ hk => hk) ?aF ?aO ?aB ?aS ?aL ?_; (case aP => exact (Kd.FK_slice_mk (Kd.R_reads' (Kd.R_mono (ok' := (fun k_ => ((fun k_ => (w.heap.size ≤ k_) ∧ some k_ ≠ (v137 : Value).ownBlock)) k_ ∧ some k_ ≠ (u13 : Value).ownBlock)) (Kd.R_apart' (HO142.out) (Kd.N_typed HO_13.out) (by decide)) (fun k_ hk => ⟨⟨hk.1.1, hk.1.2⟩, hk.2⟩))).2.1 (Kd.R_F (Kd.R_mono (ok' := (fun k_ => ((fun k_ => (w.heap.size ≤ k_) ∧ some k_ ≠ (v137 : Value).ownBlock)) k_ ∧ some k_ ≠ (u13 : Value).ownBlock)) (Kd.R_apart' (HO142.out) (Kd.N_typed HO_13.out) (by decide)) (fun k_ hk => ⟨⟨hk.1.1, hk.1.2⟩, hk.2⟩))))); (case aB => exact (by repeat (first | (with_reducible first | exact HB.out | apply below_alloc | apply pw_below_drewN | apply below_drew1) | exact HB.out))); (case aF => exact (fun k_ hk => ⟨(Nat.le_trans (below_size (by repeat (first | (with_reducible first | exact HB.out | apply below_alloc | apply pw_below_drewN | apply below_drew1) | exact HB.out))) hk), Kd.fresh' (Kd.R_lt (by (with_reducible repeat (first | apply Kd.R_alloc | apply Kd.R_drewN | apply Kd.R_drew)); exact HO138.out)) k_ hk⟩)); (case aO => exact (by (with_reducible repeat (first | apply Kd.N_alloc | apply Kd.N_drewN | apply Kd.N_drew)); exact Kd.N_mono HO_13.out (fun _ hk => ⟨hk.1.1, hk.1.2⟩))); (case aS => exact (below_size (by repeat (first | (with_reducible first | exact HB.out | apply below_alloc | apply pw_below_drewN | apply below_drew1) | exact HB.out)))); (case aL => have := LMc30.out; omega); intro v144 w53 ho hb hg hat; rw [← Ny143.out] at ho; have n0_ := Aside0.mk (Kd.R_over' (by (with_reducible repeat (first | apply Kd.R_alloc | apply Kd.R_drewN | apply Kd.R_drew)); exact HO138.out) (Kd.N_typed (by (with_reducible repeat (first | apply Kd.N_alloc | apply Kd.N_drewN | apply Kd.N_drew)); exact HO_13.out)) (by decide) hg); have n1_ := Aside0.mk (hb); have n2_ := Aside0.mk (ho); clear HO138; clear HB; clear HO_13; clear HO142; have HO138 := n0_; have HB := n1_; have HO145 := n2_; clear n0_ n1_ n2_; clear ho hb hg hat))
                                            go_roundg k3
                                            case measure => have := HK1.out; have := HK2.out; have := HK3.out; omega
                                            case rel => exact ⟨(y143), (wrap64 (x17_3 + 1)), (by first | rfl | (simp; done) | (simp [*]; done)), H', ⟨by have := HK1.out; have := HK2.out; have := HK3.out; omega⟩, ⟨by (with_reducible repeat (first | apply Kd.N_alloc | apply Kd.N_drewN | apply Kd.N_drew)); exact Kd.N_mono HO145.out (fun _ hk => hk.1)⟩, ⟨by repeat (first | (with_reducible first | exact HB.out | apply below_alloc | apply pw_below_drewN | apply below_drew1) | exact HB.out)⟩⟩
                                        · rw [if_neg c30] at H
                                          exact absurd H (by simp)
                                      · rw [if_neg c29] at H
                                        exact absurd H (by simp)
                                    · rw [if_neg c28] at H
                                      exact absurd H (by simp)
                                  · rw [if_neg c27] at H
                                    exact absurd H (by simp)
                                · rw [if_neg c25] at H
                                  exact absurd H (by simp)
                              · rw [if_neg c24] at H
                                exact absurd H (by simp)
                            · rw [if_neg c23] at H
                              have c23b0 : decide (x17_3 ≤ (ji22)) = false := decide_eq_false c23
                              clear c23
                              obtain ⟨ji55, hji55⟩ : ∃ j_ : Int, (wrap64 (x16_2 - 1)) = j_ := ⟨_, rfl⟩
                              replace H : (if 0 ≤ (ji55) then (if (ji55) < (l0.length : Int) then (if y127.length < 17592186044416 then (if x13_3.length < 5864062014805 then ((some (x13_3 ++ [(y127 ++ [rd l0 (ji55)])] : List (List Int))).bind fun y156 => (if x17_3 ≥ 2 then (if y130.length < 17592186044416 then (if y156.length < 5864062014805 then (chalklineref16_Least.l2 k3 l0 a1 (l0.length : Int) (y156 ++ [(y130 ++ [wrap64 ((wrap64 (x15_2 + x17_3)) - 2)])]) x14_2 x15_2 x16_2 (wrap64 (x17_3 + 1))) else (none)) else (none)) else (chalklineref16_Least.l2 k3 l0 a1 (l0.length : Int) y156 x14_2 x15_2 x16_2 (wrap64 (x17_3 + 1))))) else (none)) else (none)) else (none)) else (none)) = some (r1, r2, r3) := by first | (rw [hji55] at H; exact H) | (simp only [hji55] at H ⊢; exact H)
                              have hji55w : (IntKind.i64.wrap (x16_2 - 1)) = ji55 := (i64_w _).trans hji55
                              rw [hji55] at hji22_
                              by_cases c56 : 0 ≤ (ji55)
                              · rw [if_pos c56] at H
                                have c56b0 : decide (0 ≤ (ji55)) = true := decide_eq_true c56
                                clear c56
                                by_cases c57 : (ji55) < (l0.length : Int)
                                · rw [if_pos c57] at H
                                  have c57b0 : decide ((ji55) < (l0.length : Int)) = true := decide_eq_true c57
                                  clear c57
                                  by_cases c58 : y127.length < 17592186044416
                                  · rw [if_pos c58] at H
                                    have LMc58 := Aside0.mk c58
                                    clear c58
                                    obtain ⟨y153, hy153⟩ : ∃ y_ : List Int, y_ = (y127 ++ [rd l0 (ji55)]) := ⟨_, rfl⟩
                                    replace H : (if x13_3.length < 5864062014805 then ((some (x13_3 ++ [y153] : List (List Int))).bind fun y156 => (if x17_3 ≥ 2 then (if y130.length < 17592186044416 then (if y156.length < 5864062014805 then (chalklineref16_Least.l2 k3 l0 a1 (l0.length : Int) (y156 ++ [(y130 ++ [wrap64 ((wrap64 (x15_2 + x17_3)) - 2)])]) x14_2 x15_2 x16_2 (wrap64 (x17_3 + 1))) else (none)) else (none)) else (chalklineref16_Least.l2 k3 l0 a1 (l0.length : Int) y156 x14_2 x15_2 x16_2 (wrap64 (x17_3 + 1))))) else (none)) = some (r1, r2, r3) := by first | (rw [hy153]; with_reducible exact H) | (have H2_ := (Option.bind_some _ _).symm.trans H; rw [hy153]; with_reducible exact H2_) | (have H2_ := (Option.bind_some _ _).symm.trans H; with_reducible exact H2_) | with_reducible exact H | (rw [hy153]; exact H) | exact H
                                    have Ny153 := Aside0.mk hy153
                                    clear hy153
                                    by_cases c59 : x13_3.length < 5864062014805
                                    · rw [if_pos c59] at H
                                      have LMc59 := Aside0.mk c59
                                      clear c59
                                      obtain ⟨y156, hy156⟩ : ∃ y_ : List (List Int), y_ = (x13_3 ++ [y153]) := ⟨_, rfl⟩
                                      replace H : (if x17_3 ≥ 2 then (if y130.length < 17592186044416 then (if y156.length < 5864062014805 then (chalklineref16_Least.l2 k3 l0 a1 (l0.length : Int) (y156 ++ [(y130 ++ [wrap64 ((wrap64 (x15_2 + x17_3)) - 2)])]) x14_2 x15_2 x16_2 (wrap64 (x17_3 + 1))) else (none)) else (none)) else (chalklineref16_Least.l2 k3 l0 a1 (l0.length : Int) y156 x14_2 x15_2 x16_2 (wrap64 (x17_3 + 1)))) = some (r1, r2, r3) := by first | (rw [hy156]; with_reducible exact H) | (have H2_ := (Option.bind_some _ _).symm.trans H; rw [hy156]; with_reducible exact H2_) | (have H2_ := (Option.bind_some _ _).symm.trans H; with_reducible exact H2_) | with_reducible exact H | (rw [hy156]; exact H) | exact H
                                      have Ny156 := Aside0.mk hy156
                                      clear hy156
                                      by_cases c60 : x17_3 ≥ 2
                                      · rw [if_pos c60] at H
                                        have c60b0 : decide (2 ≤ x17_3) = true := decide_eq_true c60
                                        clear c60
                                        by_cases c61 : y130.length < 17592186044416
                                        · rw [if_pos c61] at H
                                          have LMc61 := Aside0.mk c61
                                          clear c61
                                          obtain ⟨y159, hy159⟩ : ∃ y_ : List Int, y_ = (y130 ++ [wrap64 ((wrap64 (x15_2 + x17_3)) - 2)]) := ⟨_, rfl⟩
                                          replace H : (if y156.length < 5864062014805 then (chalklineref16_Least.l2 k3 l0 a1 (l0.length : Int) (y156 ++ [y159]) x14_2 x15_2 x16_2 (wrap64 (x17_3 + 1))) else (none)) = some (r1, r2, r3) := by first | (rw [hy159]; with_reducible exact H) | (have H2_ := (Option.bind_some _ _).symm.trans H; rw [hy159]; with_reducible exact H2_) | (have H2_ := (Option.bind_some _ _).symm.trans H; with_reducible exact H2_) | with_reducible exact H | (rw [hy159]; exact H) | exact H
                                          have Ny159 := Aside0.mk hy159
                                          clear hy159
                                          by_cases c62 : y156.length < 5864062014805
                                          · rw [if_pos c62] at H
                                            have LMc62 := Aside0.mk c62
                                            clear c62
                                            obtain ⟨y162, hy162⟩ : ∃ y_ : List (List Int), y_ = (y156 ++ [y159]) := ⟨_, rfl⟩
                                            replace H : (chalklineref16_Least.l2 k3 l0 a1 (l0.length : Int) y162 x14_2 x15_2 x16_2 (wrap64 (x17_3 + 1))) = some (r1, r2, r3) := by first | (rw [hy162]; with_reducible exact H) | (have H2_ := (Option.bind_some _ _).symm.trans H; rw [hy162]; with_reducible exact H2_) | (have H2_ := (Option.bind_some _ _).symm.trans H; with_reducible exact H2_) | with_reducible exact H | (rw [hy162]; exact H) | exact H
                                            have Ny162 := Aside0.mk hy162
                                            clear hy162
                                            have H' := Aside0.mk H
                                            clear H
                                            go_wp2_with (first | ((with_reducible refine gate_dst (N := 71) rfl ?_); refine Kd.R_lit (Kd.int .i64) _ 3 ?hg (N := 71) ?hd (xs := ([wrap64 (-(wrap64 ((wrap64 (x14_2 + x17_3)) - 1)))] : List Int)) (inner := [.int .i64 (wrap64 (-(wrap64 ((wrap64 (x14_2 + x17_3)) - 1))))]) (ok := fun _ => True) (okp := fun _ => True) ?hr ?hp (fun _ hk => hk) trivial (Below.refl _ _) (Nat.le_refl _) (by simp) ?_; (case hd => rfl); (case hg => rfl); (case hr => first | (go_simp; done) | (go_simp; rfl)); (case hp => exact (Reps.one (show Kd.M (Kd.int .i64) _ _ _ (wrap64 (-(wrap64 ((wrap64 (x14_2 + x17_3)) - 1)))) [.int .i64 (wrap64 (-(wrap64 ((wrap64 (x14_2 + x17_3)) - 1))))] from rfl) (Reps.none _ _))); intro v128 w63 ho64 hb hg_ hnew_; clear hg_ hnew_; (first | rw [← Ny127.out] at ho64 | (simp only [Int.reduceToNat] at ho64; rw [← Ny127.out] at ho64)); have n0_ := Aside0.mk (Kd.N_elder' (by (with_reducible repeat (first | apply Kd.N_alloc | apply Kd.N_drewN | apply Kd.N_drew)); exact HO_13.out) (Kd.R_base ho64) hb); have n1_ := Aside0.mk (Kd.R_lower (Kd.R_newM (M := fun k_ => (w.heap.size ≤ k_)) ho64 (below_size (by repeat (first | (with_reducible first | exact HB.out | apply below_alloc | apply pw_below_drewN | apply below_drew1) | exact HB.out))) (fun k_ h_ => h_)) (below_size (by repeat (first | (with_reducible first | exact HB.out | apply below_alloc | apply pw_below_drewN | apply below_drew1) | exact HB.out)))); have n2_ := Aside0.mk (below_step (by repeat (first | (with_reducible first | exact HB.out | apply below_alloc | apply pw_below_drewN | apply below_drew1) | exact HB.out)) hb); clear HO_13; clear HB; have HO_13 := n0_; have HO129 := n1_; have HB := n2_; clear n0_ n1_ n2_; clear hb ho64) | ((with_reducible refine gate_dst (N := 74) rfl ?_); refine Kd.R_lit (Kd.int .i64) _ 3 ?hg (N := 74) ?hd (xs := ([wrap64 (-(wrap64 ((wrap64 (x14_2 + x17_3)) - 1)))] : List Int)) (inner := [.int .i64 (wrap64 (-(wrap64 ((wrap64 (x14_2 + x17_3)) - 1))))]) (ok := fun _ => True) (okp := fun _ => True) ?hr ?hp (fun _ hk => hk) trivial (Below.refl _ _) (Nat.le_refl _) (by simp) ?_; (case hd => rfl); (case hg => rfl); (case hr => first | (go_simp; done) | (go_simp; rfl)); (case hp => exact (Reps.one (show Kd.M (Kd.int .i64) _ _ _ (wrap64 (-(wrap64 ((wrap64 (x14_2 + x17_3)) - 1)))) [.int .i64 (wrap64 (-(wrap64 ((wrap64 (x14_2 + x17_3)) - 1))))] from rfl) (Reps.none _ _))); intro v131 w65 ho66 hb hg_ hnew_; clear hg_ hnew_; (first | rw [← Ny130.out] at ho66 | (simp only [Int.reduceToNat] at ho66; rw [← Ny130.out] at ho66)); have n0_ := Aside0.mk (Kd.N_elder' (by (with_reducible repeat (first | apply Kd.N_alloc | apply Kd.N_drewN | apply Kd.N_drew)); exact HO_13.out) (Kd.R_base ho66) hb); have n1_ := Aside0.mk (Kd.R_elder' (by (with_reducible repeat (first | apply Kd.R_alloc | apply Kd.R_drewN | apply Kd.R_drew)); exact HO129.out) (Kd.R_base ho66) hb); have n2_ := Aside0.mk (Kd.R_lower (Kd.R_new' (Kd.R_newM (M := fun k_ => (w.heap.size ≤ k_)) ho66 (below_size (by repeat (first | (with_reducible first | exact HB.out | apply below_alloc | apply pw_below_drewN | apply below_drew1) | exact HB.out))) (fun k_ h_ => h_)) (Kd.R_lt (by (with_reducible repeat (first | apply Kd.R_alloc | apply Kd.R_drewN | apply Kd.R_drew)); exact HO129.out))) (below_size (by repeat (first | (with_reducible first | exact HB.out | apply below_alloc | apply pw_below_drewN | apply below_drew1) | exact HB.out)))); have n3_ := Aside0.mk (below_step (by repeat (first | (with_reducible first | exact HB.out | apply below_alloc | apply pw_below_drewN | apply below_drew1) | exact HB.out)) hb); clear HO_13; clear HO129; clear HB; have HO_13 := n0_; have HO129 := n1_; have HO132 := n2_; have HB := n3_; clear n0_ n1_ n2_ n3_; clear hb ho66; have p152 : 0 ≤ ((ji55) : Int) := of_decide_eq_true (by first | (with_reducible assumption) | assumption); have q152 : (ji55) < (l0.length : Int) := of_decide_eq_true (by first | (with_reducible assumption) | assumption); obtain ⟨ad152, e152, hx152_0⟩ := Kd.at_int HR0.out (ji55) p152 q152; cases e152; replace hx152_0 := (HB.out.cell (World.block_lt_of_cell? w _ hx152_0)).trans hx152_0; replace p152 := eq_true p152; replace q152 := eq_true q152) | ((with_reducible refine gate_builtin (b := .append) (xs := #[.tmp 95, .tmp 101]) rfl ?_); at_builtin; refine Kd.R_append (Kd.int .i64) (w0 := w) w.heap.size rfl (.tmp 95) (.tmp 101) 22 3 (.int .i64 0) 8 rfl Try.underlying22 info3 rfl (by decide) (by omega) v128 y127 (rd l0 (ji55)) [.int .i64 (rd l0 (ji55))] (fun k_ => (w.heap.size ≤ k_) ∧ some k_ ≠ (v131 : Value).ownBlock) (fun _ => False) rfl rfl ?aP (fun _ hk => hk.elim) ?aF ?aO ?aB ?aS ?aL ?_; (case aP => exact rfl); (case aB => exact (by repeat (first | (with_reducible first | exact HB.out | apply below_alloc | apply pw_below_drewN | apply below_drew1) | exact HB.out))); (case aF => exact (fun k_ hk => ⟨(Nat.le_trans (below_size (by repeat (first | (with_reducible first | exact HB.out | apply below_alloc | apply pw_below_drewN | apply below_drew1) | exact HB.out))) hk), Kd.fresh' (Kd.R_lt (by (with_reducible repeat (first | apply Kd.R_alloc | apply Kd.R_drewN | apply Kd.R_drew)); exact HO132.out)) k_ hk⟩)); (case aO => exact (by (with_reducible repeat (first | apply Kd.R_alloc | apply Kd.R_drewN | apply Kd.R_drew)); exact Kd.R_mono HO129.out (fun _ hk => ⟨hk.1.1, hk.2⟩))); (case aS => exact (below_size (by repeat (first | (with_reducible first | exact HB.out | apply below_alloc | apply pw_below_drewN | apply below_drew1) | exact HB.out)))); (case aL => have := LMc58.out; omega); intro v154 w67 ho hb hg hat; rw [← Ny153.out] at ho; have n0_ := Aside0.mk (Kd.N_afterv (ok := (fun k_ => (w.heap.size ≤ k_) ∧ some k_ ≠ (v131 : Value).ownBlock)) (by (with_reducible repeat (first | apply Kd.N_alloc | apply Kd.N_drewN | apply Kd.N_drew)); exact Kd.N_mono HO_13.out (fun _ hk => ⟨⟨hk.1.1, hk.2⟩, hk.1.2⟩)) hg hat); have n1_ := Aside0.mk (Kd.R_after (ok := (fun k_ => (w.heap.size ≤ k_))) (by (with_reducible repeat (first | apply Kd.R_alloc | apply Kd.R_drewN | apply Kd.R_drew)); exact Kd.R_mono HO132.out (fun _ hk => ⟨hk.1.1, hk.2⟩)) hg hat); have n2_ := Aside0.mk (hb); have n3_ := Aside0.mk (ho); clear HO_13; clear HO132; clear HB; clear HO129; have HO_13 := n0_; have HO132 := n1_; have HB := n2_; have HO155 := n3_; clear n0_ n1_ n2_ n3_; clear ho hb hg hat; obtain ⟨Ao69, co69, eo69⟩ := Kd.R_slice HO155.out; subst eo69) | ((with_reducible refine gate_builtin (b := .append) (xs := #[.tmp 103, .tmp 105]) rfl ?_); at_builtin; refine Kd.N_append (Kd.slice 3 (Kd.int .i64)) (w0 := w) w.heap.size rfl (.tmp 103) (.tmp 105) 24 22 (.slice none 0 0) 24 rfl Try.underlying24 info22 rfl (by decide) (by omega) u13 x13_3 y153 [.slice Ao69 y153.length co69] (fun k_ => (w.heap.size ≤ k_) ∧ some k_ ≠ (v131 : Value).ownBlock) (fun k_ => ((fun k_ => (w.heap.size ≤ k_) ∧ some k_ ≠ (v131 : Value).ownBlock)) k_ ∧ some k_ ≠ (u13 : Value).ownBlock) rfl rfl ?aP (fun _ hk => hk) ?aF ?aO ?aB ?aS ?aL ?_; (case aP => exact (Kd.FK_slice_mk (Kd.R_reads' (Kd.R_mono (ok' := (fun k_ => ((fun k_ => (w.heap.size ≤ k_) ∧ some k_ ≠ (v131 : Value).ownBlock)) k_ ∧ some k_ ≠ (u13 : Value).ownBlock)) (Kd.R_apart' (HO155.out) (Kd.N_typed HO_13.out) (by decide)) (fun k_ hk => ⟨⟨hk.1.1, hk.1.2⟩, hk.2⟩))).2.1 (Kd.R_F (Kd.R_mono (ok' := (fun k_ => ((fun k_ => (w.heap.size ≤ k_) ∧ some k_ ≠ (v131 : Value).ownBlock)) k_ ∧ some k_ ≠ (u13 : Value).ownBlock)) (Kd.R_apart' (HO155.out) (Kd.N_typed HO_13.out) (by decide)) (fun k_ hk => ⟨⟨hk.1.1, hk.1.2⟩, hk.2⟩))))); (case aB => exact (by repeat (first | (with_reducible first | exact HB.out | apply below_alloc | apply pw_below_drewN | apply below_drew1) | exact HB.out))); (case aF => exact (fun k_ hk => ⟨(Nat.le_trans (below_size (by repeat (first | (with_reducible first | exact HB.out | apply below_alloc | apply pw_below_drewN | apply below_drew1) | exact HB.out))) hk), Kd.fresh' (Kd.R_lt (by (with_reducible repeat (first | apply Kd.R_alloc | apply Kd.R_drewN | apply Kd.R_drew)); exact HO132.out)) k_ hk⟩)); (case aO => exact (by (with_reducible repeat (first | apply Kd.N_alloc | apply Kd.N_drewN | apply Kd.N_drew)); exact Kd.N_mono HO_13.out (fun _ hk => ⟨hk.1.1, hk.1.2⟩))); (case aS => exact (below_size (by repeat (first | (with_reducible first | exact HB.out | apply below_alloc | apply pw_below_drewN | apply below_drew1) | exact HB.out)))); (case aL => have := LMc59.out; omega); intro v157 w68 ho hb hg hat; rw [← Ny156.out] at ho; have n0_ := Aside0.mk (Kd.R_over' (by (with_reducible repeat (first | apply Kd.R_alloc | apply Kd.R_drewN | apply Kd.R_drew)); exact HO132.out) (Kd.N_typed (by (with_reducible repeat (first | apply Kd.N_alloc | apply Kd.N_drewN | apply Kd.N_drew)); exact HO_13.out)) (by decide) hg); have n1_ := Aside0.mk (hb); have n2_ := Aside0.mk (ho); clear HO132; clear HB; clear HO_13; clear HO155; have HO132 := n0_; have HB := n1_; have HO158 := n2_; clear n0_ n1_ n2_; clear ho hb hg hat) | ((with_reducible refine gate_builtin (b := .append) (xs := #[.tmp 109, .tmp 114]) rfl ?_); at_builtin; refine Kd.R_append (Kd.int .i64) (w0 := w) w.heap.size rfl (.tmp 109) (.tmp 114) 22 3 (.int .i64 0) 8 rfl Try.underlying22 info3 rfl (by decide) (by omega) v131 y130 (wrap64 ((wrap64 (x15_2 + x17_3)) - 2)) [.int .i64 (wrap64 ((wrap64 (x15_2 + x17_3)) - 2))] (fun k_ => (w.heap.size ≤ k_)) (fun _ => False) rfl rfl ?aP (fun _ hk => hk.elim) ?aF ?aO ?aB ?aS ?aL ?_; (case aP => exact rfl); (case aB => exact (by repeat (first | (with_reducible first | exact HB.out | apply below_alloc | apply pw_below_drewN | apply below_drew1) | exact HB.out))); (case aF => exact (fun k_ hk => (Nat.le_trans (below_size (by repeat (first | (with_reducible first | exact HB.out | apply below_alloc | apply pw_below_drewN | apply below_drew1) | exact HB.out))) hk))); (case aO => exact (by (with_reducible repeat (first | apply Kd.R_alloc | apply Kd.R_drewN | apply Kd.R_drew)); exact Kd.R_mono HO132.out (fun _ hk => hk.1))); (case aS => exact (below_size (by repeat (first | (with_reducible first | exact HB.out | apply below_alloc | apply pw_below_drewN | apply below_drew1) | exact HB.out)))); (case aL => have := LMc61.out; omega); intro v160 w70 ho hb hg hat; rw [← Ny159.out] at ho; have n0_ := Aside0.mk (Kd.N_afterv (ok := (fun k_ => (w.heap.size ≤ k_))) (by (with_reducible repeat (first | apply Kd.N_alloc | apply Kd.N_drewN | apply Kd.N_drew)); exact HO158.out) hg hat); have n1_ := Aside0.mk (hb); have n2_ := Aside0.mk (ho); clear HO158; clear HB; clear HO132; have HO158 := n0_; have HB := n1_; have HO161 := n2_; clear n0_ n1_ n2_; clear ho hb hg hat; obtain ⟨Ao72, co72, eo72⟩ := Kd.R_slice HO161.out; subst eo72) | ((with_reducible refine gate_builtin (b := .append) (xs := #[.tmp 116, .tmp 118]) rfl ?_); at_builtin; refine Kd.N_append (Kd.slice 3 (Kd.int .i64)) (w0 := w) w.heap.size rfl (.tmp 116) (.tmp 118) 24 22 (.slice none 0 0) 24 rfl Try.underlying24 info22 rfl (by decide) (by omega) v157 y156 y159 [.slice Ao72 y159.length co72] (fun k_ => (w.heap.size ≤ k_)) (fun k_ => ((fun k_ => (w.heap.size ≤ k_))) k_ ∧ some k_ ≠ (v157 : Value).ownBlock) rfl rfl ?aP (fun _ hk => hk) ?aF ?aO ?aB ?aS ?aL ?_; (case aP => exact (Kd.FK_slice_mk (Kd.R_reads' (Kd.R_mono (ok' := (fun k_ => ((fun k_ => (w.heap.size ≤ k_))) k_ ∧ some k_ ≠ (v157 : Value).ownBlock)) (Kd.R_apart' (HO161.out) (Kd.N_typed HO158.out) (by decide)) (fun k_ hk => ⟨hk.1, hk.2⟩))).2.1 (Kd.R_F (Kd.R_mono (ok' := (fun k_ => ((fun k_ => (w.heap.size ≤ k_))) k_ ∧ some k_ ≠ (v157 : Value).ownBlock)) (Kd.R_apart' (HO161.out) (Kd.N_typed HO158.out) (by decide)) (fun k_ hk => ⟨hk.1, hk.2⟩))))); (case aB => exact (by repeat (first | (with_reducible first | exact HB.out | apply below_alloc | apply pw_below_drewN | apply below_drew1) | exact HB.out))); (case aF => exact (fun k_ hk => (Nat.le_trans (below_size (by repeat (first | (with_reducible first | exact HB.out | apply below_alloc | apply pw_below_drewN | apply below_drew1) | exact HB.out))) hk))); (case aO => exact (by (with_reducible repeat (first | apply Kd.N_alloc | apply Kd.N_drewN | apply Kd.N_drew)); exact Kd.N_mono HO158.out (fun _ hk => hk.1))); (case aS => exact (below_size (by repeat (first | (with_reducible first | exact HB.out | apply below_alloc | apply pw_below_drewN | apply below_drew1) | exact HB.out)))); (case aL => have := LMc62.out; omega); intro v163 w71 ho hb hg hat; rw [← Ny162.out] at ho; have n0_ := Aside0.mk (hb); have n1_ := Aside0.mk (ho); clear HB; clear HO158; clear HO161; have HB := n0_; have HO164 := n1_; clear n0_ n1_; clear ho hb hg hat))
                                            go_roundg k3
                                            case measure => have := HK1.out; have := HK2.out; have := HK3.out; omega
                                            case rel => exact ⟨(y162), (wrap64 (x17_3 + 1)), (by first | rfl | (simp; done) | (simp [*]; done)), H', ⟨by have := HK1.out; have := HK2.out; have := HK3.out; omega⟩, ⟨by (with_reducible repeat (first | apply Kd.N_alloc | apply Kd.N_drewN | apply Kd.N_drew)); exact HO164.out⟩, ⟨by repeat (first | (with_reducible first | exact HB.out | apply below_alloc | apply pw_below_drewN | apply below_drew1) | exact HB.out)⟩⟩
                                          · rw [if_neg c62] at H
                                            exact absurd H (by simp)
                                        · rw [if_neg c61] at H
                                          exact absurd H (by simp)
                                      · rw [if_neg c60] at H
                                        have c60b0 : decide (2 ≤ x17_3) = false := decide_eq_false c60
                                        clear c60
                                        have H' := Aside0.mk H
                                        clear H
                                        go_wp2_with (first | ((with_reducible refine gate_dst (N := 71) rfl ?_); refine Kd.R_lit (Kd.int .i64) _ 3 ?hg (N := 71) ?hd (xs := ([wrap64 (-(wrap64 ((wrap64 (x14_2 + x17_3)) - 1)))] : List Int)) (inner := [.int .i64 (wrap64 (-(wrap64 ((wrap64 (x14_2 + x17_3)) - 1))))]) (ok := fun _ => True) (okp := fun _ => True) ?hr ?hp (fun _ hk => hk) trivial (Below.refl _ _) (Nat.le_refl _) (by simp) ?_; (case hd => rfl); (case hg => rfl); (case hr => first | (go_simp; done) | (go_simp; rfl)); (case hp => exact (Reps.one (show Kd.M (Kd.int .i64) _ _ _ (wrap64 (-(wrap64 ((wrap64 (x14_2 + x17_3)) - 1)))) [.int .i64 (wrap64 (-(wrap64 ((wrap64 (x14_2 + x17_3)) - 1))))] from rfl) (Reps.none _ _))); intro v128 w73 ho74 hb hg_ hnew_; clear hg_ hnew_; (first | rw [← Ny127.out] at ho74 | (simp only [Int.reduceToNat] at ho74; rw [← Ny127.out] at ho74)); have n0_ := Aside0.mk (Kd.N_elder' (by (with_reducible repeat (first | apply Kd.N_alloc | apply Kd.N_drewN | apply Kd.N_drew)); exact HO_13.out) (Kd.R_base ho74) hb); have n1_ := Aside0.mk (Kd.R_lower (Kd.R_newM (M := fun k_ => (w.heap.size ≤ k_)) ho74 (below_size (by repeat (first | (with_reducible first | exact HB.out | apply below_alloc | apply pw_below_drewN | apply below_drew1) | exact HB.out))) (fun k_ h_ => h_)) (below_size (by repeat (first | (with_reducible first | exact HB.out | apply below_alloc | apply pw_below_drewN | apply below_drew1) | exact HB.out)))); have n2_ := Aside0.mk (below_step (by repeat (first | (with_reducible first | exact HB.out | apply below_alloc | apply pw_below_drewN | apply below_drew1) | exact HB.out)) hb); clear HO_13; clear HB; have HO_13 := n0_; have HO129 := n1_; have HB := n2_; clear n0_ n1_ n2_; clear hb ho74) | ((with_reducible refine gate_dst (N := 74) rfl ?_); refine Kd.R_lit (Kd.int .i64) _ 3 ?hg (N := 74) ?hd (xs := ([wrap64 (-(wrap64 ((wrap64 (x14_2 + x17_3)) - 1)))] : List Int)) (inner := [.int .i64 (wrap64 (-(wrap64 ((wrap64 (x14_2 + x17_3)) - 1))))]) (ok := fun _ => True) (okp := fun _ => True) ?hr ?hp (fun _ hk => hk) trivial (Below.refl _ _) (Nat.le_refl _) (by simp) ?_; (case hd => rfl); (case hg => rfl); (case hr => first | (go_simp; done) | (go_simp; rfl)); (case hp => exact (Reps.one (show Kd.M (Kd.int .i64) _ _ _ (wrap64 (-(wrap64 ((wrap64 (x14_2 + x17_3)) - 1)))) [.int .i64 (wrap64 (-(wrap64 ((wrap64 (x14_2 + x17_3)) - 1))))] from rfl) (Reps.none _ _))); intro v131 w75 ho76 hb hg_ hnew_; clear hg_ hnew_; (first | rw [← Ny130.out] at ho76 | (simp only [Int.reduceToNat] at ho76; rw [← Ny130.out] at ho76)); have n0_ := Aside0.mk (Kd.N_elder' (by (with_reducible repeat (first | apply Kd.N_alloc | apply Kd.N_drewN | apply Kd.N_drew)); exact HO_13.out) (Kd.R_base ho76) hb); have n1_ := Aside0.mk (Kd.R_elder' (by (with_reducible repeat (first | apply Kd.R_alloc | apply Kd.R_drewN | apply Kd.R_drew)); exact HO129.out) (Kd.R_base ho76) hb); have n2_ := Aside0.mk (Kd.R_lower (Kd.R_new' (Kd.R_newM (M := fun k_ => (w.heap.size ≤ k_)) ho76 (below_size (by repeat (first | (with_reducible first | exact HB.out | apply below_alloc | apply pw_below_drewN | apply below_drew1) | exact HB.out))) (fun k_ h_ => h_)) (Kd.R_lt (by (with_reducible repeat (first | apply Kd.R_alloc | apply Kd.R_drewN | apply Kd.R_drew)); exact HO129.out))) (below_size (by repeat (first | (with_reducible first | exact HB.out | apply below_alloc | apply pw_below_drewN | apply below_drew1) | exact HB.out)))); have n3_ := Aside0.mk (below_step (by repeat (first | (with_reducible first | exact HB.out | apply below_alloc | apply pw_below_drewN | apply below_drew1) | exact HB.out)) hb); clear HO_13; clear HO129; clear HB; have HO_13 := n0_; have HO129 := n1_; have HO132 := n2_; have HB := n3_; clear n0_ n1_ n2_ n3_; clear hb ho76; have p152 : 0 ≤ ((ji55) : Int) := of_decide_eq_true (by first | (with_reducible assumption) | assumption); have q152 : (ji55) < (l0.length : Int) := of_decide_eq_true (by first | (with_reducible assumption) | assumption); obtain ⟨ad152, e152, hx152_0⟩ := Kd.at_int HR0.out (ji55) p152 q152; cases e152; replace hx152_0 := (HB.out.cell (World.block_lt_of_cell? w _ hx152_0)).trans hx152_0; replace p152 := eq_true p152; replace q152 := eq_true q152) | ((with_reducible refine gate_builtin (b := .append) (xs := #[.tmp 95, .tmp 101]) rfl ?_); at_builtin; refine Kd.R_append (Kd.int .i64) (w0 := w) w.heap.size rfl (.tmp 95) (.tmp 101) 22 3 (.int .i64 0) 8 rfl Try.underlying22 info3 rfl (by decide) (by omega) v128 y127 (rd l0 (ji55)) [.int .i64 (rd l0 (ji55))] (fun k_ => (w.heap.size ≤ k_) ∧ some k_ ≠ (v131 : Value).ownBlock) (fun _ => False) rfl rfl ?aP (fun _ hk => hk.elim) ?aF ?aO ?aB ?aS ?aL ?_; (case aP => exact rfl); (case aB => exact (by repeat (first | (with_reducible first | exact HB.out | apply below_alloc | apply pw_below_drewN | apply below_drew1) | exact HB.out))); (case aF => exact (fun k_ hk => ⟨(Nat.le_trans (below_size (by repeat (first | (with_reducible first | exact HB.out | apply below_alloc | apply pw_below_drewN | apply below_drew1) | exact HB.out))) hk), Kd.fresh' (Kd.R_lt (by (with_reducible repeat (first | apply Kd.R_alloc | apply Kd.R_drewN | apply Kd.R_drew)); exact HO132.out)) k_ hk⟩)); (case aO => exact (by (with_reducible repeat (first | apply Kd.R_alloc | apply Kd.R_drewN | apply Kd.R_drew)); exact Kd.R_mono HO129.out (fun _ hk => ⟨hk.1.1, hk.2⟩))); (case aS => exact (below_size (by repeat (first | (with_reducible first | exact HB.out | apply below_alloc | apply pw_below_drewN | apply below_drew1) | exact HB.out)))); (case aL => have := LMc58.out; omega); intro v154 w77 ho hb hg hat; rw [← Ny153.out] at ho; have n0_ := Aside0.mk (Kd.N_afterv (ok := (fun k_ => (w.heap.size ≤ k_) ∧ some k_ ≠ (v131 : Value).ownBlock)) (by (with_reducible repeat (first | apply Kd.N_alloc | apply Kd.N_drewN | apply Kd.N_drew)); exact Kd.N_mono HO_13.out (fun _ hk => ⟨⟨hk.1.1, hk.2⟩, hk.1.2⟩)) hg hat); have n1_ := Aside0.mk (Kd.R_after (ok := (fun k_ => (w.heap.size ≤ k_))) (by (with_reducible repeat (first | apply Kd.R_alloc | apply Kd.R_drewN | apply Kd.R_drew)); exact Kd.R_mono HO132.out (fun _ hk => ⟨hk.1.1, hk.2⟩)) hg hat); have n2_ := Aside0.mk (hb); have n3_ := Aside0.mk (ho); clear HO_13; clear HO132; clear HB; clear HO129; have HO_13 := n0_; have HO132 := n1_; have HB := n2_; have HO155 := n3_; clear n0_ n1_ n2_ n3_; clear ho hb hg hat; obtain ⟨Ao79, co79, eo79⟩ := Kd.R_slice HO155.out; subst eo79) | ((with_reducible refine gate_builtin (b := .append) (xs := #[.tmp 103, .tmp 105]) rfl ?_); at_builtin; refine Kd.N_append (Kd.slice 3 (Kd.int .i64)) (w0 := w) w.heap.size rfl (.tmp 103) (.tmp 105) 24 22 (.slice none 0 0) 24 rfl Try.underlying24 info22 rfl (by decide) (by omega) u13 x13_3 y153 [.slice Ao79 y153.length co79] (fun k_ => (w.heap.size ≤ k_) ∧ some k_ ≠ (v131 : Value).ownBlock) (fun k_ => ((fun k_ => (w.heap.size ≤ k_) ∧ some k_ ≠ (v131 : Value).ownBlock)) k_ ∧ some k_ ≠ (u13 : Value).ownBlock) rfl rfl ?aP (fun _ hk => hk) ?aF ?aO ?aB ?aS ?aL ?_; (case aP => exact (Kd.FK_slice_mk (Kd.R_reads' (Kd.R_mono (ok' := (fun k_ => ((fun k_ => (w.heap.size ≤ k_) ∧ some k_ ≠ (v131 : Value).ownBlock)) k_ ∧ some k_ ≠ (u13 : Value).ownBlock)) (Kd.R_apart' (HO155.out) (Kd.N_typed HO_13.out) (by decide)) (fun k_ hk => ⟨⟨hk.1.1, hk.1.2⟩, hk.2⟩))).2.1 (Kd.R_F (Kd.R_mono (ok' := (fun k_ => ((fun k_ => (w.heap.size ≤ k_) ∧ some k_ ≠ (v131 : Value).ownBlock)) k_ ∧ some k_ ≠ (u13 : Value).ownBlock)) (Kd.R_apart' (HO155.out) (Kd.N_typed HO_13.out) (by decide)) (fun k_ hk => ⟨⟨hk.1.1, hk.1.2⟩, hk.2⟩))))); (case aB => exact (by repeat (first | (with_reducible first | exact HB.out | apply below_alloc | apply pw_below_drewN | apply below_drew1) | exact HB.out))); (case aF => exact (fun k_ hk => ⟨(Nat.le_trans (below_size (by repeat (first | (with_reducible first | exact HB.out | apply below_alloc | apply pw_below_drewN | apply below_drew1) | exact HB.out))) hk), Kd.fresh' (Kd.R_lt (by (with_reducible repeat (first | apply Kd.R_alloc | apply Kd.R_drewN | apply Kd.R_drew)); exact HO132.out)) k_ hk⟩)); (case aO => exact (by (with_reducible repeat (first | apply Kd.N_alloc | apply Kd.N_drewN | apply Kd.N_drew)); exact Kd.N_mono HO_13.out (fun _ hk => ⟨hk.1.1, hk.1.2⟩))); (case aS => exact (below_size (by repeat (first | (with_reducible first | exact HB.out | apply below_alloc | apply pw_below_drewN | apply below_drew1) | exact HB.out)))); (case aL => have := LMc59.out; omega); intro v157 w78 ho hb hg hat; rw [← Ny156.out] at ho; have n0_ := Aside0.mk (Kd.R_over' (by (with_reducible repeat (first | apply Kd.R_alloc | apply Kd.R_drewN | apply Kd.R_drew)); exact HO132.out) (Kd.N_typed (by (with_reducible repeat (first | apply Kd.N_alloc | apply Kd.N_drewN | apply Kd.N_drew)); exact HO_13.out)) (by decide) hg); have n1_ := Aside0.mk (hb); have n2_ := Aside0.mk (ho); clear HO132; clear HB; clear HO_13; clear HO155; have HO132 := n0_; have HB := n1_; have HO158 := n2_; clear n0_ n1_ n2_; clear ho hb hg hat))
                                        go_roundg k3
                                        case measure => have := HK1.out; have := HK2.out; have := HK3.out; omega
                                        case rel => exact ⟨(y156), (wrap64 (x17_3 + 1)), (by first | rfl | (simp; done) | (simp [*]; done)), H', ⟨by have := HK1.out; have := HK2.out; have := HK3.out; omega⟩, ⟨by (with_reducible repeat (first | apply Kd.N_alloc | apply Kd.N_drewN | apply Kd.N_drew)); exact Kd.N_mono HO158.out (fun _ hk => hk.1)⟩, ⟨by repeat (first | (with_reducible first | exact HB.out | apply below_alloc | apply pw_below_drewN | apply below_drew1) | exact HB.out)⟩⟩
                                    · rw [if_neg c59] at H
                                      exact absurd H (by simp)
                                  · rw [if_neg c58] at H
                                    exact absurd H (by simp)
                                · rw [if_neg c57] at H
                                  exact absurd H (by simp)
                              · rw [if_neg c56] at H
                                exact absurd H (by simp)
                          · rw [if_neg c21] at H
                            have c21b0 : decide (x17_3 ≤ (ji20)) = false := decide_eq_false c21
                            clear c21
                            have H' := Aside0.mk H
                            clear H
                            go_wp2
                            go_roundg k3
                            case measure => have := HK1.out; have := HK2.out; have := HK3.out; omega
                            case rel => exact ⟨(x13_3), (wrap64 (x14_2 + (ji20))), (x14_2), (wrap64 (x16_2 + 1)), (by first | rfl | (simp; done) | (simp only [← hji20] <;> (first | rfl | simp)) | (simp [*]; done)), (by first | rfl | (simp; done) | (simp [*]; done)), (by first | rfl | (simp; done) | (simp [*]; done)), H', ⟨by have := HK1.out; have := HK2.out; have := HK3.out; omega⟩, ⟨by (with_reducible repeat (first | apply Kd.N_alloc | apply Kd.N_drewN | apply Kd.N_drew)); exact HO_13.out⟩, ⟨by repeat (first | (with_reducible first | exact HB.out | apply below_alloc | apply pw_below_drewN | apply below_drew1) | exact HB.out)⟩⟩
                    · rw [if_neg c19] at H
                      have c19b0 : decide (x16_2 ≤ (l0.length : Int)) = false := decide_eq_false c19
                      clear c19
                      obtain ⟨y121, hy121⟩ : ∃ y_ : List Int, y_ = (([wrap64 ((wrap64 (x15_2 + a1)) - 1)] : List Int)) := ⟨_, rfl⟩
                      replace H : (if x13_2.length < 5864062014805 then ((some (x13_2 ++ [y121] : List (List Int))).bind fun y124 => (if (y124.length : Int) > 65536 then (some (([] : List (List Int)), 0, 2)) else (some (y124, x14_2, 0)))) else (none)) = some (r1, r2, r3) := by first | (rw [hy121]; with_reducible exact H) | (have H2_ := (Option.bind_some _ _).symm.trans H; rw [hy121]; with_reducible exact H2_) | (have H2_ := (Option.bind_some _ _).symm.trans H; with_reducible exact H2_) | with_reducible exact H | (rw [hy121]; exact H) | exact H
                      have Ny121 := Aside0.mk hy121
                      clear hy121
                      by_cases c81 : x13_2.length < 5864062014805
                      · rw [if_pos c81] at H
                        have LMc81 := Aside0.mk c81
                        clear c81
                        obtain ⟨y124, hy124⟩ : ∃ y_ : List (List Int), y_ = (x13_2 ++ [y121]) := ⟨_, rfl⟩
                        replace H : (if (y124.length : Int) > 65536 then (some (([] : List (List Int)), 0, 2)) else (some (y124, x14_2, 0))) = some (r1, r2, r3) := by first | (rw [hy124]; with_reducible exact H) | (have H2_ := (Option.bind_some _ _).symm.trans H; rw [hy124]; with_reducible exact H2_) | (have H2_ := (Option.bind_some _ _).symm.trans H; with_reducible exact H2_) | with_reducible exact H | (rw [hy124]; exact H) | exact H
                        have Ny124 := Aside0.mk hy124
                        clear hy124
                        by_cases c82 : (y124.length : Int) > 65536
                        · rw [if_pos c82] at H
                          have c82b0 : decide (65536 < (y124.length : Int)) = true := decide_eq_true c82
                          have c82b1 : decide (65536 < y124.length) = true := decide_eq_true (by omega)
                          clear c82
                          simp only [Option.some.injEq, Prod.mk.injEq] at H
                          obtain ⟨rfl, rfl, rfl⟩ := H
                          go_wp2_with (first | ((with_reducible refine gate_dst (N := 131) rfl ?_); refine Kd.R_lit (Kd.int .i64) _ 3 ?hg (N := 131) ?hd (xs := ([wrap64 ((wrap64 (x15_2 + a1)) - 1)] : List Int)) (inner := [.int .i64 (wrap64 ((wrap64 (x15_2 + a1)) - 1))]) (ok := fun _ => True) (okp := fun _ => True) ?hr ?hp (fun _ hk => hk) trivial (Below.refl _ _) (Nat.le_refl _) (by simp) ?_; (case hd => rfl); (case hg => rfl); (case hr => first | (go_simp; done) | (go_simp; rfl)); (case hp => exact (Reps.one (show Kd.M (Kd.int .i64) _ _ _ (wrap64 ((wrap64 (x15_2 + a1)) - 1)) [.int .i64 (wrap64 ((wrap64 (x15_2 + a1)) - 1))] from rfl) (Reps.none _ _))); intro v122 w83 ho84 hb hg_ hnew_; clear hg_ hnew_; (first | rw [← Ny121.out] at ho84 | (simp only [Int.reduceToNat] at ho84; rw [← Ny121.out] at ho84)); have n0_ := Aside0.mk (Kd.N_elder' (by (with_reducible repeat (first | apply Kd.N_alloc | apply Kd.N_drewN | apply Kd.N_drew)); exact HO_13.out) (Kd.R_base ho84) hb); have n1_ := Aside0.mk (Kd.R_lower (Kd.R_newM (M := fun k_ => (w.heap.size ≤ k_)) ho84 (below_size (by repeat (first | (with_reducible first | exact HB.out | apply below_alloc | apply pw_below_drewN | apply below_drew1) | exact HB.out))) (fun k_ h_ => h_)) (below_size (by repeat (first | (with_reducible first | exact HB.out | apply below_alloc | apply pw_below_drewN | apply below_drew1) | exact HB.out)))); have n2_ := Aside0.mk (below_step (by repeat (first | (with_reducible first | exact HB.out | apply below_alloc | apply pw_below_drewN | apply below_drew1) | exact HB.out)) hb); clear HO_13; clear HB; have HO_13 := n0_; have HO123 := n1_; have HB := n2_; clear n0_ n1_ n2_; clear hb ho84; obtain ⟨Ao86, co86, eo86⟩ := Kd.R_slice HO123.out; subst eo86) | ((with_reducible refine gate_builtin (b := .append) (xs := #[.tmp 126, .tmp 132]) rfl ?_); at_builtin; refine Kd.N_append (Kd.slice 3 (Kd.int .i64)) (w0 := w) w.heap.size rfl (.tmp 126) (.tmp 132) 24 22 (.slice none 0 0) 24 rfl Try.underlying24 info22 rfl (by decide) (by omega) u13 x13_2 y121 [.slice Ao86 y121.length co86] (fun k_ => (w.heap.size ≤ k_)) (fun k_ => ((fun k_ => (w.heap.size ≤ k_))) k_ ∧ some k_ ≠ (u13 : Value).ownBlock) rfl rfl ?aP (fun _ hk => hk) ?aF ?aO ?aB ?aS ?aL ?_; (case aP => exact (Kd.FK_slice_mk (Kd.R_reads' (Kd.R_mono (ok' := (fun k_ => ((fun k_ => (w.heap.size ≤ k_))) k_ ∧ some k_ ≠ (u13 : Value).ownBlock)) (Kd.R_apart' (HO123.out) (Kd.N_typed HO_13.out) (by decide)) (fun k_ hk => ⟨hk.1.1, hk.2⟩))).2.1 (Kd.R_F (Kd.R_mono (ok' := (fun k_ => ((fun k_ => (w.heap.size ≤ k_))) k_ ∧ some k_ ≠ (u13 : Value).ownBlock)) (Kd.R_apart' (HO123.out) (Kd.N_typed HO_13.out) (by decide)) (fun k_ hk => ⟨hk.1.1, hk.2⟩))))); (case aB => exact (by repeat (first | (with_reducible first | exact HB.out | apply below_alloc | apply pw_below_drewN | apply below_drew1) | exact HB.out))); (case aF => exact (fun k_ hk => (Nat.le_trans (below_size (by repeat (first | (with_reducible first | exact HB.out | apply below_alloc | apply pw_below_drewN | apply below_drew1) | exact HB.out))) hk))); (case aO => exact (by (with_reducible repeat (first | apply Kd.N_alloc | apply Kd.N_drewN | apply Kd.N_drew)); exact Kd.N_mono HO_13.out (fun _ hk => hk.1))); (case aS => exact (below_size (by repeat (first | (with_reducible first | exact HB.out | apply below_alloc | apply pw_below_drewN | apply below_drew1) | exact HB.out)))); (case aL => have := LMc81.out; omega); intro v125 w85 ho hb hg hat; rw [← Ny124.out] at ho; have n0_ := Aside0.mk (hb); have n1_ := Aside0.mk (ho); clear HB; clear HO_13; clear HO123; have HB := n0_; have HO126 := n1_; clear n0_ n1_; clear ho hb hg hat; obtain ⟨Ao87, co87, eo87⟩ := Kd.N_slice HO126.out; subst eo87))
                          go_ret3
                          exact ⟨_, by first | rfl | (simp [errW_none, errW_some] <;> rfl) | (simp [*, errW_none, errW_some] <;> rfl), by first | exact Kd.S_nil _ _ _ _ _ | exact Kd.N_nil _ _ _ _ _ | exact Kd.V_nil _ _ _ _ _ | exact Kd.Q_nil _ _ _ _ _ | exact Kd.R_nil _ _ _ _ _, by repeat (first | (with_reducible first | exact HB.out | apply below_alloc | apply pw_below_drewN | apply below_drew1) | exact HB.out)⟩
                        · rw [if_neg c82] at H
                          have c82b0 : decide (65536 < (y124.length : Int)) = false := decide_eq_false c82
                          have c82b1 : decide (65536 < y124.length) = false := decide_eq_false (by omega)
                          clear c82
                          simp only [Option.some.injEq, Prod.mk.injEq] at H
                          obtain ⟨rfl, rfl, rfl⟩ := H
                          go_wp2_with (first | ((with_reducible refine gate_dst (N := 131) rfl ?_); refine Kd.R_lit (Kd.int .i64) _ 3 ?hg (N := 131) ?hd (xs := ([wrap64 ((wrap64 (x15_2 + a1)) - 1)] : List Int)) (inner := [.int .i64 (wrap64 ((wrap64 (x15_2 + a1)) - 1))]) (ok := fun _ => True) (okp := fun _ => True) ?hr ?hp (fun _ hk => hk) trivial (Below.refl _ _) (Nat.le_refl _) (by simp) ?_; (case hd => rfl); (case hg => rfl); (case hr => first | (go_simp; done) | (go_simp; rfl)); (case hp => exact (Reps.one (show Kd.M (Kd.int .i64) _ _ _ (wrap64 ((wrap64 (x15_2 + a1)) - 1)) [.int .i64 (wrap64 ((wrap64 (x15_2 + a1)) - 1))] from rfl) (Reps.none _ _))); intro v122 w88 ho89 hb hg_ hnew_; clear hg_ hnew_; (first | rw [← Ny121.out] at ho89 | (simp only [Int.reduceToNat] at ho89; rw [← Ny121.out] at ho89)); have n0_ := Aside0.mk (Kd.N_elder' (by (with_reducible repeat (first | apply Kd.N_alloc | apply Kd.N_drewN | apply Kd.N_drew)); exact HO_13.out) (Kd.R_base ho89) hb); have n1_ := Aside0.mk (Kd.R_lower (Kd.R_newM (M := fun k_ => (w.heap.size ≤ k_)) ho89 (below_size (by repeat (first | (with_reducible first | exact HB.out | apply below_alloc | apply pw_below_drewN | apply below_drew1) | exact HB.out))) (fun k_ h_ => h_)) (below_size (by repeat (first | (with_reducible first | exact HB.out | apply below_alloc | apply pw_below_drewN | apply below_drew1) | exact HB.out)))); have n2_ := Aside0.mk (below_step (by repeat (first | (with_reducible first | exact HB.out | apply below_alloc | apply pw_below_drewN | apply below_drew1) | exact HB.out)) hb); clear HO_13; clear HB; have HO_13 := n0_; have HO123 := n1_; have HB := n2_; clear n0_ n1_ n2_; clear hb ho89; obtain ⟨Ao91, co91, eo91⟩ := Kd.R_slice HO123.out; subst eo91) | ((with_reducible refine gate_builtin (b := .append) (xs := #[.tmp 126, .tmp 132]) rfl ?_); at_builtin; refine Kd.N_append (Kd.slice 3 (Kd.int .i64)) (w0 := w) w.heap.size rfl (.tmp 126) (.tmp 132) 24 22 (.slice none 0 0) 24 rfl Try.underlying24 info22 rfl (by decide) (by omega) u13 x13_2 y121 [.slice Ao91 y121.length co91] (fun k_ => (w.heap.size ≤ k_)) (fun k_ => ((fun k_ => (w.heap.size ≤ k_))) k_ ∧ some k_ ≠ (u13 : Value).ownBlock) rfl rfl ?aP (fun _ hk => hk) ?aF ?aO ?aB ?aS ?aL ?_; (case aP => exact (Kd.FK_slice_mk (Kd.R_reads' (Kd.R_mono (ok' := (fun k_ => ((fun k_ => (w.heap.size ≤ k_))) k_ ∧ some k_ ≠ (u13 : Value).ownBlock)) (Kd.R_apart' (HO123.out) (Kd.N_typed HO_13.out) (by decide)) (fun k_ hk => ⟨hk.1.1, hk.2⟩))).2.1 (Kd.R_F (Kd.R_mono (ok' := (fun k_ => ((fun k_ => (w.heap.size ≤ k_))) k_ ∧ some k_ ≠ (u13 : Value).ownBlock)) (Kd.R_apart' (HO123.out) (Kd.N_typed HO_13.out) (by decide)) (fun k_ hk => ⟨hk.1.1, hk.2⟩))))); (case aB => exact (by repeat (first | (with_reducible first | exact HB.out | apply below_alloc | apply pw_below_drewN | apply below_drew1) | exact HB.out))); (case aF => exact (fun k_ hk => (Nat.le_trans (below_size (by repeat (first | (with_reducible first | exact HB.out | apply below_alloc | apply pw_below_drewN | apply below_drew1) | exact HB.out))) hk))); (case aO => exact (by (with_reducible repeat (first | apply Kd.N_alloc | apply Kd.N_drewN | apply Kd.N_drew)); exact Kd.N_mono HO_13.out (fun _ hk => hk.1))); (case aS => exact (below_size (by repeat (first | (with_reducible first | exact HB.out | apply below_alloc | apply pw_below_drewN | apply below_drew1) | exact HB.out)))); (case aL => have := LMc81.out; omega); intro v125 w90 ho hb hg hat; rw [← Ny124.out] at ho; have n0_ := Aside0.mk (hb); have n1_ := Aside0.mk (ho); clear HB; clear HO_13; clear HO123; have HB := n0_; have HO126 := n1_; clear n0_ n1_; clear ho hb hg hat; obtain ⟨Ao92, co92, eo92⟩ := Kd.N_slice HO126.out; subst eo92))
                          go_ret3
                          exact ⟨_, by first | rfl | (simp [errW_none, errW_some] <;> rfl) | (simp [*, errW_none, errW_some] <;> rfl), by (with_reducible repeat (first | apply Kd.N_alloc | apply Kd.N_drewN | apply Kd.N_drew)); exact HO126.out, by repeat (first | (with_reducible first | exact HB.out | apply below_alloc | apply pw_below_drewN | apply below_drew1) | exact HB.out)⟩
                      · rw [if_neg c81] at H
                        exact absurd H (by simp)
  · rw [if_neg c5] at H
    have c5b0 : (t114 == 0) = false := beq_eq_false_iff_ne.mpr c5
    have c5b1 : (t114 != 0) = true := bne_iff_ne.mpr c5
    simp only [Option.some.injEq, Prod.mk.injEq] at H
    obtain ⟨rfl, rfl, rfl⟩ := H
    go_enter Try.func14, Try.ntmps14
    go_wp2_with (first | ((with_reducible refine gate_callee (f := 30) rfl ?_); refine goesL_ (some 23) rfl rfl Try.func30 (by kernel_rfl) rfl #[.slice A0 l0.length c0, .int .i64 a2] rfl (by (try simp only [List.map_toArray, List.map_cons, List.map_nil]); first | done | rfl | (simp only [List.length_drop, List.length_take]; rfl)) ?_; (with_reducible refine (chalklineref16_lits.calls k _ _ l0 a2 t114 _ ?side1 ?side2 A4.out).mono ?_); (case side1 => repeat (first | exact HR0.out | (with_reducible refine Kd.C_alloc ?_ _) | (with_reducible refine Kd.C_drewN ?_ _) | (with_reducible refine Kd.C_drew ?_))); (case side2 => exact HC0.out); rintro e w93 ⟨rfl, hb⟩; refine ⟨_, rfl, ?_⟩; have n0_ := Aside0.mk (below_step (by repeat (first | (with_reducible first | exact HB.out | apply below_alloc | apply pw_below_drewN | apply below_drew1) | exact HB.out)) hb); clear HB; have HB := n0_; clear n0_; (try clear hb); (try clear hb2); (try clear hk); (try clear hi)))
    go_ret3
    exact ⟨_, by first | rfl | (simp [errW_none, errW_some] <;> rfl) | (simp [*, errW_none, errW_some] <;> rfl), by first | exact Kd.S_nil _ _ _ _ _ | exact Kd.N_nil _ _ _ _ _ | exact Kd.V_nil _ _ _ _ _ | exact Kd.Q_nil _ _ _ _ _ | exact Kd.R_nil _ _ _ _ _, by repeat (first | (with_reducible first | exact HB.out | apply below_alloc | apply pw_below_drewN | apply below_drew1) | exact HB.out)⟩

/-! ### chalklineref16_Most: function 17 -/
mutual
def chalklineref16_Most.j0 : Nat → List Int → Int → Int → Option ((List (List Int)) × Int × Int)
  | 0, _, _, _ => none
  | k + 1, x0, x2, x11 => chalklineref16_Most.l0 k x2 x11 ([] : List Int) x0 (x0.length : Int) 0
def chalklineref16_Most.l0 : Nat → Int → Int → List Int → List Int → Int → Int → Option ((List (List Int)) × Int × Int)
  | 0, _, _, _, _, _, _ => none
  | k + 1, x2, x11, x12, x33, x34, x35 => if x35 < x34 then (if 0 ≤ x35 then (if x35 < (x33.length : Int) then (if x12.length < 17592186044416 then (chalklineref16_Most.l0 k x2 x11 (x12 ++ [wrap64 (-(rd x33 x35))]) x33 x34 (wrap64 (x35 + 1))) else (none)) else (none)) else (none)) else ((chalklineref16_Least.f k x12 x11 x2).bind fun bt170 => (some (bt170.1, bt170.2.1, bt170.2.2)))
end
def chalklineref16_Most.f (k : Nat) (l0 : List Int) (a1 : Int) (a2 : Int) : Option ((List (List Int)) × Int × Int) := (chalklineref16_lits.f k l0 a2).bind fun t165 => (if t165 = 0 then (if a1 < 0 then (chalklineref16_Most.j0 k l0 a2 (wrap64 ((l0.length : Int) + 1))) else (if a1 < (l0.length : Int) then (chalklineref16_Most.j0 k l0 a2 (wrap64 ((l0.length : Int) - a1))) else (chalklineref16_Most.j0 k l0 a2 0))) else (some (([] : List (List Int)), 0, t165)))
theorem chalklineref16_Most.mono_l : ∀ k, (∀ y0 y1 y2, LeO (chalklineref16_Most.j0 k y0 y1 y2) (chalklineref16_Most.j0 (k + 1) y0 y1 y2)) ∧ (∀ y0 y1 y2 y3 y4 y5, LeO (chalklineref16_Most.l0 k y0 y1 y2 y3 y4 y5) (chalklineref16_Most.l0 (k + 1) y0 y1 y2 y3 y4 y5))
  | 0 => ⟨fun _ _ _ r h => by simp [chalklineref16_Most.j0] at h, fun _ _ _ _ _ _ r h => by simp [chalklineref16_Most.l0] at h⟩
  | k + 1 => by
    obtain ⟨ih0, ih1⟩ := chalklineref16_Most.mono_l k
    refine ⟨?_, ?_⟩
    · intro y0 y1 y2
      unfold chalklineref16_Most.j0
      repeat' first
      | (with_reducible exact ih0 _ _ _)
      | (with_reducible exact ih1 _ _ _ _ _ _)
      | (with_reducible exact chalklineref16_Least.mono _ _ _ _)
      | (with_reducible exact chalklineref16_lits.mono _ _ _)
      | (with_reducible exact LeO.refl _)
      | (with_reducible exact LeO.none _)
      | (with_reducible refine LeO.ite ?_ ?_)
      | (with_reducible refine LeO.bind ?_ (fun _ => ?_))
      | exact ih0 _ _ _
      | exact ih1 _ _ _ _ _ _
      | exact chalklineref16_Least.mono _ _ _ _
      | exact chalklineref16_lits.mono _ _ _
      | exact LeO.none _
      | refine LeO.ite ?_ ?_
      | refine LeO.bind ?_ (fun _ => ?_)
    · intro y0 y1 y2 y3 y4 y5
      unfold chalklineref16_Most.l0
      repeat' first
      | (with_reducible exact ih0 _ _ _)
      | (with_reducible exact ih1 _ _ _ _ _ _)
      | (with_reducible exact chalklineref16_Least.mono _ _ _ _)
      | (with_reducible exact chalklineref16_lits.mono _ _ _)
      | (with_reducible exact LeO.refl _)
      | (with_reducible exact LeO.none _)
      | (with_reducible refine LeO.ite ?_ ?_)
      | (with_reducible refine LeO.bind ?_ (fun _ => ?_))
      | exact ih0 _ _ _
      | exact ih1 _ _ _ _ _ _
      | exact chalklineref16_Least.mono _ _ _ _
      | exact chalklineref16_lits.mono _ _ _
      | exact LeO.none _
      | refine LeO.ite ?_ ?_
      | refine LeO.bind ?_ (fun _ => ?_)
theorem chalklineref16_Most.mono : ∀ a0 a1 a2 k, LeO (chalklineref16_Most.f k a0 a1 a2) (chalklineref16_Most.f (k + 1) a0 a1 a2) := by
  intro a0 a1 a2 k
  obtain ⟨ih0, ih1⟩ := chalklineref16_Most.mono_l k
  unfold chalklineref16_Most.f
  repeat' first
      | (with_reducible exact ih0 _ _ _)
      | (with_reducible exact ih1 _ _ _ _ _ _)
      | (with_reducible exact chalklineref16_Least.mono _ _ _ _)
      | (with_reducible exact chalklineref16_lits.mono _ _ _)
      | (with_reducible exact LeO.refl _)
      | (with_reducible exact LeO.none _)
      | (with_reducible refine LeO.ite ?_ ?_)
      | (with_reducible refine LeO.bind ?_ (fun _ => ?_))
      | exact ih0 _ _ _
      | exact ih1 _ _ _ _ _ _
      | exact chalklineref16_Least.mono _ _ _ _
      | exact chalklineref16_lits.mono _ _ _
      | exact LeO.none _
      | refine LeO.ite ?_ ?_
      | refine LeO.bind ?_ (fun _ => ?_)
set_option maxHeartbeats 8000000 in
set_option maxRecDepth 100000 in
theorem chalklineref16_Most.calls (k : Nat) (A0 : Option Addr) (c0 : Nat) (l0 : List Int) (a1 : Int) (a2 : Int) (r1 : List (List Int)) (r2 : Int) (r3 : Int) (w : World) (hr0 : Kd.C (Kd.int .i64) w A0 l0.length l0) (hc0 : l0.length ≤ c0) (h : chalklineref16_Most.f k l0 a1 a2 = some (r1, r2, r3)) :
    Calls Try.prog 17 #[.slice A0 l0.length c0, .int .i64 a1, .int .i64 a2] w fun e w' => ∃ v0_ : Value, e = .returned (.tuple #[v0_, .int .i64 r2, .int .i64 r3]) ∧ Kd.N (Kd.slice 3 (Kd.int .i64)) 22 w' w.heap.size (fun k_ => (w.heap.size ≤ k_)) v0_ r1 ∧ Below w.heap.size w w' := by
  have HR0 := Aside0.mk hr0
  have HC0 := Aside0.mk hc0
  clear hr0 hc0
  have HB := Aside0.mk (Below.refl w.heap.size w)
  have H : ((chalklineref16_lits.f k l0 a2).bind fun t165 => (if t165 = 0 then (if a1 < 0 then (chalklineref16_Most.j0 k l0 a2 (wrap64 ((l0.length : Int) + 1))) else (if a1 < (l0.length : Int) then (chalklineref16_Most.j0 k l0 a2 (wrap64 ((l0.length : Int) - a1))) else (chalklineref16_Most.j0 k l0 a2 0))) else (some (([] : List (List Int)), 0, t165)))) = some (r1, r2, r3) := h
  clear h
  replace H := Option.bind_eq_some_iff.mp H
  obtain ⟨t165, A40, H⟩ := H
  replace H : (if t165 = 0 then (if a1 < 0 then (chalklineref16_Most.j0 k l0 a2 (wrap64 ((l0.length : Int) + 1))) else (if a1 < (l0.length : Int) then (chalklineref16_Most.j0 k l0 a2 (wrap64 ((l0.length : Int) - a1))) else (chalklineref16_Most.j0 k l0 a2 0))) else (some (([] : List (List Int)), 0, t165))) = some (r1, r2, r3) := H
  have A4 := Aside0.mk A40
  clear A40
  by_cases c5 : t165 = 0
  · rw [if_pos c5] at H
    have c5b0 : (t165 == 0) = true := beq_iff_eq.mpr c5
    have c5b1 : (t165 != 0) = false := bne_eq_false_iff_eq.mpr c5
    clear c5
    have HC6 := Aside0.mk H
    clear H
    go_enter Try.func17, Try.ntmps17
    go_upto_if 24 with (first | ((with_reducible refine gate_callee (f := 30) rfl ?_); refine goesL_ (some 17) rfl rfl Try.func30 (by kernel_rfl) rfl #[.slice A0 l0.length c0, .int .i64 a2] rfl (by (try simp only [List.map_toArray, List.map_cons, List.map_nil]); first | done | rfl | (simp only [List.length_drop, List.length_take]; rfl)) ?_; (with_reducible refine (chalklineref16_lits.calls k _ _ l0 a2 t165 _ ?side1 ?side2 A4.out).mono ?_); (case side1 => repeat (first | exact HR0.out | (with_reducible refine Kd.C_alloc ?_ _) | (with_reducible refine Kd.C_drewN ?_ _) | (with_reducible refine Kd.C_drew ?_))); (case side2 => exact HC0.out); rintro e w7 ⟨rfl, hb⟩; refine ⟨_, rfl, ?_⟩; have n0_ := Aside0.mk (below_step (by repeat (first | (with_reducible first | exact HB.out | apply below_alloc | apply pw_below_drewN | apply below_drew1) | exact HB.out)) hb); clear HB; have HB := n0_; clear n0_; (try clear hb); (try clear hb2); (try clear hk); (try clear hi)))
    (try simp only [Act.put, List.setIfInBounds_toArray, List.set_cons_zero, List.set_cons_succ])
    go_cut [11] (fun v11 wc => ∃ (kq : Nat) (x11_5 : Int), v11 = .int .i64 x11_5 ∧ Aside0 (chalklineref16_Most.j0 kq l0 a2 x11_5 = some (r1, r2, r3)) ∧ Aside0 (kq ≤ k) ∧ Aside0 (Below w.heap.size w wc))
    case first =>
      have H := HC6.out
      clear HC6
      by_cases c8 : a1 < 0
      · rw [if_pos c8] at H
        have c8b0 : decide (a1 < 0) = true := decide_eq_true c8
        clear c8
        (first | rw [c8b0] | (simp only [i64_w, i32_w]; rw [c8b0]) | skip)
        have H' := Aside0.mk H
        clear H
        go_wp2
        go_meet
        case rel => exact ⟨_, (wrap64 ((l0.length : Int) + 1)), (by first | rfl | (simp; done) | (simp [*]; done)), H', ⟨by first | omega | exact Nat.le_refl _⟩, ⟨by repeat (first | (with_reducible first | exact HB.out | apply below_alloc | apply pw_below_drewN | apply below_drew1) | exact HB.out)⟩⟩
      · rw [if_neg c8] at H
        have c8b0 : decide (a1 < 0) = false := decide_eq_false c8
        clear c8
        (first | rw [c8b0] | (simp only [i64_w, i32_w]; rw [c8b0]) | skip)
        by_cases c9 : a1 < (l0.length : Int)
        · rw [if_pos c9] at H
          have c9b0 : decide (a1 < (l0.length : Int)) = true := decide_eq_true c9
          clear c9
          have H' := Aside0.mk H
          clear H
          go_wp2
          go_meet
          case rel => exact ⟨_, (wrap64 ((l0.length : Int) - a1)), (by first | rfl | (simp; done) | (simp [*]; done)), H', ⟨by first | omega | exact Nat.le_refl _⟩, ⟨by repeat (first | (with_reducible first | exact HB.out | apply below_alloc | apply pw_below_drewN | apply below_drew1) | exact HB.out)⟩⟩
        · rw [if_neg c9] at H
          have c9b0 : decide (a1 < (l0.length : Int)) = false := decide_eq_false c9
          clear c9
          have H' := Aside0.mk H
          clear H
          go_wp2
          go_meet
          case rel => exact ⟨_, (0), (by first | rfl | (simp; done) | (simp [*]; done)), H', ⟨by first | omega | exact Nat.le_refl _⟩, ⟨by repeat (first | (with_reducible first | exact HB.out | apply below_alloc | apply pw_below_drewN | apply below_drew1) | exact HB.out)⟩⟩
    case rest =>
      clear HC6
      try clear c1
      try clear p2
      try clear c3
      try clear c5
      try clear c5b0
      try clear c5b1
      try clear p6
      try clear c8
      try clear c8b0
      try clear c9
      try clear c9b0
      obtain ⟨kq, x11_5, rfl, HA, HJ5, HB⟩ := hcut
      cases kq with
      | zero => exact absurd HA.out (by simp [chalklineref16_Most.j0])
      | succ kj5 =>
        have H := HA.out
        clear HA
        simp only [chalklineref16_Most.j0] at H
        have H' := Aside0.mk H
        clear H
        go_wp2
        go_loopg [12, 35] kj5 (fun kq v12 v35 w' => ∃ (x12_2 : List Int) (x35_2 : Int), v35 = .int .i64 x35_2 ∧ Aside0 (chalklineref16_Most.l0 kq a2 x11_5 x12_2 l0 (l0.length : Int) x35_2 = some (r1, r2, r3)) ∧ Aside0 (kq ≤ kj5) ∧ Aside0 (Kd.R (Kd.int .i64) 3 w' w.heap.size (fun k_ => (w.heap.size ≤ k_)) v12 x12_2) ∧ Aside0 (Below w.heap.size w w'))
        case atStart => exact ⟨(([] : List Int)), (0), (by first | rfl | (simp; done) | (simp [*]; done)), H', ⟨Nat.le_refl _⟩, ⟨by first | exact Kd.R_nil _ _ _ _ _ | exact Kd.N_nil _ _ _ _ _ | exact Kd.V_nil _ _ _ _ _ | exact Kd.Q_nil _ _ _ _ _ | exact Kd.S_nil _ _ _ _ _⟩, ⟨by repeat (first | (with_reducible first | exact HB.out | apply below_alloc | apply pw_below_drewN | apply below_drew1) | exact HB.out)⟩⟩
        case round =>
          clear H'
          try clear c1
          try clear p2
          try clear c3
          try clear c5
          try clear c5b0
          try clear c5b1
          try clear p6
          try clear c8
          try clear c8b0
          try clear c9
          try clear c9b0
          try clear p2
          try clear p6
          obtain ⟨x12_2, x35_2, rfl, HA, HK2, HO_12, HB⟩ := hrel
          cases gk with
          | zero => exact absurd HA.out (by simp [chalklineref16_Most.l0])
          | succ k2 =>
            have H := HA.out
            clear HA
            simp only [chalklineref16_Most.l0] at H
            by_cases c10 : x35_2 < (l0.length : Int)
            · rw [if_pos c10] at H
              have c10b0 : decide (x35_2 < (l0.length : Int)) = true := decide_eq_true c10
              clear c10
              by_cases c11 : 0 ≤ x35_2
              · rw [if_pos c11] at H
                have c11b0 : decide (0 ≤ x35_2) = true := decide_eq_true c11
                clear c11
                by_cases c12 : x35_2 < (l0.length : Int)
                · rw [if_pos c12] at H
                  have c12b0 : decide (x35_2 < (l0.length : Int)) = true := decide_eq_true c12
                  clear c12
                  by_cases c13 : x12_2.length < 17592186044416
                  · rw [if_pos c13] at H
                    have LMc13 := Aside0.mk c13
                    clear c13
                    obtain ⟨y167, hy167⟩ : ∃ y_ : List Int, y_ = (x12_2 ++ [wrap64 (-(rd l0 x35_2))]) := ⟨_, rfl⟩
                    replace H : (chalklineref16_Most.l0 k2 a2 x11_5 y167 l0 (l0.length : Int) (wrap64 (x35_2 + 1))) = some (r1, r2, r3) := by first | (rw [hy167]; with_reducible exact H) | (have H2_ := (Option.bind_some _ _).symm.trans H; rw [hy167]; with_reducible exact H2_) | (have H2_ := (Option.bind_some _ _).symm.trans H; with_reducible exact H2_) | with_reducible exact H | (rw [hy167]; exact H) | exact H
                    have Ny167 := Aside0.mk hy167
                    clear hy167
                    have H' := Aside0.mk H
                    clear H
                    have p166 : 0 ≤ (x35_2 : Int) := of_decide_eq_true (by first | (with_reducible assumption) | assumption)
                    have q166 : x35_2 < (l0.length : Int) := of_decide_eq_true (by first | (with_reducible assumption) | assumption)
                    obtain ⟨ad166, e166, hx166_0⟩ := Kd.at_int HR0.out x35_2 p166 q166
                    cases e166
                    replace hx166_0 := (HB.out.cell (World.block_lt_of_cell? w _ hx166_0)).trans hx166_0
                    replace p166 := eq_true p166
                    replace q166 := eq_true q166
                    go_wp2_with (first | ((with_reducible refine gate_builtin (b := .append) (xs := #[.tmp 39, .tmp 42]) rfl ?_); at_builtin; refine Kd.R_append (Kd.int .i64) (w0 := w) w.heap.size rfl (.tmp 39) (.tmp 42) 22 3 (.int .i64 0) 8 rfl Try.underlying22 info3 rfl (by decide) (by omega) u12 x12_2 (wrap64 (-(rd l0 x35_2))) [.int .i64 (wrap64 (-(rd l0 x35_2)))] (fun k_ => (w.heap.size ≤ k_)) (fun _ => False) rfl rfl ?aP (fun _ hk => hk.elim) ?aF ?aO ?aB ?aS ?aL ?_; (case aP => exact rfl); (case aB => exact (by repeat (first | (with_reducible first | exact HB.out | apply below_alloc | apply pw_below_drewN | apply below_drew1) | exact HB.out))); (case aF => exact (fun k_ hk => (Nat.le_trans (below_size (by repeat (first | (with_reducible first | exact HB.out | apply below_alloc | apply pw_below_drewN | apply below_drew1) | exact HB.out))) hk))); (case aO => exact (by (with_reducible repeat (first | apply Kd.R_alloc | apply Kd.R_drewN | apply Kd.R_drew)); exact HO_12.out)); (case aS => exact (below_size (by repeat (first | (with_reducible first | exact HB.out | apply below_alloc | apply pw_below_drewN | apply below_drew1) | exact HB.out)))); (case aL => have := LMc13.out; omega); intro v168 w14 ho hb hg hat; rw [← Ny167.out] at ho; have n0_ := Aside0.mk (hb); have n1_ := Aside0.mk (ho); clear HB; clear HO_12; have HB := n0_; have HO169 := n1_; clear n0_ n1_; clear ho hb hg hat))
                    go_roundg k2
                    case measure => have := HJ5.out; have := HK2.out; omega
                    case rel => exact ⟨(y167), (wrap64 (x35_2 + 1)), (by first | rfl | (simp; done) | (simp [*]; done)), H', ⟨by have := HJ5.out; have := HK2.out; omega⟩, ⟨by (with_reducible repeat (first | apply Kd.R_alloc | apply Kd.R_drewN | apply Kd.R_drew)); exact HO169.out⟩, ⟨by repeat (first | (with_reducible first | exact HB.out | apply below_alloc | apply pw_below_drewN | apply below_drew1) | exact HB.out)⟩⟩
                  · rw [if_neg c13] at H
                    exact absurd H (by simp)
                · rw [if_neg c12] at H
                  exact absurd H (by simp)
              · rw [if_neg c11] at H
                exact absurd H (by simp)
            · rw [if_neg c10] at H
              have c10b0 : decide (x35_2 < (l0.length : Int)) = false := decide_eq_false c10
              clear c10
              replace H := Option.bind_eq_some_iff.mp H
              obtain ⟨⟨t170, t173, t174⟩, A150, H⟩ := H
              replace H : (some (t170, t173, t174)) = some (r1, r2, r3) := H
              have A15 := Aside0.mk A150
              clear A150
              simp only [Option.some.injEq, Prod.mk.injEq] at H
              obtain ⟨rfl, rfl, rfl⟩ := H
              obtain ⟨Ao16, co16, eo16⟩ := Kd.R_slice HO_12.out
              subst eo16
              go_wp2_with (first | ((with_reducible refine gate_callee (f := 14) rfl ?_); refine goesL_ (some 48) rfl rfl Try.func14 (by kernel_rfl) rfl #[.slice Ao16 x12_2.length co16, .int .i64 x11_5, .int .i64 a2] rfl (by (try simp only [List.map_toArray, List.map_cons, List.map_nil]); first | done | rfl | (simp only [List.length_drop, List.length_take]; rfl)) ?_; (with_reducible refine (chalklineref16_Least.calls k2 _ _ x12_2 x11_5 a2 t170 t173 t174 _ ?side1 ?side2 A15.out).mono ?_); (case side1 => repeat (first | exact (Kd.R_reads' HO_12.out).2.2 | (with_reducible refine Kd.C_alloc ?_ _) | (with_reducible refine Kd.C_drewN ?_ _) | (with_reducible refine Kd.C_drew ?_))); (case side2 => exact (Kd.R_reads' HO_12.out).2.1); rintro e w17 ⟨v171, rfl, ho0, hb⟩; refine ⟨_, rfl, ?_⟩; have n0_ := Aside0.mk (Kd.R_below (by (with_reducible repeat (first | apply Kd.R_alloc | apply Kd.R_drewN | apply Kd.R_drew)); exact HO_12.out) hb); have n1_ := Aside0.mk (Kd.N_lower (Kd.N_mono (ok' := fun k_ => (w.heap.size ≤ k_) ∧ some k_ ≠ (.slice Ao16 x12_2.length co16 : Value).ownBlock) ho0 (fun k_ hk_ => ⟨(Nat.le_trans (below_size (by repeat (first | (with_reducible first | exact HB.out | apply below_alloc | apply pw_below_drewN | apply below_drew1) | exact HB.out))) hk_), (Kd.fresh' (Kd.R_lt (by (with_reducible repeat (first | apply Kd.R_alloc | apply Kd.R_drewN | apply Kd.R_drew)); exact HO_12.out)) k_ hk_)⟩)) (below_size (by repeat (first | (with_reducible first | exact HB.out | apply below_alloc | apply pw_below_drewN | apply below_drew1) | exact HB.out)))); have n2_ := Aside0.mk (below_step (by repeat (first | (with_reducible first | exact HB.out | apply below_alloc | apply pw_below_drewN | apply below_drew1) | exact HB.out)) hb); clear HO_12; clear HB; have HO_12 := n0_; have HO172 := n1_; have HB := n2_; clear n0_ n1_ n2_; (try clear hb); (try clear hb2); (try clear hk); (try clear hi); (try clear ho0)))
              go_ret3
              exact ⟨_, by first | rfl | (simp [errW_none, errW_some] <;> rfl) | (simp [*, errW_none, errW_some] <;> rfl), by (with_reducible repeat (first | apply Kd.N_alloc | apply Kd.N_drewN | apply Kd.N_drew)); exact Kd.N_mono HO172.out (fun _ hk => hk.1), by repeat (first | (with_reducible first | exact HB.out | apply below_alloc | apply pw_below_drewN | apply below_drew1) | exact HB.out)⟩
  · rw [if_neg c5] at H
    have c5b0 : (t165 == 0) = false := beq_eq_false_iff_ne.mpr c5
    have c5b1 : (t165 != 0) = true := bne_iff_ne.mpr c5
    simp only [Option.some.injEq, Prod.mk.injEq] at H
    obtain ⟨rfl, rfl, rfl⟩ := H
    go_enter Try.func17, Try.ntmps17
    go_wp2_with (first | ((with_reducible refine gate_callee (f := 30) rfl ?_); refine goesL_ (some 17) rfl rfl Try.func30 (by kernel_rfl) rfl #[.slice A0 l0.length c0, .int .i64 a2] rfl (by (try simp only [List.map_toArray, List.map_cons, List.map_nil]); first | done | rfl | (simp only [List.length_drop, List.length_take]; rfl)) ?_; (with_reducible refine (chalklineref16_lits.calls k _ _ l0 a2 t165 _ ?side1 ?side2 A4.out).mono ?_); (case side1 => repeat (first | exact HR0.out | (with_reducible refine Kd.C_alloc ?_ _) | (with_reducible refine Kd.C_drewN ?_ _) | (with_reducible refine Kd.C_drew ?_))); (case side2 => exact HC0.out); rintro e w18 ⟨rfl, hb⟩; refine ⟨_, rfl, ?_⟩; have n0_ := Aside0.mk (below_step (by repeat (first | (with_reducible first | exact HB.out | apply below_alloc | apply pw_below_drewN | apply below_drew1) | exact HB.out)) hb); clear HB; have HB := n0_; clear n0_; (try clear hb); (try clear hb2); (try clear hk); (try clear hi)))
    go_ret3
    exact ⟨_, by first | rfl | (simp [errW_none, errW_some] <;> rfl) | (simp [*, errW_none, errW_some] <;> rfl), by first | exact Kd.S_nil _ _ _ _ _ | exact Kd.N_nil _ _ _ _ _ | exact Kd.V_nil _ _ _ _ _ | exact Kd.Q_nil _ _ _ _ _ | exact Kd.R_nil _ _ _ _ _, by repeat (first | (with_reducible first | exact HB.out | apply below_alloc | apply pw_below_drewN | apply below_drew1) | exact HB.out)⟩

/-! ### chalklineref16_Truth: function 37 -/
def chalklineref16_Truth.f (a0 : Int) (l1 : List Bool) : Option (Bool) := if a0 < 0 then (if (wrap64 (-a0)) < (l1.length : Int) then (if 0 ≤ (wrap64 (-a0)) then (some (!(rdOf false l1 (wrap64 (-a0))))) else (none)) else (some false)) else (if a0 < (l1.length : Int) then (if 0 ≤ a0 then (some (rdOf false l1 a0)) else (none)) else (some false))
set_option maxHeartbeats 8000000 in
set_option maxRecDepth 100000 in
theorem chalklineref16_Truth.calls (a0 : Int) (A1 : Option Addr) (c1 : Nat) (l1 : List Bool) (r : Bool) (w : World) (hr1 : Kd.C Kd.bool w A1 l1.length l1) (hc1 : l1.length ≤ c1) (h : chalklineref16_Truth.f a0 l1 = some r) :
    Calls Try.prog 37 #[.int .i64 a0, .slice A1 l1.length c1] w fun e w' => e = .returned (.bool r) ∧ Drawn0 w w' := by
  have HR1 := Aside0.mk hr1
  have HC1 := Aside0.mk hc1
  clear hr1 hc1
  have H : (if a0 < 0 then (if (wrap64 (-a0)) < (l1.length : Int) then (if 0 ≤ (wrap64 (-a0)) then (some (!(rdOf false l1 (wrap64 (-a0))))) else (none)) else (some false)) else (if a0 < (l1.length : Int) then (if 0 ≤ a0 then (some (rdOf false l1 a0)) else (none)) else (some false))) = some r := h
  clear h
  by_cases c3 : a0 < 0
  · rw [if_pos c3] at H
    have c3b0 : decide (a0 < 0) = true := decide_eq_true c3
    clear c3
    by_cases c4 : (wrap64 (-a0)) < (l1.length : Int)
    · rw [if_pos c4] at H
      have c4b0 : decide ((wrap64 (-a0)) < (l1.length : Int)) = true := decide_eq_true c4
      clear c4
      obtain ⟨ji5, hji5⟩ : ∃ j_ : Int, (wrap64 (-a0)) = j_ := ⟨_, rfl⟩
      replace H : (if 0 ≤ (ji5) then (some (!(rdOf false l1 (ji5)))) else (none)) = some r := by first | (rw [hji5] at H; exact H) | (simp only [hji5] at H ⊢; exact H)
      (try rw [hji5] at c4b0)
      have hji5w : (IntKind.i64.wrap (-a0)) = ji5 := (i64_w _).trans hji5
      by_cases c6 : 0 ≤ (ji5)
      · rw [if_pos c6] at H
        have c6b0 : decide (0 ≤ (ji5)) = true := decide_eq_true c6
        clear c6
        obtain rfl := Option.some.inj H
        have p175 : 0 ≤ ((ji5) : Int) := of_decide_eq_true (by first | (with_reducible assumption) | assumption)
        have q175 : (ji5) < (l1.length : Int) := of_decide_eq_true (by first | (with_reducible assumption) | assumption)
        obtain ⟨ad175, e175, hx175_0⟩ := Kd.at_bool HR1.out (ji5) p175 q175
        cases e175
        replace p175 := eq_true p175
        replace q175 := eq_true q175
        go_enter Try.func37, Try.ntmps37
        go_wp2
        go_ret
        exact ⟨by first | rfl | (simp; done) | (simp only [← hji5] <;> (first | rfl | simp)) | (simp [*]; done), by repeat (first | exact Drawn0.refl _ | apply Drawn0.step)⟩
      · rw [if_neg c6] at H
        exact absurd H (by simp)
    · rw [if_neg c4] at H
      have c4b0 : decide ((wrap64 (-a0)) < (l1.length : Int)) = false := decide_eq_false c4
      clear c4
      obtain rfl := Option.some.inj H
      go_enter Try.func37, Try.ntmps37
      go_wp2
      go_ret
      exact ⟨by first | rfl | (simp; done) | (simp [*]; done), by repeat (first | exact Drawn0.refl _ | apply Drawn0.step)⟩
  · rw [if_neg c3] at H
    have c3b0 : decide (a0 < 0) = false := decide_eq_false c3
    clear c3
    by_cases c7 : a0 < (l1.length : Int)
    · rw [if_pos c7] at H
      have c7b0 : decide (a0 < (l1.length : Int)) = true := decide_eq_true c7
      clear c7
      by_cases c8 : 0 ≤ a0
      · rw [if_pos c8] at H
        have c8b0 : decide (0 ≤ a0) = true := decide_eq_true c8
        clear c8
        obtain rfl := Option.some.inj H
        have p176 : 0 ≤ (a0 : Int) := of_decide_eq_true (by first | (with_reducible assumption) | assumption)
        have q176 : a0 < (l1.length : Int) := of_decide_eq_true (by first | (with_reducible assumption) | assumption)
        obtain ⟨ad176, e176, hx176_0⟩ := Kd.at_bool HR1.out a0 p176 q176
        cases e176
        replace p176 := eq_true p176
        replace q176 := eq_true q176
        go_enter Try.func37, Try.ntmps37
        go_wp2
        go_ret
        exact ⟨by first | rfl | (simp; done) | (simp [*]; done), by repeat (first | exact Drawn0.refl _ | apply Drawn0.step)⟩
      · rw [if_neg c8] at H
        exact absurd H (by simp)
    · rw [if_neg c7] at H
      have c7b0 : decide (a0 < (l1.length : Int)) = false := decide_eq_false c7
      clear c7
      obtain rfl := Option.some.inj H
      go_enter Try.func37, Try.ntmps37
      go_wp2
      go_ret
      exact ⟨by first | rfl | (simp; done) | (simp [*]; done), by repeat (first | exact Drawn0.refl _ | apply Drawn0.step)⟩

end Go.Proofs.Ytpadmbpopjmdjaa.QRef
