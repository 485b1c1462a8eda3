-- Printed for this seat by a program of this session (wip/tools/give.py).
import Derived.Test.YtpadmbpopjmdjaaQTox0
namespace Go.Proofs.Ytpadmbpopjmdjaa.QTo
open Go.RowKit Go.Proofs.YtpadmbpopjmdjaaW.PrintWords Go.Proofs.YtpadmbpopjmdjaaW.PrintLast Go.Proofs.YtpadmbpopjmdjaaW.PrintMore Go.Proofs.Ytpadmbpopjmdjaa.G Go.Proofs.Ytpadmbpopjmdjaa.QRef Go.Proofs.Ytpadmbpopjmdjaa.QCan
attribute [local go_sem] max2_int min2_int max_two min_two max_three min_three max_four min_four   -- for this text's walks alone
set_option linter.unusedVariables false
set_option linter.unusedSimpArgs false

/-! ### chalklinelaw16_CountTotals: function 5 -/
mutual
def chalklinelaw16_CountTotals.j0 : Nat → List Int → Int → List Bool → Bool → Option (Bool)
  | 0, _, _, _, _ => none
  | k + 1, x0, x1, x2, x29 => if x29 = true then (some true) else ((some (([false] : List Bool) : List Bool)).bind fun y102 => (if y102.length + x2.length < 140737488355328 then ((some (y102 ++ x2 : List Bool)).bind fun y105 => ((count_Least.f x0 x1 (y105.length : Int)).bind fun bt108 => ((total_Total.f x0 (x0.length : Int) (y105.length : Int)).bind fun bt113 => (if bt108.2.2 = 0 then (chalklinelaw16_CountTotals.j1 k x0 x1 y105 bt108.1 bt108.2.1 bt108.2.2 bt113.1 bt113.2.1 bt113.2.2.1 bt113.2.2.2 (bt113.2.2.2 != 0)) else (chalklinelaw16_CountTotals.j1 k x0 x1 y105 bt108.1 bt108.2.1 bt108.2.2 bt113.1 bt113.2.1 bt113.2.2.1 bt113.2.2.2 true))))) else (none)))
def chalklinelaw16_CountTotals.j1 : Nat → List Int → Int → List Bool → List (List Int) → Int → Int → List Int → List (List Int) → Int → Int → Bool → Option (Bool)
  | 0, _, _, _, _, _, _, _, _, _, _, _ => none
  | k + 1, x0, x1, x7, x8, x9, x10, x11, x12, x13, x14, x58 => if x58 = true then (if x10 = x14 then (if (x8.length : Int) = 0 then (some ((x11.length : Int) == 0)) else (some false)) else (some false)) else (if x1 < 1 then (chalklinelaw16_CountTotals.j2 k x0 x1 x7 x8 x9 x11 x12 x13 true) else (chalklinelaw16_CountTotals.j2 k x0 x1 x7 x8 x9 x11 x12 x13 (decide (x1 > (x11.length : Int)))))
def chalklinelaw16_CountTotals.j2 : Nat → List Int → Int → List Bool → List (List Int) → Int → List Int → List (List Int) → Int → Bool → Option (Bool)
  | 0, _, _, _, _, _, _, _, _, _ => none
  | k + 1, x0, x1, x7, x8, x9, x11, x12, x13, x79 => if x79 = true then (some ((x11.length : Int) == (x0.length : Int))) else (if (wrap64 (x9 - (x7.length : Int))) > 9 then (chalklinelaw16_CountTotals.j3 k x1 x7 x8 x9 x11 x12 x13 true) else (chalklinelaw16_CountTotals.j3 k x1 x7 x8 x9 x11 x12 x13 (decide ((wrap64 (x13 - (x7.length : Int))) > 9))))
def chalklinelaw16_CountTotals.j3 : Nat → Int → List Bool → List (List Int) → Int → List Int → List (List Int) → Int → Bool → Option (Bool)
  | 0, _, _, _, _, _, _, _, _ => none
  | k + 1, x1, x7, x8, x9, x11, x12, x13, x96 => if x96 = true then (some true) else (if ([] : List (List Int)).length + x12.length < 5864062014805 then ((some (([] : List (List Int)) ++ x12 : List (List Int))).bind fun y121 => (if 0 ≤ (wrap64 (x1 - 1)) then (if (wrap64 (x1 - 1)) < (x11.length : Int) then ((some (([(([rd x11 (wrap64 (x1 - 1))] : List Int))] : List (List Int)) : List (List Int))).bind fun y128 => (if y121.length + y128.length < 5864062014805 then ((chalklinelaw16_can.f k x8 x7 x9).bind fun bt134 => ((chalklinelaw16_can.f k (y121 ++ y128) x7 x13).bind fun bt136 => (some (bt134.1 == bt136.1)))) else (none))) else (none)) else (none))) else (none))
end
def chalklinelaw16_CountTotals.f (k : Nat) (l0 : List Int) (a1 : Int) (l2 : List Bool) : Option (Bool) := (chalklinelaw16_live.f).bind fun t101 => (if t101 = true then (if (l2.length : Int) > 5 then (chalklinelaw16_CountTotals.j0 k l0 a1 l2 true) else (chalklinelaw16_CountTotals.j0 k l0 a1 l2 (decide ((l0.length : Int) > 5)))) else (some false))
theorem chalklinelaw16_CountTotals.mono_l : ∀ k, (∀ y0 y1 y2 y3, LeO (chalklinelaw16_CountTotals.j0 k y0 y1 y2 y3) (chalklinelaw16_CountTotals.j0 (k + 1) y0 y1 y2 y3)) ∧ (∀ y0 y1 y2 y3 y4 y5 y6 y7 y8 y9 y10, LeO (chalklinelaw16_CountTotals.j1 k y0 y1 y2 y3 y4 y5 y6 y7 y8 y9 y10) (chalklinelaw16_CountTotals.j1 (k + 1) y0 y1 y2 y3 y4 y5 y6 y7 y8 y9 y10)) ∧ (∀ y0 y1 y2 y3 y4 y5 y6 y7 y8, LeO (chalklinelaw16_CountTotals.j2 k y0 y1 y2 y3 y4 y5 y6 y7 y8) (chalklinelaw16_CountTotals.j2 (k + 1) y0 y1 y2 y3 y4 y5 y6 y7 y8)) ∧ (∀ y0 y1 y2 y3 y4 y5 y6 y7, LeO (chalklinelaw16_CountTotals.j3 k y0 y1 y2 y3 y4 y5 y6 y7) (chalklinelaw16_CountTotals.j3 (k + 1) y0 y1 y2 y3 y4 y5 y6 y7))
  | 0 => ⟨fun _ _ _ _ r h => by simp [chalklinelaw16_CountTotals.j0] at h, fun _ _ _ _ _ _ _ _ _ _ _ r h => by simp [chalklinelaw16_CountTotals.j1] at h, fun _ _ _ _ _ _ _ _ _ r h => by simp [chalklinelaw16_CountTotals.j2] at h, fun _ _ _ _ _ _ _ _ r h => by simp [chalklinelaw16_CountTotals.j3] at h⟩
  | k + 1 => by
    obtain ⟨ih0, ih1, ih2, ih3⟩ := chalklinelaw16_CountTotals.mono_l k
    refine ⟨?_, ?_, ?_, ?_⟩
    · intro y0 y1 y2 y3
      unfold chalklinelaw16_CountTotals.j0
      repeat' first
      | (with_reducible exact ih0 _ _ _ _)
      | (with_reducible exact ih1 _ _ _ _ _ _ _ _ _ _ _)
      | (with_reducible exact ih2 _ _ _ _ _ _ _ _ _)
      | (with_reducible exact ih3 _ _ _ _ _ _ _ _)
      | (with_reducible exact chalklinelaw16_can.mono _ _ _ _)
      | (with_reducible exact LeO.refl _)
      | (with_reducible exact LeO.none _)
      | (with_reducible refine LeO.ite ?_ ?_)
      | (with_reducible refine LeO.bind ?_ (fun _ => ?_))
      | exact ih0 _ _ _ _
      | exact ih1 _ _ _ _ _ _ _ _ _ _ _
      | exact ih2 _ _ _ _ _ _ _ _ _
      | exact ih3 _ _ _ _ _ _ _ _
      | exact chalklinelaw16_can.mono _ _ _ _
      | exact LeO.none _
      | refine LeO.ite ?_ ?_
      | refine LeO.bind ?_ (fun _ => ?_)
    · intro y0 y1 y2 y3 y4 y5 y6 y7 y8 y9 y10
      unfold chalklinelaw16_CountTotals.j1
      repeat' first
      | (with_reducible exact ih0 _ _ _ _)
      | (with_reducible exact ih1 _ _ _ _ _ _ _ _ _ _ _)
      | (with_reducible exact ih2 _ _ _ _ _ _ _ _ _)
      | (with_reducible exact ih3 _ _ _ _ _ _ _ _)
      | (with_reducible exact chalklinelaw16_can.mono _ _ _ _)
      | (with_reducible exact LeO.refl _)
      | (with_reducible exact LeO.none _)
      | (with_reducible refine LeO.ite ?_ ?_)
      | (with_reducible refine LeO.bind ?_ (fun _ => ?_))
      | exact ih0 _ _ _ _
      | exact ih1 _ _ _ _ _ _ _ _ _ _ _
      | exact ih2 _ _ _ _ _ _ _ _ _
      | exact ih3 _ _ _ _ _ _ _ _
      | exact chalklinelaw16_can.mono _ _ _ _
      | exact LeO.none _
      | refine LeO.ite ?_ ?_
      | refine LeO.bind ?_ (fun _ => ?_)
    · intro y0 y1 y2 y3 y4 y5 y6 y7 y8
      unfold chalklinelaw16_CountTotals.j2
      repeat' first
      | (with_reducible exact ih0 _ _ _ _)
      | (with_reducible exact ih1 _ _ _ _ _ _ _ _ _ _ _)
      | (with_reducible exact ih2 _ _ _ _ _ _ _ _ _)
      | (with_reducible exact ih3 _ _ _ _ _ _ _ _)
      | (with_reducible exact chalklinelaw16_can.mono _ _ _ _)
      | (with_reducible exact LeO.refl _)
      | (with_reducible exact LeO.none _)
      | (with_reducible refine LeO.ite ?_ ?_)
      | (with_reducible refine LeO.bind ?_ (fun _ => ?_))
      | exact ih0 _ _ _ _
      | exact ih1 _ _ _ _ _ _ _ _ _ _ _
      | exact ih2 _ _ _ _ _ _ _ _ _
      | exact ih3 _ _ _ _ _ _ _ _
      | exact chalklinelaw16_can.mono _ _ _ _
      | exact LeO.none _
      | refine LeO.ite ?_ ?_
      | refine LeO.bind ?_ (fun _ => ?_)
    · intro y0 y1 y2 y3 y4 y5 y6 y7
      unfold chalklinelaw16_CountTotals.j3
      repeat' first
      | (with_reducible exact ih0 _ _ _ _)
      | (with_reducible exact ih1 _ _ _ _ _ _ _ _ _ _ _)
      | (with_reducible exact ih2 _ _ _ _ _ _ _ _ _)
      | (with_reducible exact ih3 _ _ _ _ _ _ _ _)
      | (with_reducible exact chalklinelaw16_can.mono _ _ _ _)
      | (with_reducible exact LeO.refl _)
      | (with_reducible exact LeO.none _)
      | (with_reducible refine LeO.ite ?_ ?_)
      | (with_reducible refine LeO.bind ?_ (fun _ => ?_))
      | exact ih0 _ _ _ _
      | exact ih1 _ _ _ _ _ _ _ _ _ _ _
      | exact ih2 _ _ _ _ _ _ _ _ _
      | exact ih3 _ _ _ _ _ _ _ _
      | exact chalklinelaw16_can.mono _ _ _ _
      | exact LeO.none _
      | refine LeO.ite ?_ ?_
      | refine LeO.bind ?_ (fun _ => ?_)
theorem chalklinelaw16_CountTotals.mono : ∀ a0 a1 a2 k, LeO (chalklinelaw16_CountTotals.f k a0 a1 a2) (chalklinelaw16_CountTotals.f (k + 1) a0 a1 a2) := by
  intro a0 a1 a2 k
  obtain ⟨ih0, ih1, ih2, ih3⟩ := chalklinelaw16_CountTotals.mono_l k
  unfold chalklinelaw16_CountTotals.f
  repeat' first
      | (with_reducible exact ih0 _ _ _ _)
      | (with_reducible exact ih1 _ _ _ _ _ _ _ _ _ _ _)
      | (with_reducible exact ih2 _ _ _ _ _ _ _ _ _)
      | (with_reducible exact ih3 _ _ _ _ _ _ _ _)
      | (with_reducible exact chalklinelaw16_can.mono _ _ _ _)
      | (with_reducible exact LeO.refl _)
      | (with_reducible exact LeO.none _)
      | (with_reducible refine LeO.ite ?_ ?_)
      | (with_reducible refine LeO.bind ?_ (fun _ => ?_))
      | exact ih0 _ _ _ _
      | exact ih1 _ _ _ _ _ _ _ _ _ _ _
      | exact ih2 _ _ _ _ _ _ _ _ _
      | exact ih3 _ _ _ _ _ _ _ _
      | exact chalklinelaw16_can.mono _ _ _ _
      | exact LeO.none _
      | refine LeO.ite ?_ ?_
      | refine LeO.bind ?_ (fun _ => ?_)
def chalklinelaw16_CountTotals.T14 : Bool × List (List Nat × List Nat) := (true, [([], []), ([0], [0]), ([], []), ([], []), ([3], [3]), ([2, 4], [2, 4]), ([5], [5]), ([6], [6]), ([7], [7]), ([1, 8, 1], [1, 8]), ([9, 9, 0, 1, 2, 3, 4, 5, 6, 7, 8, 9], [9])])
def chalklinelaw16_CountTotals.B14 : List Nat := [0, 1, 0, 0, 8, 28, 60, 124, 252, 511, 1023]
theorem chalklinelaw16_CountTotals.tab14 : rtab .any (opsOf Try.f5 14) = chalklinelaw16_CountTotals.T14 := by kernel_rfl
theorem chalklinelaw16_CountTotals.bits14 : waitsOk chalklinelaw16_CountTotals.T14.2 chalklinelaw16_CountTotals.B14 = true := by kernel_rfl
set_option maxHeartbeats 8000000 in
set_option maxRecDepth 100000 in
theorem chalklinelaw16_CountTotals.calls (k : Nat) (A0 : Option Addr) (c0 : Nat) (l0 : List Int) (a1 : Int) (A2 : Option Addr) (c2 : Nat) (l2 : List Bool) (r : Bool) (w : World) (hr0 : Kd.C (Kd.int .i64) w A0 l0.length l0) (hc0 : l0.length ≤ c0) (hr2 : Kd.C Kd.bool w A2 l2.length l2) (hc2 : l2.length ≤ c2) (h : chalklinelaw16_CountTotals.f k l0 a1 l2 = some r) :
    Calls Try.prog 5 #[.slice A0 l0.length c0, .int .i64 a1, .slice A2 l2.length c2] w fun e w' => e = .returned (.bool r) ∧ Below w.heap.size w w' := by
  have HR0 := Aside0.mk hr0
  have HC0 := Aside0.mk hc0
  clear hr0 hc0
  have HR2 := Aside0.mk hr2
  have HC2 := Aside0.mk hc2
  clear hr2 hc2
  have HB := Aside0.mk (Below.refl w.heap.size w)
  have H : ((chalklinelaw16_live.f).bind fun t101 => (if t101 = true then (if (l2.length : Int) > 5 then (chalklinelaw16_CountTotals.j0 k l0 a1 l2 true) else (chalklinelaw16_CountTotals.j0 k l0 a1 l2 (decide ((l0.length : Int) > 5)))) else (some false))) = some r := h
  clear h
  replace H := Option.bind_eq_some_iff.mp H
  obtain ⟨t101, A40, H⟩ := H
  replace H : (if t101 = true then (if (l2.length : Int) > 5 then (chalklinelaw16_CountTotals.j0 k l0 a1 l2 true) else (chalklinelaw16_CountTotals.j0 k l0 a1 l2 (decide ((l0.length : Int) > 5)))) else (some false)) = some r := H
  have A4 := Aside0.mk A40
  clear A40
  by_cases c5 : t101 = true
  · subst c5
    have H1 : (if (l2.length : Int) > 5 then (chalklinelaw16_CountTotals.j0 k l0 a1 l2 true) else (chalklinelaw16_CountTotals.j0 k l0 a1 l2 (decide ((l0.length : Int) > 5)))) = some r := by rw [if_pos rfl] at H; exact H
    clear H
    have H := H1
    clear H1
    have HC6 := Aside0.mk H
    clear H
    go_enter Try.func5, Try.ntmps5
    go_upto_region 3 with (first | ((with_reducible refine gate_callee (f := 12) rfl ?_); refine goesL_ (some 20) rfl rfl Try.func12 (by kernel_rfl) rfl #[] rfl (by (try simp only [List.map_toArray, List.map_cons, List.map_nil]); first | done | rfl | (simp only [List.length_drop, List.length_take]; rfl)) ?_; (with_reducible refine (chalklinelaw16_live.calls  true _ A4.out).mono ?_); rintro e w7 ⟨rfl, hb⟩; refine ⟨_, rfl, ?_⟩; have n0_ := Aside0.mk (below_step (by repeat (first | (with_reducible first | exact HB.out | apply below_alloc | apply pw_below_drewN | apply below_drew1) | exact HB.out)) hb); clear HB; have HB := n0_; clear n0_; (try clear hb); (try clear hb2); (try clear hk); (try clear hi)))
    (try simp only [Act.put, List.setIfInBounds_toArray, List.set_cons_zero, List.set_cons_succ])
    go_cut [29] (fun v29 wc => ∃ (kq : Nat) (x29_5 : Bool), v29 = .bool x29_5 ∧ Aside0 (chalklinelaw16_CountTotals.j0 kq l0 a1 l2 x29_5 = some r) ∧ Aside0 (kq ≤ k) ∧ Aside0 (Below w.heap.size w wc))
    case first =>
      have H := HC6.out
      clear HC6
      by_cases c8 : (l2.length : Int) > 5
      · rw [if_pos c8] at H
        have c8b0 : decide (5 < (l2.length : Int)) = true := decide_eq_true c8
        have c8b1 : decide (5 < l2.length) = true := decide_eq_true (by omega)
        clear c8
        (first | rw [c8b0] | (simp only [i64_w, i32_w]; rw [c8b0]) | skip)
        have H' := Aside0.mk H
        clear H
        go_wp2
        go_meet
        case rel => exact ⟨_, (true), (by first | rfl | (simp; done) | (simp [*]; done)), H', ⟨by first | omega | exact Nat.le_refl _⟩, ⟨by repeat (first | (with_reducible first | exact HB.out | apply below_alloc | apply pw_below_drewN | apply below_drew1) | exact HB.out)⟩⟩
      · rw [if_neg c8] at H
        have c8b0 : decide (5 < (l2.length : Int)) = false := decide_eq_false c8
        have c8b1 : decide (5 < l2.length) = false := decide_eq_false (by omega)
        clear c8
        (first | rw [c8b0] | (simp only [i64_w, i32_w]; rw [c8b0]) | skip)
        have H' := Aside0.mk H
        clear H
        go_wp2
        go_meet
        case rel => exact ⟨_, (decide ((l0.length : Int) > 5)), (by first | rfl | (simp; done) | (simp [*]; done)), H', ⟨by first | omega | exact Nat.le_refl _⟩, ⟨by repeat (first | (with_reducible first | exact HB.out | apply below_alloc | apply pw_below_drewN | apply below_drew1) | exact HB.out)⟩⟩
    case rest =>
      clear HC6
      try clear c1
      try clear c2
      try clear p2
      try clear c5
      try clear c8
      try clear c8b0
      try clear c8b1
      obtain ⟨kq, x29_5, rfl, HA, HJ5, HB⟩ := hcut
      cases kq with
      | zero => exact absurd HA.out (by simp [chalklinelaw16_CountTotals.j0])
      | succ kj5 =>
        have H := HA.out
        clear HA
        simp only [chalklinelaw16_CountTotals.j0] at H
        by_cases c9 : x29_5 = true
        · subst c9
          have H1 : (some true) = some r := by rw [if_pos rfl] at H; exact H
          clear H
          have H := H1
          clear H1
          obtain rfl := Option.some.inj H
          go_wp2
          go_ret
          exact ⟨by first | rfl | (simp [errW_none, errW_some] <;> rfl) | (simp [*, errW_none, errW_some] <;> rfl), by repeat (first | (with_reducible first | exact HB.out | apply below_alloc | apply pw_below_drewN | apply below_drew1) | exact HB.out)⟩
        · replace c9 := Bool.eq_false_iff.mpr c9
          subst c9
          have H1 : ((some (([false] : List Bool) : List Bool)).bind fun y102 => (if y102.length + l2.length < 140737488355328 then ((some (y102 ++ l2 : List Bool)).bind fun y105 => ((count_Least.f l0 a1 (y105.length : Int)).bind fun bt108 => ((total_Total.f l0 (l0.length : Int) (y105.length : Int)).bind fun bt113 => (if bt108.2.2 = 0 then (chalklinelaw16_CountTotals.j1 kj5 l0 a1 y105 bt108.1 bt108.2.1 bt108.2.2 bt113.1 bt113.2.1 bt113.2.2.1 bt113.2.2.2 (bt113.2.2.2 != 0)) else (chalklinelaw16_CountTotals.j1 kj5 l0 a1 y105 bt108.1 bt108.2.1 bt108.2.2 bt113.1 bt113.2.1 bt113.2.2.1 bt113.2.2.2 true))))) else (none))) = some r := by rw [if_neg (show ¬ (false = true) by decide)] at H; exact H
          clear H
          have H := H1
          clear H1
          obtain ⟨y102, hy102⟩ : ∃ y_ : List Bool, y_ = (([false] : List Bool)) := ⟨_, rfl⟩
          replace H : (if y102.length + l2.length < 140737488355328 then ((some (y102 ++ l2 : List Bool)).bind fun y105 => ((count_Least.f l0 a1 (y105.length : Int)).bind fun bt108 => ((total_Total.f l0 (l0.length : Int) (y105.length : Int)).bind fun bt113 => (if bt108.2.2 = 0 then (chalklinelaw16_CountTotals.j1 kj5 l0 a1 y105 bt108.1 bt108.2.1 bt108.2.2 bt113.1 bt113.2.1 bt113.2.2.1 bt113.2.2.2 (bt113.2.2.2 != 0)) else (chalklinelaw16_CountTotals.j1 kj5 l0 a1 y105 bt108.1 bt108.2.1 bt108.2.2 bt113.1 bt113.2.1 bt113.2.2.1 bt113.2.2.2 true))))) else (none)) = some r := by first | (rw [hy102]; with_reducible exact H) | (have H2_ := (Option.bind_some _ _).symm.trans H; rw [hy102]; with_reducible exact H2_) | (have H2_ := (Option.bind_some _ _).symm.trans H; with_reducible exact H2_) | with_reducible exact H | (rw [hy102]; exact H) | exact H
          have Ny102 := Aside0.mk hy102
          clear hy102
          by_cases c10 : y102.length + l2.length < 140737488355328
          · rw [if_pos c10] at H
            have LMc10 := Aside0.mk c10
            clear c10
            obtain ⟨y105, hy105⟩ : ∃ y_ : List Bool, y_ = (y102 ++ l2) := ⟨_, rfl⟩
            replace H : ((count_Least.f l0 a1 (y105.length : Int)).bind fun bt108 => ((total_Total.f l0 (l0.length : Int) (y105.length : Int)).bind fun bt113 => (if bt108.2.2 = 0 then (chalklinelaw16_CountTotals.j1 kj5 l0 a1 y105 bt108.1 bt108.2.1 bt108.2.2 bt113.1 bt113.2.1 bt113.2.2.1 bt113.2.2.2 (bt113.2.2.2 != 0)) else (chalklinelaw16_CountTotals.j1 kj5 l0 a1 y105 bt108.1 bt108.2.1 bt108.2.2 bt113.1 bt113.2.1 bt113.2.2.1 bt113.2.2.2 true)))) = some r := by first | (rw [hy105]; with_reducible exact H) | (have H2_ := (Option.bind_some _ _).symm.trans H; rw [hy105]; with_reducible exact H2_) | (have H2_ := (Option.bind_some _ _).symm.trans H; with_reducible exact H2_) | with_reducible exact H | (rw [hy105]; exact H) | exact H
            have Ny105 := Aside0.mk hy105
            clear hy105
            replace H := Option.bind_eq_some_iff.mp H
            obtain ⟨⟨t108, t111, t112⟩, A110, H⟩ := H
            replace H : ((total_Total.f l0 (l0.length : Int) (y105.length : Int)).bind fun bt113 => (if t112 = 0 then (chalklinelaw16_CountTotals.j1 kj5 l0 a1 y105 t108 t111 t112 bt113.1 bt113.2.1 bt113.2.2.1 bt113.2.2.2 (bt113.2.2.2 != 0)) else (chalklinelaw16_CountTotals.j1 kj5 l0 a1 y105 t108 t111 t112 bt113.1 bt113.2.1 bt113.2.2.1 bt113.2.2.2 true))) = some r := H
            have A11 := Aside0.mk A110
            clear A110
            replace H := Option.bind_eq_some_iff.mp H
            obtain ⟨⟨t113, t116, t119, t120⟩, A120, H⟩ := H
            replace H : (if t112 = 0 then (chalklinelaw16_CountTotals.j1 kj5 l0 a1 y105 t108 t111 t112 t113 t116 t119 t120 (t120 != 0)) else (chalklinelaw16_CountTotals.j1 kj5 l0 a1 y105 t108 t111 t112 t113 t116 t119 t120 true)) = some r := H
            have A12 := Aside0.mk A120
            clear A120
            have HC13 := Aside0.mk H
            clear H
            go_upto_region 8 with (first | ((with_reducible refine gate_dst (N := 30) rfl ?_); (try (refine gate_guard (by rfl) ?_; dsimp only)); refine Kd.R_lit Kd.bool _ 4 ?hg (N := 30) ?hd (xs := ([false] : List Bool)) (inner := [.bool false]) (ok := fun _ => True) (okp := fun _ => True) ?hr ?hp (fun _ hk => hk) trivial (Below.refl _ _) (Nat.le_refl _) (by simp) ?_; (case hd => rfl); (case hg => rfl); (case hr => first | (go_simp; done) | (go_simp; rfl)); (case hp => exact (Reps.one (show Kd.M Kd.bool _ _ _ false [.bool false] from rfl) (Reps.none _ _))); intro v103 w14 ho15 hb hg_ hnew_; clear hg_ hnew_; (first | rw [← Ny102.out] at ho15 | (simp only [Int.reduceToNat] at ho15; rw [← Ny102.out] at ho15)); have n0_ := Aside0.mk (Kd.R_lower ho15 (below_size (by repeat (first | (with_reducible first | exact HB.out | apply below_alloc | apply pw_below_drewN | apply below_drew1) | exact HB.out)))); have n1_ := Aside0.mk (below_step (by repeat (first | (with_reducible first | exact HB.out | apply below_alloc | apply pw_below_drewN | apply below_drew1) | exact HB.out)) hb); clear HB; have HO104 := n0_; have HB := n1_; clear n0_ n1_; clear hb ho15) | ((with_reducible refine gate_builtin (b := .append) (xs := #[.tmp 30, .tmp 31]) rfl ?_); (try (refine gate_guard (by rfl) ?_; dsimp only)); at_builtin; refine Kd.R_append_rows Kd.bool (w0 := w) w.heap.size rfl (.tmp 30) (.tmp 31) 30 4 (.bool false) 1 rfl Try.underlying30 info4 rfl (by decide) (by omega) v103 y102 l2 _ _ _ (fun _ => True) (fun _ => False) rfl rfl ?aO ?aR (fun _ _ h => h) (fun _ h => h.elim) ?aF ?aB ?aS ?aL ?_; (case aR => repeat (first | exact (Kd.C_below HR2.out HB.out) | (with_reducible refine Kd.C_alloc ?_ _) | (with_reducible refine Kd.C_drewN ?_ _) | (with_reducible refine Kd.C_drew ?_))); (case aB => exact (by repeat (first | (with_reducible first | exact HB.out | apply below_alloc | apply pw_below_drewN | apply below_drew1) | exact HB.out))); (case aF => exact (fun _ _ => trivial)); (case aO => exact (by (with_reducible repeat (first | apply Kd.R_alloc | apply Kd.R_drewN | apply Kd.R_drew)); exact HO104.out)); (case aS => exact (below_size (by repeat (first | (with_reducible first | exact HB.out | apply below_alloc | apply pw_below_drewN | apply below_drew1) | exact HB.out)))); (case aL => have := LMc10.out; omega); intro v106 w16 ho hb hg hat; rw [← Ny105.out] at ho; have n0_ := Aside0.mk (hb); have n1_ := Aside0.mk (ho); clear HB; clear HO104; have HB := n0_; have HO107 := n1_; clear n0_ n1_; clear ho hb hg hat; obtain ⟨Ao17, co17, eo17⟩ := Kd.R_slice HO107.out; subst eo17) | ((with_reducible refine gate_callee (f := 13) rfl ?_); refine goesL_ (some 38) rfl rfl Try.func13 (by kernel_rfl) rfl #[.slice A0 l0.length c0, .int .i64 a1, .int .i64 (y105.length : Int)] rfl (by (try simp only [List.map_toArray, List.map_cons, List.map_nil]); first | done | rfl | (simp only [List.length_drop, List.length_take]; rfl)) ?_; (with_reducible refine (count_Least.calls _ _ l0 a1 (y105.length : Int) t108 t111 t112 _ ?side1 ?side2 A11.out).mono ?_); (case side1 => repeat (first | exact (Kd.C_below HR0.out HB.out) | (with_reducible refine Kd.C_alloc ?_ _) | (with_reducible refine Kd.C_drewN ?_ _) | (with_reducible refine Kd.C_drew ?_))); (case side2 => exact HC0.out); rintro e w18 ⟨v109, rfl, ho0, hb⟩; refine ⟨_, rfl, ?_⟩; have n0_ := Aside0.mk (Kd.R_below (by (with_reducible repeat (first | apply Kd.R_alloc | apply Kd.R_drewN | apply Kd.R_drew)); exact HO107.out) hb); have n1_ := Aside0.mk (Kd.N_lower (Kd.N_mono (ok' := fun k_ => some k_ ≠ (.slice Ao17 y105.length co17 : Value).ownBlock) ho0 (fun k_ hk_ => (Kd.fresh' (Kd.R_lt (by (with_reducible repeat (first | apply Kd.R_alloc | apply Kd.R_drewN | apply Kd.R_drew)); exact HO107.out)) k_ hk_))) (below_size (by repeat (first | (with_reducible first | exact HB.out | apply below_alloc | apply pw_below_drewN | apply below_drew1) | exact HB.out)))); have n2_ := Aside0.mk (below_step (by repeat (first | (with_reducible first | exact HB.out | apply below_alloc | apply pw_below_drewN | apply below_drew1) | exact HB.out)) hb); clear HO107; clear HB; have HO107 := n0_; have HO110 := n1_; have HB := n2_; clear n0_ n1_ n2_; (try clear hb); (try clear hb2); (try clear hk); (try clear hi); (try clear ho0)) | ((with_reducible refine gate_callee (f := 18) rfl ?_); refine goesL_ (some 48) rfl rfl Try.func18 (by kernel_rfl) rfl #[.slice A0 l0.length c0, .int .i64 (l0.length : Int), .int .i64 (y105.length : Int)] rfl (by (try simp only [List.map_toArray, List.map_cons, List.map_nil]); first | done | rfl | (simp only [List.length_drop, List.length_take]; rfl)) ?_; (with_reducible refine (total_Total.calls _ _ l0 (l0.length : Int) (y105.length : Int) t113 t116 t119 t120 _ ?side1 ?side2 A12.out).mono ?_); (case side1 => repeat (first | exact (Kd.C_below HR0.out HB.out) | (with_reducible refine Kd.C_alloc ?_ _) | (with_reducible refine Kd.C_drewN ?_ _) | (with_reducible refine Kd.C_drew ?_))); (case side2 => exact HC0.out); rintro e w19 ⟨v114, v117, rfl, ho0, ho1, hb⟩; refine ⟨_, rfl, ?_⟩; have n0_ := Aside0.mk (Kd.R_below (by (with_reducible repeat (first | apply Kd.R_alloc | apply Kd.R_drewN | apply Kd.R_drew)); exact HO107.out) hb); have n1_ := Aside0.mk (Kd.N_mono (Kd.N_told (Kd.N_told (Kd.N_old (by (with_reducible repeat (first | apply Kd.N_alloc | apply Kd.N_drewN | apply Kd.N_drew)); exact HO110.out) hb) (Kd.R_base ho0)) (Kd.N_base ho1)) (fun _ h_ => h_.1)); have n2_ := Aside0.mk (Kd.R_lower (Kd.R_mono (ok' := fun k_ => True) ho0 (fun _ hk_ => trivial)) (below_size (by repeat (first | (with_reducible first | exact HB.out | apply below_alloc | apply pw_below_drewN | apply below_drew1) | exact HB.out)))); have n3_ := Aside0.mk (Kd.N_lower (Kd.N_mono (ok' := fun k_ => some k_ ≠ (v114 : Value).ownBlock ∧ some k_ ≠ (.slice Ao17 y105.length co17 : Value).ownBlock ∧ some k_ ≠ (v109 : Value).ownBlock) ho1 (fun k_ hk_ => ⟨hk_.2, (Kd.fresh' (Kd.R_lt (by (with_reducible repeat (first | apply Kd.R_alloc | apply Kd.R_drewN | apply Kd.R_drew)); exact HO107.out)) k_ hk_.1), (Kd.fresh' (Kd.N_lt (by (with_reducible repeat (first | apply Kd.N_alloc | apply Kd.N_drewN | apply Kd.N_drew)); exact HO110.out)) k_ hk_.1)⟩)) (below_size (by repeat (first | (with_reducible first | exact HB.out | apply below_alloc | apply pw_below_drewN | apply below_drew1) | exact HB.out)))); have n4_ := Aside0.mk (below_step (by repeat (first | (with_reducible first | exact HB.out | apply below_alloc | apply pw_below_drewN | apply below_drew1) | exact HB.out)) hb); clear HO107; clear HO110; clear HB; have HO107 := n0_; have HO110 := n1_; have HO115 := n2_; have HO118 := n3_; have HB := n4_; clear n0_ n1_ n2_ n3_ n4_; (try clear hb); (try clear hb2); (try clear hk); (try clear hi); (try clear ho0); (try clear ho1)))
            (try simp only [Act.put, List.setIfInBounds_toArray, List.set_cons_zero, List.set_cons_succ])
            go_cut [58] (fun v58 wc => ∃ (kq : Nat) (x58_12 : Bool), v58 = .bool x58_12 ∧ Aside0 (chalklinelaw16_CountTotals.j1 kq l0 a1 y105 t108 t111 t112 t113 t116 t119 t120 x58_12 = some r) ∧ Aside0 (kq ≤ kj5) ∧ Aside0 (Kd.R Kd.bool 4 wc w.heap.size (fun _ => True) (.slice Ao17 y105.length co17) y105) ∧ Aside0 (Kd.N (Kd.slice 3 (Kd.int .i64)) 22 wc w.heap.size (fun k_ => some k_ ≠ ((.slice Ao17 y105.length co17) : Value).ownBlock ∧ some k_ ≠ (v114 : Value).ownBlock ∧ some k_ ≠ (v117 : Value).ownBlock) v109 t108) ∧ Aside0 (Kd.R (Kd.int .i64) 3 wc w.heap.size (fun _ => True) v114 t113) ∧ Aside0 (Kd.N (Kd.slice 3 (Kd.int .i64)) 22 wc w.heap.size (fun k_ => some k_ ≠ ((.slice Ao17 y105.length co17) : Value).ownBlock ∧ some k_ ≠ (v109 : Value).ownBlock ∧ some k_ ≠ (v114 : Value).ownBlock) v117 t116) ∧ Aside0 (Below w.heap.size w wc))
            case first =>
              have H := HC13.out
              clear HC13
              by_cases c20 : t112 = 0
              · rw [if_pos c20] at H
                have c20b0 : (t112 == 0) = true := beq_iff_eq.mpr c20
                have c20b1 : (t112 != 0) = false := bne_eq_false_iff_eq.mpr c20
                clear c20
                (first | rw [c20b0] | (simp only [i64_w, i32_w]; rw [c20b0]) | skip)
                have H' := Aside0.mk H
                clear H
                go_wp2
                go_meet
                case rel => exact ⟨_, ((t120 != 0)), (by first | rfl | (simp; done) | (simp [*]; done)), H', ⟨by have := HJ5.out; first | omega | exact Nat.le_refl _⟩, ⟨by (with_reducible repeat (first | apply Kd.R_alloc | apply Kd.R_drewN | apply Kd.R_drew)); exact HO107.out⟩, ⟨by (with_reducible repeat (first | apply Kd.N_alloc | apply Kd.N_drewN | apply Kd.N_drew)); exact Kd.N_mono HO110.out (fun _ hk => ⟨hk.1.1, ⟨hk.1.2, hk.2⟩⟩)⟩, ⟨by (with_reducible repeat (first | apply Kd.R_alloc | apply Kd.R_drewN | apply Kd.R_drew)); exact HO115.out⟩, ⟨by (with_reducible repeat (first | apply Kd.N_alloc | apply Kd.N_drewN | apply Kd.N_drew)); exact Kd.N_mono HO118.out (fun _ hk => ⟨hk.2.1, ⟨hk.2.2, hk.1⟩⟩)⟩, ⟨by repeat (first | (with_reducible first | exact HB.out | apply below_alloc | apply pw_below_drewN | apply below_drew1) | exact HB.out)⟩⟩
              · rw [if_neg c20] at H
                have c20b0 : (t112 == 0) = false := beq_eq_false_iff_ne.mpr c20
                have c20b1 : (t112 != 0) = true := bne_iff_ne.mpr c20
                (first | rw [c20b0] | (simp only [i64_w, i32_w]; rw [c20b0]) | skip)
                have H' := Aside0.mk H
                clear H
                go_wp2
                go_meet
                case rel => exact ⟨_, (true), (by first | rfl | (simp; done) | (simp [*]; done)), H', ⟨by have := HJ5.out; first | omega | exact Nat.le_refl _⟩, ⟨by (with_reducible repeat (first | apply Kd.R_alloc | apply Kd.R_drewN | apply Kd.R_drew)); exact HO107.out⟩, ⟨by (with_reducible repeat (first | apply Kd.N_alloc | apply Kd.N_drewN | apply Kd.N_drew)); exact Kd.N_mono HO110.out (fun _ hk => ⟨hk.1.1, ⟨hk.1.2, hk.2⟩⟩)⟩, ⟨by (with_reducible repeat (first | apply Kd.R_alloc | apply Kd.R_drewN | apply Kd.R_drew)); exact HO115.out⟩, ⟨by (with_reducible repeat (first | apply Kd.N_alloc | apply Kd.N_drewN | apply Kd.N_drew)); exact Kd.N_mono HO118.out (fun _ hk => ⟨hk.2.1, ⟨hk.2.2, hk.1⟩⟩)⟩, ⟨by repeat (first | (with_reducible first | exact HB.out | apply below_alloc | apply pw_below_drewN | apply below_drew1) | exact HB.out)⟩⟩
            case rest =>
              clear HC13
              try clear c1
              try clear c2
              try clear p2
              try clear c5
              try clear c8
              try clear c8b0
              try clear c8b1
              try clear c9
              try clear c10
              try clear c12
              try clear c13
              try clear c18
              try clear c20
              try clear c20b0
              try clear c20b1
              try clear p2
              obtain ⟨kq, x58_12, rfl, HA, HJ12, HO_7, HO_8, HO_11, HO_12, HB⟩ := hcut
              cases kq with
              | zero => exact absurd HA.out (by simp [chalklinelaw16_CountTotals.j1])
              | succ kj12 =>
                have H := HA.out
                clear HA
                simp only [chalklinelaw16_CountTotals.j1] at H
                by_cases c21 : x58_12 = true
                · subst c21
                  have H1 : (if t112 = t120 then (if (t108.length : Int) = 0 then (some ((t113.length : Int) == 0)) else (some false)) else (some false)) = some r := by rw [if_pos rfl] at H; exact H
                  clear H
                  have H := H1
                  clear H1
                  by_cases c22 : t112 = t120
                  · rw [if_pos c22] at H
                    have c22b0 : (t112 == t120) = true := beq_iff_eq.mpr c22
                    have c22b1 : (t112 != t120) = false := bne_eq_false_iff_eq.mpr c22
                    clear c22
                    by_cases c23 : (t108.length : Int) = 0
                    · rw [if_pos c23] at H
                      have c23b0 : ((t108.length : Int) == 0) = true := beq_iff_eq.mpr c23
                      have c23b1 : ((t108.length : Int) != 0) = false := bne_eq_false_iff_eq.mpr c23
                      clear c23
                      obtain rfl := Option.some.inj H
                      obtain ⟨Ao24, co24, eo24⟩ := Kd.N_slice HO_8.out
                      subst eo24
                      obtain ⟨Ao25, co25, eo25⟩ := Kd.R_slice HO_11.out
                      subst eo25
                      go_wp2
                      go_ret
                      exact ⟨by first | rfl | (simp [errW_none, errW_some] <;> rfl) | (simp [*, errW_none, errW_some] <;> rfl), by repeat (first | (with_reducible first | exact HB.out | apply below_alloc | apply pw_below_drewN | apply below_drew1) | exact HB.out)⟩
                    · rw [if_neg c23] at H
                      have c23b0 : ((t108.length : Int) == 0) = false := beq_eq_false_iff_ne.mpr c23
                      have c23b1 : ((t108.length : Int) != 0) = true := bne_iff_ne.mpr c23
                      have c23b2 : ¬ (t108 = []) := fun h_ => c23 (by rw [h_]; rfl)
                      obtain rfl := Option.some.inj H
                      obtain ⟨Ao26, co26, eo26⟩ := Kd.N_slice HO_8.out
                      subst eo26
                      go_wp2
                      go_ret
                      exact ⟨by first | rfl | (simp [errW_none, errW_some] <;> rfl) | (simp [*, errW_none, errW_some] <;> rfl), by repeat (first | (with_reducible first | exact HB.out | apply below_alloc | apply pw_below_drewN | apply below_drew1) | exact HB.out)⟩
                  · rw [if_neg c22] at H
                    have c22b0 : (t112 == t120) = false := beq_eq_false_iff_ne.mpr c22
                    have c22b1 : (t112 != t120) = true := bne_iff_ne.mpr c22
                    obtain rfl := Option.some.inj H
                    go_wp2
                    go_ret
                    exact ⟨by first | rfl | (simp [errW_none, errW_some] <;> rfl) | (simp [*, errW_none, errW_some] <;> rfl), by repeat (first | (with_reducible first | exact HB.out | apply below_alloc | apply pw_below_drewN | apply below_drew1) | exact HB.out)⟩
                · replace c21 := Bool.eq_false_iff.mpr c21
                  subst c21
                  have H1 : (if a1 < 1 then (chalklinelaw16_CountTotals.j2 kj12 l0 a1 y105 t108 t111 t113 t116 t119 true) else (chalklinelaw16_CountTotals.j2 kj12 l0 a1 y105 t108 t111 t113 t116 t119 (decide (a1 > (t113.length : Int))))) = some r := by rw [if_neg (show ¬ (false = true) by decide)] at H; exact H
                  clear H
                  have H := H1
                  clear H1
                  have HC27 := Aside0.mk H
                  clear H
                  go_upto_region 10 with (fail)
                  go_cut [79] (fun v79 wc => ∃ (kq : Nat) (x79_26 : Bool), v79 = .bool x79_26 ∧ Aside0 (chalklinelaw16_CountTotals.j2 kq l0 a1 y105 t108 t111 t113 t116 t119 x79_26 = some r) ∧ Aside0 (kq ≤ kj12) ∧ Aside0 (Kd.R Kd.bool 4 wc w.heap.size (fun _ => True) (.slice Ao17 y105.length co17) y105) ∧ Aside0 (Kd.N (Kd.slice 3 (Kd.int .i64)) 22 wc w.heap.size (fun k_ => some k_ ≠ ((.slice Ao17 y105.length co17) : Value).ownBlock ∧ some k_ ≠ (v114 : Value).ownBlock ∧ some k_ ≠ (v117 : Value).ownBlock) v109 t108) ∧ Aside0 (Kd.R (Kd.int .i64) 3 wc w.heap.size (fun _ => True) v114 t113) ∧ Aside0 (Kd.N (Kd.slice 3 (Kd.int .i64)) 22 wc w.heap.size (fun k_ => some k_ ≠ ((.slice Ao17 y105.length co17) : Value).ownBlock ∧ some k_ ≠ (v109 : Value).ownBlock ∧ some k_ ≠ (v114 : Value).ownBlock) v117 t116) ∧ Aside0 (Below w.heap.size w wc))
                  case first =>
                    have H := HC27.out
                    clear HC27
                    by_cases c28 : a1 < 1
                    · rw [if_pos c28] at H
                      have c28b0 : decide (a1 < 1) = true := decide_eq_true c28
                      clear c28
                      (first | rw [c28b0] | (simp only [i64_w, i32_w]; rw [c28b0]) | skip)
                      have H' := Aside0.mk H
                      clear H
                      go_wp2
                      go_meet
                      case rel => exact ⟨_, (true), (by first | rfl | (simp; done) | (simp [*]; done)), H', ⟨by have := HJ5.out; have := HJ12.out; first | omega | exact Nat.le_refl _⟩, ⟨by (with_reducible repeat (first | apply Kd.R_alloc | apply Kd.R_drewN | apply Kd.R_drew)); exact HO_7.out⟩, ⟨by (with_reducible repeat (first | apply Kd.N_alloc | apply Kd.N_drewN | apply Kd.N_drew)); exact HO_8.out⟩, ⟨by (with_reducible repeat (first | apply Kd.R_alloc | apply Kd.R_drewN | apply Kd.R_drew)); exact HO_11.out⟩, ⟨by (with_reducible repeat (first | apply Kd.N_alloc | apply Kd.N_drewN | apply Kd.N_drew)); exact HO_12.out⟩, ⟨by repeat (first | (with_reducible first | exact HB.out | apply below_alloc | apply pw_below_drewN | apply below_drew1) | exact HB.out)⟩⟩
                    · rw [if_neg c28] at H
                      have c28b0 : decide (a1 < 1) = false := decide_eq_false c28
                      clear c28
                      (first | rw [c28b0] | (simp only [i64_w, i32_w]; rw [c28b0]) | skip)
                      have H' := Aside0.mk H
                      clear H
                      obtain ⟨Ao29, co29, eo29⟩ := Kd.R_slice HO_11.out
                      subst eo29
                      go_wp2
                      go_meet
                      case rel => exact ⟨_, (decide (a1 > (t113.length : Int))), (by first | rfl | (simp; done) | (simp [*]; done)), H', ⟨by have := HJ5.out; have := HJ12.out; first | omega | exact Nat.le_refl _⟩, ⟨by (with_reducible repeat (first | apply Kd.R_alloc | apply Kd.R_drewN | apply Kd.R_drew)); exact HO_7.out⟩, ⟨by (with_reducible repeat (first | apply Kd.N_alloc | apply Kd.N_drewN | apply Kd.N_drew)); exact HO_8.out⟩, ⟨by (with_reducible repeat (first | apply Kd.R_alloc | apply Kd.R_drewN | apply Kd.R_drew)); exact HO_11.out⟩, ⟨by (with_reducible repeat (first | apply Kd.N_alloc | apply Kd.N_drewN | apply Kd.N_drew)); exact HO_12.out⟩, ⟨by repeat (first | (with_reducible first | exact HB.out | apply below_alloc | apply pw_below_drewN | apply below_drew1) | exact HB.out)⟩⟩
                  case rest =>
                    clear HC27
                    try clear c1
                    try clear c2
                    try clear p2
                    try clear c5
                    try clear c8
                    try clear c8b0
                    try clear c8b1
                    try clear c9
                    try clear c10
                    try clear c12
                    try clear c13
                    try clear c18
                    try clear c20
                    try clear c20b0
                    try clear c20b1
                    try clear c21
                    try clear c22
                    try clear c22b0
                    try clear c22b1
                    try clear c23
                    try clear c23b0
                    try clear c23b1
                    try clear c23b2
                    try clear c28
                    try clear c28b0
                    try clear p2
                    obtain ⟨kq, x79_26, rfl, HA, HJ26, HO_7, HO_8, HO_11, HO_12, HB⟩ := hcut
                    cases kq with
                    | zero => exact absurd HA.out (by simp [chalklinelaw16_CountTotals.j2])
                    | succ kj26 =>
                      have H := HA.out
                      clear HA
                      simp only [chalklinelaw16_CountTotals.j2] at H
                      by_cases c30 : x79_26 = true
                      · subst c30
                        have H1 : (some ((t113.length : Int) == (l0.length : Int))) = some r := by rw [if_pos rfl] at H; exact H
                        clear H
                        have H := H1
                        clear H1
                        obtain rfl := Option.some.inj H
                        obtain ⟨Ao31, co31, eo31⟩ := Kd.R_slice HO_11.out
                        subst eo31
                        go_wp2
                        go_ret
                        exact ⟨by first | rfl | (simp [errW_none, errW_some] <;> rfl) | (simp [*, errW_none, errW_some] <;> rfl), by repeat (first | (with_reducible first | exact HB.out | apply below_alloc | apply pw_below_drewN | apply below_drew1) | exact HB.out)⟩
                      · replace c30 := Bool.eq_false_iff.mpr c30
                        subst c30
                        have H1 : (if (wrap64 (t111 - (y105.length : Int))) > 9 then (chalklinelaw16_CountTotals.j3 kj26 a1 y105 t108 t111 t113 t116 t119 true) else (chalklinelaw16_CountTotals.j3 kj26 a1 y105 t108 t111 t113 t116 t119 (decide ((wrap64 (t119 - (y105.length : Int))) > 9)))) = some r := by rw [if_neg (show ¬ (false = true) by decide)] at H; exact H
                        clear H
                        have H := H1
                        clear H1
                        have HC32 := Aside0.mk H
                        clear H
                        go_upto_region 12 with (fail)
                        go_cut [96] (fun v96 wc => ∃ (kq : Nat) (x96_31 : Bool), v96 = .bool x96_31 ∧ Aside0 (chalklinelaw16_CountTotals.j3 kq a1 y105 t108 t111 t113 t116 t119 x96_31 = some r) ∧ Aside0 (kq ≤ kj26) ∧ Aside0 (Kd.R Kd.bool 4 wc w.heap.size (fun _ => True) (.slice Ao17 y105.length co17) y105) ∧ Aside0 (Kd.N (Kd.slice 3 (Kd.int .i64)) 22 wc w.heap.size (fun k_ => some k_ ≠ ((.slice Ao17 y105.length co17) : Value).ownBlock ∧ some k_ ≠ (v114 : Value).ownBlock ∧ some k_ ≠ (v117 : Value).ownBlock) v109 t108) ∧ Aside0 (Kd.R (Kd.int .i64) 3 wc w.heap.size (fun _ => True) v114 t113) ∧ Aside0 (Kd.N (Kd.slice 3 (Kd.int .i64)) 22 wc w.heap.size (fun k_ => some k_ ≠ ((.slice Ao17 y105.length co17) : Value).ownBlock ∧ some k_ ≠ (v109 : Value).ownBlock ∧ some k_ ≠ (v114 : Value).ownBlock) v117 t116) ∧ Aside0 (Below w.heap.size w wc))
                        case first =>
                          have H := HC32.out
                          clear HC32
                          by_cases c33 : (wrap64 (t111 - (y105.length : Int))) > 9
                          · rw [if_pos c33] at H
                            have c33b0 : decide (9 < (wrap64 (t111 - (y105.length : Int)))) = true := decide_eq_true c33
                            clear c33
                            (first | rw [c33b0] | (simp only [i64_w, i32_w]; rw [c33b0]) | skip)
                            have H' := Aside0.mk H
                            clear H
                            go_wp2
                            go_meet
                            case rel => exact ⟨_, (true), (by first | rfl | (simp; done) | (simp [*]; done)), H', ⟨by have := HJ5.out; have := HJ12.out; have := HJ26.out; first | omega | exact Nat.le_refl _⟩, ⟨by (with_reducible repeat (first | apply Kd.R_alloc | apply Kd.R_drewN | apply Kd.R_drew)); exact HO_7.out⟩, ⟨by (with_reducible repeat (first | apply Kd.N_alloc | apply Kd.N_drewN | apply Kd.N_drew)); exact HO_8.out⟩, ⟨by (with_reducible repeat (first | apply Kd.R_alloc | apply Kd.R_drewN | apply Kd.R_drew)); exact HO_11.out⟩, ⟨by (with_reducible repeat (first | apply Kd.N_alloc | apply Kd.N_drewN | apply Kd.N_drew)); exact HO_12.out⟩, ⟨by repeat (first | (with_reducible first | exact HB.out | apply below_alloc | apply pw_below_drewN | apply below_drew1) | exact HB.out)⟩⟩
                          · rw [if_neg c33] at H
                            have c33b0 : decide (9 < (wrap64 (t111 - (y105.length : Int)))) = false := decide_eq_false c33
                            clear c33
                            (first | rw [c33b0] | (simp only [i64_w, i32_w]; rw [c33b0]) | skip)
                            have H' := Aside0.mk H
                            clear H
                            go_wp2
                            go_meet
                            case rel => exact ⟨_, (decide ((wrap64 (t119 - (y105.length : Int))) > 9)), (by first | rfl | (simp; done) | (simp [*]; done)), H', ⟨by have := HJ5.out; have := HJ12.out; have := HJ26.out; first | omega | exact Nat.le_refl _⟩, ⟨by (with_reducible repeat (first | apply Kd.R_alloc | apply Kd.R_drewN | apply Kd.R_drew)); exact HO_7.out⟩, ⟨by (with_reducible repeat (first | apply Kd.N_alloc | apply Kd.N_drewN | apply Kd.N_drew)); exact HO_8.out⟩, ⟨by (with_reducible repeat (first | apply Kd.R_alloc | apply Kd.R_drewN | apply Kd.R_drew)); exact HO_11.out⟩, ⟨by (with_reducible repeat (first | apply Kd.N_alloc | apply Kd.N_drewN | apply Kd.N_drew)); exact HO_12.out⟩, ⟨by repeat (first | (with_reducible first | exact HB.out | apply below_alloc | apply pw_below_drewN | apply below_drew1) | exact HB.out)⟩⟩
                        case rest =>
                          clear HC32
                          try clear c1
                          try clear c2
                          try clear p2
                          try clear c3
                          try clear c5
                          try clear p6
                          try clear c8
                          try clear c8b0
                          try clear c8b1
                          try clear c9
                          try clear c10
                          try clear c12
                          try clear c13
                          try clear c18
                          try clear c20
                          try clear c20b0
                          try clear c20b1
                          try clear c21
                          try clear c22
                          try clear c22b0
                          try clear c22b1
                          try clear c23
                          try clear c23b0
                          try clear c23b1
                          try clear c23b2
                          try clear c28
                          try clear c28b0
                          try clear c30
                          try clear c33
                          try clear c33b0
                          try clear p2
                          obtain ⟨kq, x96_31, rfl, HA, HJ31, HO_7, HO_8, HO_11, HO_12, HB⟩ := hcut
                          cases kq with
                          | zero => exact absurd HA.out (by simp [chalklinelaw16_CountTotals.j3])
                          | succ kj31 =>
                            have H := HA.out
                            clear HA
                            simp only [chalklinelaw16_CountTotals.j3] at H
                            by_cases c34 : x96_31 = true
                            · subst c34
                              have H1 : (some true) = some r := by rw [if_pos rfl] at H; exact H
                              clear H
                              have H := H1
                              clear H1
                              obtain rfl := Option.some.inj H
                              go_wp2
                              go_ret
                              exact ⟨by first | rfl | (simp [errW_none, errW_some] <;> rfl) | (simp [*, errW_none, errW_some] <;> rfl), by repeat (first | (with_reducible first | exact HB.out | apply below_alloc | apply pw_below_drewN | apply below_drew1) | exact HB.out)⟩
                            · replace c34 := Bool.eq_false_iff.mpr c34
                              subst c34
                              have H1 : (if ([] : List (List Int)).length + t116.length < 5864062014805 then ((some (([] : List (List Int)) ++ t116 : List (List Int))).bind fun y121 => (if 0 ≤ (wrap64 (a1 - 1)) then (if (wrap64 (a1 - 1)) < (t113.length : Int) then ((some (([(([rd t113 (wrap64 (a1 - 1))] : List Int))] : List (List Int)) : List (List Int))).bind fun y128 => (if y121.length + y128.length < 5864062014805 then ((chalklinelaw16_can.f kj31 t108 y105 t111).bind fun bt134 => ((chalklinelaw16_can.f kj31 (y121 ++ y128) y105 t119).bind fun bt136 => (some (bt134.1 == bt136.1)))) else (none))) else (none)) else (none))) else (none)) = some r := by rw [if_neg (show ¬ (false = true) by decide)] at H; exact H
                              clear H
                              have H := H1
                              clear H1
                              by_cases c35 : ([] : List (List Int)).length + t116.length < 5864062014805
                              · rw [if_pos c35] at H
                                have LMc35 := Aside0.mk c35
                                clear c35
                                obtain ⟨y121, hy121⟩ : ∃ y_ : List (List Int), y_ = (([] : List (List Int)) ++ t116) := ⟨_, rfl⟩
                                replace H : (if 0 ≤ (wrap64 (a1 - 1)) then (if (wrap64 (a1 - 1)) < (t113.length : Int) then ((some (([(([rd t113 (wrap64 (a1 - 1))] : List Int))] : List (List Int)) : List (List Int))).bind fun y128 => (if y121.length + y128.length < 5864062014805 then ((chalklinelaw16_can.f kj31 t108 y105 t111).bind fun bt134 => ((chalklinelaw16_can.f kj31 (y121 ++ y128) y105 t119).bind fun bt136 => (some (bt134.1 == bt136.1)))) else (none))) else (none)) else (none)) = some r := by first | (rw [hy121]; with_reducible exact H) | (have H2_ := (Option.bind_some _ _).symm.trans H; rw [hy121]; with_reducible exact H2_) | (have H2_ := (Option.bind_some _ _).symm.trans H; with_reducible exact H2_) | with_reducible exact H | (rw [hy121]; exact H) | exact H
                                have Ny121 := Aside0.mk hy121
                                clear hy121
                                obtain ⟨ji36, hji36⟩ : ∃ j_ : Int, (wrap64 (a1 - 1)) = j_ := ⟨_, rfl⟩
                                replace H : (if 0 ≤ (ji36) then (if (ji36) < (t113.length : Int) then ((some (([(([rd t113 (ji36)] : List Int))] : List (List Int)) : List (List Int))).bind fun y128 => (if y121.length + y128.length < 5864062014805 then ((chalklinelaw16_can.f kj31 t108 y105 t111).bind fun bt134 => ((chalklinelaw16_can.f kj31 (y121 ++ y128) y105 t119).bind fun bt136 => (some (bt134.1 == bt136.1)))) else (none))) else (none)) else (none)) = some r := by first | (rw [hji36] at H; exact H) | (simp only [hji36] at H ⊢; exact H)
                                have hji36w : (IntKind.i64.wrap (a1 - 1)) = ji36 := (i64_w _).trans hji36
                                by_cases c37 : 0 ≤ (ji36)
                                · rw [if_pos c37] at H
                                  have c37b0 : decide (0 ≤ (ji36)) = true := decide_eq_true c37
                                  clear c37
                                  by_cases c38 : (ji36) < (t113.length : Int)
                                  · rw [if_pos c38] at H
                                    have c38b0 : decide ((ji36) < (t113.length : Int)) = true := decide_eq_true c38
                                    clear c38
                                    obtain ⟨y125, hy125⟩ : ∃ y_ : List Int, y_ = (([rd t113 (ji36)] : List Int)) := ⟨_, rfl⟩
                                    replace H : ((some (([y125] : List (List Int)) : List (List Int))).bind fun y128 => (if y121.length + y128.length < 5864062014805 then ((chalklinelaw16_can.f kj31 t108 y105 t111).bind fun bt134 => ((chalklinelaw16_can.f kj31 (y121 ++ y128) y105 t119).bind fun bt136 => (some (bt134.1 == bt136.1)))) else (none))) = some r := by first | (rw [hy125]; with_reducible exact H) | (have H2_ := (Option.bind_some _ _).symm.trans H; rw [hy125]; with_reducible exact H2_) | (have H2_ := (Option.bind_some _ _).symm.trans H; with_reducible exact H2_) | with_reducible exact H | (rw [hy125]; exact H) | exact H
                                    have Ny125 := Aside0.mk hy125
                                    clear hy125
                                    obtain ⟨y128, hy128⟩ : ∃ y_ : List (List Int), y_ = (([y125] : List (List Int))) := ⟨_, rfl⟩
                                    replace H : (if y121.length + y128.length < 5864062014805 then ((chalklinelaw16_can.f kj31 t108 y105 t111).bind fun bt134 => ((chalklinelaw16_can.f kj31 (y121 ++ y128) y105 t119).bind fun bt136 => (some (bt134.1 == bt136.1)))) else (none)) = some r := by first | (rw [hy128]; with_reducible exact H) | (have H2_ := (Option.bind_some _ _).symm.trans H; rw [hy128]; with_reducible exact H2_) | (have H2_ := (Option.bind_some _ _).symm.trans H; with_reducible exact H2_) | with_reducible exact H | (rw [hy128]; exact H) | exact H
                                    have Ny128 := Aside0.mk hy128
                                    clear hy128
                                    by_cases c39 : y121.length + y128.length < 5864062014805
                                    · rw [if_pos c39] at H
                                      have LMc39 := Aside0.mk c39
                                      clear c39
                                      obtain ⟨y131, hy131⟩ : ∃ y_ : List (List Int), y_ = (y121 ++ y128) := ⟨_, rfl⟩
                                      replace H : ((chalklinelaw16_can.f kj31 t108 y105 t111).bind fun bt134 => ((chalklinelaw16_can.f kj31 y131 y105 t119).bind fun bt136 => (some (bt134.1 == bt136.1)))) = some r := by first | (rw [hy131]; with_reducible exact H) | (have H2_ := (Option.bind_some _ _).symm.trans H; rw [hy131]; with_reducible exact H2_) | (have H2_ := (Option.bind_some _ _).symm.trans H; with_reducible exact H2_) | with_reducible exact H | (rw [hy131]; exact H) | exact H
                                      have Ny131 := Aside0.mk hy131
                                      clear hy131
                                      replace H := Option.bind_eq_some_iff.mp H
                                      obtain ⟨⟨t134, t135⟩, A400, H⟩ := H
                                      replace H : ((chalklinelaw16_can.f kj31 y131 y105 t119).bind fun bt136 => (some (t134 == bt136.1))) = some r := H
                                      have A40 := Aside0.mk A400
                                      clear A400
                                      replace H := Option.bind_eq_some_iff.mp H
                                      obtain ⟨⟨t136, t137⟩, A410, H⟩ := H
                                      replace H : (some (t134 == t136)) = some r := H
                                      have A41 := Aside0.mk A410
                                      clear A410
                                      obtain rfl := Option.some.inj H
                                      obtain ⟨Ao42, co42, eo42⟩ := Kd.N_slice HO_12.out
                                      subst eo42
                                      try go_wp2
                                      have n0_ := Aside0.mk (Kd.R_drew HO_7.out)
                                      have n1_ := Aside0.mk (Kd.N_drew HO_8.out)
                                      have n2_ := Aside0.mk (Kd.R_drew HO_11.out)
                                      have n3_ := Aside0.mk (Kd.N_drew HO_12.out)
                                      have n4_ := Aside0.mk (below_drew1 HB.out)
                                      clear HO_7
                                      clear HO_8
                                      clear HO_11
                                      clear HO_12
                                      clear HB
                                      have HO_7 := n0_
                                      have HO_8 := n1_
                                      have HO_11 := n2_
                                      have HO_12 := n3_
                                      have HB := n4_
                                      clear n0_ n1_ n2_ n3_ n4_
                                      obtain ⟨Ao44, co44, eo44⟩ := Kd.R_slice HO_11.out
                                      (first | subst eo44 | (injection eo44 with f1_ f2_ f3_; have f4_ := f1_.symm; have f5_ := f3_.symm; clear f1_ f2_ f3_; subst f4_; subst f5_))
                                      have p124 : 0 ≤ ((ji36) : Int) := of_decide_eq_true (by first | (with_reducible assumption) | assumption)
                                      have q124 : (ji36) < (t113.length : Int) := of_decide_eq_true (by first | (with_reducible assumption) | assumption)
                                      obtain ⟨ad124, e124, hx124_0⟩ := Kd.at_int (Kd.R_reads' HO_11.out).2.2 (ji36) p124 q124
                                      cases e124
                                      replace p124 := eq_true p124
                                      replace q124 := eq_true q124
                                      refine start_ (n := 11) (S := fun w' => w'.cell? (ad124.add ((ji36)).toNat) = some (.int .i64 (rd t113 (ji36)))) (ds := []) #[false, false, false, false, false, false, false, false, false, false, false] (by kernel_rfl) rfl rfl (hx124_0) (fun hHeld => ?_); refine with_tabW chalklinelaw16_CountTotals.tab14 chalklinelaw16_CountTotals.bits14 (fun HT_ HW_ => ?_)
                                      generalize wc.drew = w43 at HO_7 HO_8 HO_11 HO_12 HB hx124_0 hHeld ⊢
                                      refine pure_ (i := 0) (N := some 97) (v := ?_) (a' := ?_) #[true, false, false, false, false, false, false, false, false, false, false] rfl rfl (any_of HT_.out (by kernel_rfl)) (fun _ _ _ h => h) (Or.inl ⟨by rfl, ?_⟩) ?_ ?_
                                      rotate_left
                                      · intro w'
                                        go_simp
                                        with_reducible rfl
                                      rotate_left
                                      · simp only [Act.put, List.setIfInBounds_toArray, List.set_cons_zero, List.set_cons_succ, i64_w, i32_w]
                                        rfl
                                      refine pure_ (i := 2) (N := some 99) (v := ?_) (a' := ?_) #[true, false, true, false, false, false, false, false, false, false, false] rfl rfl (any_of HT_.out (by kernel_rfl)) (fun _ _ _ h => h) (Or.inl ⟨by rfl, ?_⟩) ?_ ?_
                                      rotate_left
                                      · intro w'
                                        go_simp
                                        with_reducible rfl
                                      rotate_left
                                      · simp only [Act.put, List.setIfInBounds_toArray, List.set_cons_zero, List.set_cons_succ, i64_w, i32_w]
                                        rfl
                                      refine pure_ (i := 3) (N := some 100) (v := ?_) (a' := ?_) #[true, false, true, true, false, false, false, false, false, false, false] rfl rfl (any_of HT_.out (by kernel_rfl)) (fun _ _ _ h => h) (Or.inl ⟨by rfl, ?_⟩) ?_ ?_
                                      rotate_left
                                      · intro w'
                                        go_simp
                                        with_reducible rfl
                                      rotate_left
                                      · simp only [Act.put, List.setIfInBounds_toArray, List.set_cons_zero, List.set_cons_succ, i64_w, i32_w]
                                        rfl
                                      refine pure_ (i := 4) (N := some 101) (v := ?_) (a' := ?_) #[true, false, true, true, true, false, false, false, false, false, false] rfl rfl (any_of HT_.out (by kernel_rfl)) (fun _ _ _ h => h) (Or.inl ⟨by rfl, ?_⟩) ?_ ?_
                                      rotate_left
                                      · intro w'
                                        go_simp
                                        with_reducible rfl
                                      rotate_left
                                      · simp only [Act.put, List.setIfInBounds_toArray, List.set_cons_zero, List.set_cons_succ, i64_w, i32_w]
                                        rfl
                                      refine pure_ (i := 5) (N := some 102) (v := ?_) (a' := ?_) #[true, false, true, true, true, true, false, false, false, false, false] rfl rfl (any_of HT_.out (by kernel_rfl)) (fun _ _ _ h => h) (Or.inl ⟨by rfl, ?_⟩) ?_ ?_
                                      rotate_left
                                      · intro w'
                                        go_simp
                                        with_reducible rfl
                                      rotate_left
                                      · simp only [Act.put, List.setIfInBounds_toArray, List.set_cons_zero, List.set_cons_succ, i64_w, i32_w]
                                        rfl
                                      refine take_ (i := 6) (N := some 103) (v := ?_) (a' := ?_) #[true, false, true, true, true, true, true, false, false, false, false] rfl rfl (take_ofW HT_.out HW_.out (by kernel_rfl)) (fun _ _ _ h => h) (Or.inl ⟨by rfl, ?_⟩) hHeld ?_ ?_
                                      rotate_left
                                      · intro w' s0
                                        go_simp
                                        with_reducible rfl
                                      rotate_left
                                      · simp only [Act.put, List.setIfInBounds_toArray, List.set_cons_zero, List.set_cons_succ, i64_w, i32_w]
                                        rfl
                                      refine join_ (σ := Value × Value × Value) 2 #[true, true, true, true, true, true, true, true, true, false, false] (fun s_ => [(98, s_.1), (104, s_.2.1), (105, s_.2.2)]) (fun s_ w' => (w'.cell? (ad124.add ((ji36)).toNat) = some (.int .i64 (rd t113 (ji36)))) ∧ (Kd.N (Kd.slice 3 (Kd.int .i64)) 22 w' w.heap.size (fun k_ => some k_ ≠ (s_.2.2 : Value).ownBlock ∧ some k_ ≠ (.slice (some ad124) t113.length co44 : Value).ownBlock ∧ some k_ ≠ (.slice Ao17 y105.length co17 : Value).ownBlock ∧ some k_ ≠ (v109 : Value).ownBlock) s_.1 y121) ∧ (Kd.N (Kd.slice 3 (Kd.int .i64)) 22 w' w.heap.size (fun k_ => some k_ ≠ (s_.1 : Value).ownBlock ∧ some k_ ≠ (.slice (some ad124) t113.length co44 : Value).ownBlock ∧ some k_ ≠ (.slice Ao42 t116.length co42 : Value).ownBlock ∧ some k_ ≠ (.slice Ao17 y105.length co17 : Value).ownBlock ∧ some k_ ≠ (v109 : Value).ownBlock) s_.2.2 y128) ∧ (Kd.R (Kd.int .i64) 3 w' w.heap.size (fun _ => True) (.slice (some ad124) t113.length co44) t113) ∧ (Kd.N (Kd.slice 3 (Kd.int .i64)) 22 w' w.heap.size (fun k_ => some k_ ≠ (s_.1 : Value).ownBlock ∧ some k_ ≠ (s_.2.2 : Value).ownBlock ∧ some k_ ≠ (.slice (some ad124) t113.length co44 : Value).ownBlock ∧ some k_ ≠ (.slice Ao17 y105.length co17 : Value).ownBlock ∧ some k_ ≠ (v109 : Value).ownBlock) (.slice Ao42 t116.length co42) t116) ∧ (Kd.R Kd.bool 4 w' w.heap.size (fun _ => True) (.slice Ao17 y105.length co17) y105) ∧ (Kd.N (Kd.slice 3 (Kd.int .i64)) 22 w' w.heap.size (fun k_ => some k_ ≠ (s_.1 : Value).ownBlock ∧ some k_ ≠ (s_.2.2 : Value).ownBlock ∧ some k_ ≠ (.slice (some ad124) t113.length co44 : Value).ownBlock ∧ some k_ ≠ (.slice Ao42 t116.length co42 : Value).ownBlock ∧ some k_ ≠ (.slice Ao17 y105.length co17 : Value).ownBlock) v109 t108) ∧ (Below w.heap.size w w')) ?_ ?_
                                      rotate_left
                                      · intro hCont
                                        refine two_ (i := 1) (j := 7) (Ni := some 98) (Nj := some 104) #[true, true, true, true, true, true, true, false, false, false, false] #[true, false, true, true, true, true, true, true, false, false, false] rfl rfl rfl rfl (two_of HT_.out (by kernel_rfl)) (by decide) (by decide) (fun K hK => ?_) (fun K hK => ?_)
                                        · skip
                                          refine Kd.N_append_rows_step (Kd.slice 3 (Kd.int .i64)) (w0 := w) w.heap.size (by rfl) (.const (.slice none 0 0)) (.tmp 97) 24 22 (.slice none 0 0) 24 rfl Try.underlying24 info22 rfl (by decide) (by omega) (.slice none 0 0) ([] : List (List Int)) t116 _ _ _ (fun k_ => some k_ ≠ (.slice Ao17 y105.length co17 : Value).ownBlock ∧ some k_ ≠ (v109 : Value).ownBlock ∧ some k_ ≠ (.slice (some ad124) t113.length co44 : Value).ownBlock) (fun k_ => ((fun k_ => some k_ ≠ (.slice Ao17 y105.length co17 : Value).ownBlock ∧ some k_ ≠ (v109 : Value).ownBlock ∧ some k_ ≠ (.slice (some ad124) t113.length co44 : Value).ownBlock)) k_ ∧ some k_ ≠ (.slice none 0 0 : Value).ownBlock) rfl rfl ?aO ?aR (fun _ hk => hk) ?aF ?aB ?aS ?aL ?_
                                          (case aR => exact (by skip; exact Kd.N_F (Kd.N_mono (ok' := (fun k_ => ((fun k_ => some k_ ≠ (.slice Ao17 y105.length co17 : Value).ownBlock ∧ some k_ ≠ (v109 : Value).ownBlock ∧ some k_ ≠ (.slice (some ad124) t113.length co44 : Value).ownBlock)) k_ ∧ some k_ ≠ (.slice none 0 0 : Value).ownBlock)) (HO_12.out) (fun k_ hk => ⟨⟨hk.1, ⟨hk.2.1, hk.2.2⟩⟩, (by simp [Value.ownBlock])⟩))))
                                          (case aB => exact (by repeat (first | (with_reducible first | exact HB.out | apply below_alloc | apply pw_below_drewN | apply below_drew1) | exact HB.out)))
                                          (case aF => exact (fun k_ hk => ⟨Kd.fresh' (Kd.R_lt (by (with_reducible repeat (first | apply Kd.R_alloc | apply Kd.R_drewN | apply Kd.R_drew)); exact HO_7.out)) k_ hk, Kd.fresh' (Kd.N_lt (by (with_reducible repeat (first | apply Kd.N_alloc | apply Kd.N_drewN | apply Kd.N_drew)); exact HO_8.out)) k_ hk, Kd.fresh' (Kd.R_lt (by (with_reducible repeat (first | apply Kd.R_alloc | apply Kd.R_drewN | apply Kd.R_drew)); exact HO_11.out)) k_ hk⟩))
                                          (case aO => exact ((Kd.N_nil _ _ _ _ (fun k_ => some k_ ≠ (.slice Ao17 y105.length co17 : Value).ownBlock ∧ some k_ ≠ (v109 : Value).ownBlock ∧ some k_ ≠ (.slice (some ad124) t113.length co44 : Value).ownBlock))))
                                          (case aS => exact (below_size (by repeat (first | (with_reducible first | exact HB.out | apply below_alloc | apply pw_below_drewN | apply below_drew1) | exact HB.out))))
                                          (case aL => have := LMc35.out; omega)
                                          intro v122 w45 ho hb hg hat
                                          have HS0_ := cell_grown hg (hHeld) (by simp [Value.ownBlock])
                                          rw [← Ny121.out] at ho
                                          have n0_ := Aside0.mk (Kd.R_grown (by (with_reducible repeat (first | apply Kd.R_alloc | apply Kd.R_drewN | apply Kd.R_drew)); exact HO_7.out) hg (fun _ _ => by simp [Value.ownBlock]))
                                          have n1_ := Aside0.mk (Kd.N_afterv (Kd.N_apart_nil (by (with_reducible repeat (first | apply Kd.N_alloc | apply Kd.N_drewN | apply Kd.N_drew)); exact HO_8.out)) hg hat)
                                          have n2_ := Aside0.mk (Kd.R_grown (by (with_reducible repeat (first | apply Kd.R_alloc | apply Kd.R_drewN | apply Kd.R_drew)); exact HO_11.out) hg (fun _ _ => by simp [Value.ownBlock]))
                                          have n3_ := Aside0.mk (Kd.N_afterv (Kd.N_apart_nil (by (with_reducible repeat (first | apply Kd.N_alloc | apply Kd.N_drewN | apply Kd.N_drew)); exact HO_12.out)) hg hat)
                                          have n4_ := Aside0.mk (hb)
                                          have n5_ := Aside0.mk (ho)
                                          clear HO_7
                                          clear HO_8
                                          clear HO_11
                                          clear HO_12
                                          clear HB
                                          have HO_7 := n0_
                                          have HO_8 := n1_
                                          have HO_11 := n2_
                                          have HO_12 := n3_
                                          have HB := n4_
                                          have HO123 := n5_
                                          clear n0_ n1_ n2_ n3_ n4_ n5_
                                          clear ho hb hg hat
                                          refine hK.out _ _ (HS0_) (fun hHeld => ?_)
                                          clear hK K
                                          refine norm_ (a' := ?_) ?_ ?_
                                          rotate_left
                                          · show Act.put _ (some 98) _ = _
                                            simp only [Act.put, List.setIfInBounds_toArray, List.set_cons_zero, List.set_cons_succ, i64_w, i32_w]
                                            rfl
                                          refine one_ (i := 7) (N := some 104) #[true, true, true, true, true, true, true, true, false, false, false] rfl rfl (one_of HT_.out (by kernel_rfl)) (by decide) (fun K hK => ?_)
                                          refine Kd.R_lit_step (Kd.int .i64) _ 3 ?hg (N := 104) ?hd (xs := ([rd t113 (ji36)] : List Int)) (inner := [.int .i64 (rd t113 (ji36))]) (ok := fun _ => True) (okp := fun _ => True) ?hr ?hp (fun _ hk => hk) trivial (Below.refl _ _) (Nat.le_refl _) (by simp) ?_; (case hd => rfl); (case hg => rfl); (case hr => first | (go_simp; done) | (go_simp; rfl)); (case hp => exact (Reps.one (show Kd.M (Kd.int .i64) _ _ _ (rd t113 (ji36)) [.int .i64 (rd t113 (ji36))] from rfl) (Reps.none _ _)))
                                          intro v126 w46 ho47 hb hg_ hnew_
                                          have HS0_ := (hb.cell (World.block_lt_of_cell? _ _ (hHeld))).trans (hHeld)
                                          clear hg_ hnew_
                                          (first | rw [← Ny125.out] at ho47 | (simp only [Int.reduceToNat] at ho47; rw [← Ny125.out] at ho47))
                                          have n0_ := Aside0.mk (Kd.R_below (by (with_reducible repeat (first | apply Kd.R_alloc | apply Kd.R_drewN | apply Kd.R_drew)); exact HO_7.out) hb)
                                          have n1_ := Aside0.mk (Kd.N_elder' (by (with_reducible repeat (first | apply Kd.N_alloc | apply Kd.N_drewN | apply Kd.N_drew)); exact HO_8.out) (Kd.R_base ho47) hb)
                                          have n2_ := Aside0.mk (Kd.R_elder' (by (with_reducible repeat (first | apply Kd.R_alloc | apply Kd.R_drewN | apply Kd.R_drew)); exact HO_11.out) (Kd.R_base ho47) hb)
                                          have n3_ := Aside0.mk (Kd.N_elder' (by (with_reducible repeat (first | apply Kd.N_alloc | apply Kd.N_drewN | apply Kd.N_drew)); exact HO_12.out) (Kd.R_base ho47) hb)
                                          have n4_ := Aside0.mk (Kd.N_elder' (by (with_reducible repeat (first | apply Kd.N_alloc | apply Kd.N_drewN | apply Kd.N_drew)); exact HO123.out) (Kd.R_base ho47) hb)
                                          have n5_ := Aside0.mk (Kd.R_lower (Kd.R_new' ho47 (Kd.R_lt (by (with_reducible repeat (first | apply Kd.R_alloc | apply Kd.R_drewN | apply Kd.R_drew)); exact HO_11.out))) (below_size (by repeat (first | (with_reducible first | exact HB.out | apply below_alloc | apply pw_below_drewN | apply below_drew1) | exact HB.out))))
                                          have n6_ := Aside0.mk (below_step (by repeat (first | (with_reducible first | exact HB.out | apply below_alloc | apply pw_below_drewN | apply below_drew1) | exact HB.out)) hb)
                                          clear HO_7
                                          clear HO_8
                                          clear HO_11
                                          clear HO_12
                                          clear HO123
                                          clear HB
                                          have HO_7 := n0_
                                          have HO_8 := n1_
                                          have HO_11 := n2_
                                          have HO_12 := n3_
                                          have HO123 := n4_
                                          have HO127 := n5_
                                          have HB := n6_
                                          clear n0_ n1_ n2_ n3_ n4_ n5_ n6_
                                          clear hb ho47
                                          obtain ⟨Ao48, co48, eo48⟩ := Kd.R_slice HO127.out
                                          (first | subst eo48 | (injection eo48 with f1_ f2_ f3_; have f4_ := f1_.symm; have f5_ := f3_.symm; clear f1_ f2_ f3_; subst f4_; subst f5_))
                                          refine hK.out _ _ (HS0_) (fun hHeld => ?_)
                                          clear hK K
                                          refine norm_ (a' := ?_) ?_ ?_
                                          rotate_left
                                          · show Act.put _ (some 104) _ = _
                                            simp only [Act.put, List.setIfInBounds_toArray, List.set_cons_zero, List.set_cons_succ, i64_w, i32_w]
                                            rfl
                                          refine one_ (i := 8) (N := some 105) #[true, true, true, true, true, true, true, true, true, false, false] rfl rfl (one_of HT_.out (by kernel_rfl)) (by decide) (fun K hK => ?_)
                                          refine Kd.N_lit_step (Kd.slice 3 (Kd.int .i64)) _ 22 ?hg (N' := 105) ?hd (xs := ([y125] : List (List Int))) (inner := [.slice Ao48 y125.length co48]) (ok := (fun k_ => some k_ ≠ (.slice Ao17 y105.length co17 : Value).ownBlock ∧ some k_ ≠ (v109 : Value).ownBlock ∧ some k_ ≠ (.slice (some ad124) t113.length co44 : Value).ownBlock ∧ some k_ ≠ (.slice Ao42 t116.length co42 : Value).ownBlock ∧ some k_ ≠ (v122 : Value).ownBlock)) (okp := (fun k_ => some k_ ≠ (.slice Ao17 y105.length co17 : Value).ownBlock ∧ some k_ ≠ (v109 : Value).ownBlock ∧ some k_ ≠ (.slice (some ad124) t113.length co44 : Value).ownBlock ∧ some k_ ≠ (.slice Ao42 t116.length co42 : Value).ownBlock ∧ some k_ ≠ (v122 : Value).ownBlock)) ?hr ?hp (fun _ hk => hk) ((show ∀ k_, w46.heap.size ≤ k_ → (fun k_ => some k_ ≠ (.slice Ao17 y105.length co17 : Value).ownBlock ∧ some k_ ≠ (v109 : Value).ownBlock ∧ some k_ ≠ (.slice (some ad124) t113.length co44 : Value).ownBlock ∧ some k_ ≠ (.slice Ao42 t116.length co42 : Value).ownBlock ∧ some k_ ≠ (v122 : Value).ownBlock) k_ from fun k_ hk => ⟨Kd.fresh' (Kd.R_lt (by (with_reducible repeat (first | apply Kd.R_alloc | apply Kd.R_drewN | apply Kd.R_drew)); exact HO_7.out)) k_ hk, Kd.fresh' (Kd.N_lt (by (with_reducible repeat (first | apply Kd.N_alloc | apply Kd.N_drewN | apply Kd.N_drew)); exact HO_8.out)) k_ hk, Kd.fresh' (Kd.R_lt (by (with_reducible repeat (first | apply Kd.R_alloc | apply Kd.R_drewN | apply Kd.R_drew)); exact HO_11.out)) k_ hk, Kd.fresh' (Kd.N_lt (by (with_reducible repeat (first | apply Kd.N_alloc | apply Kd.N_drewN | apply Kd.N_drew)); exact HO_12.out)) k_ hk, Kd.fresh' (Kd.N_lt (by (with_reducible repeat (first | apply Kd.N_alloc | apply Kd.N_drewN | apply Kd.N_drew)); exact HO123.out)) k_ hk⟩) _ (Nat.le_refl _)) (Below.refl _ _) (Nat.le_refl _) (by simp) ?_; (case hd => rfl); (case hg => rfl); (case hr => first | (go_simp; done) | (go_simp; rfl)); (case hp => exact (Reps.one (show Kd.FK (Kd.slice 3 (Kd.int .i64)) _ _ y125 [.slice Ao48 y125.length co48] from (Kd.FK_slice_mk (Kd.R_reads' (Kd.R_mono (ok' := (fun k_ => some k_ ≠ (.slice Ao17 y105.length co17 : Value).ownBlock ∧ some k_ ≠ (v109 : Value).ownBlock ∧ some k_ ≠ (.slice (some ad124) t113.length co44 : Value).ownBlock ∧ some k_ ≠ (.slice Ao42 t116.length co42 : Value).ownBlock ∧ some k_ ≠ (v122 : Value).ownBlock)) (Kd.R_apart' (Kd.R_apart' (Kd.R_apart' (Kd.R_apart' (HO127.out) (Kd.R_typed HO_7.out) (by decide)) (Kd.N_typed HO_8.out) (by decide)) (Kd.N_typed HO_12.out) (by decide)) (Kd.N_typed HO123.out) (by decide)) (fun k_ hk => ⟨hk.1.1.1.2, ⟨hk.1.1.2, ⟨hk.1.1.1.1.2, ⟨hk.1.2, hk.2⟩⟩⟩⟩))).2.1 (Kd.R_F (Kd.R_mono (ok' := (fun k_ => some k_ ≠ (.slice Ao17 y105.length co17 : Value).ownBlock ∧ some k_ ≠ (v109 : Value).ownBlock ∧ some k_ ≠ (.slice (some ad124) t113.length co44 : Value).ownBlock ∧ some k_ ≠ (.slice Ao42 t116.length co42 : Value).ownBlock ∧ some k_ ≠ (v122 : Value).ownBlock)) (Kd.R_apart' (Kd.R_apart' (Kd.R_apart' (Kd.R_apart' (HO127.out) (Kd.R_typed HO_7.out) (by decide)) (Kd.N_typed HO_8.out) (by decide)) (Kd.N_typed HO_12.out) (by decide)) (Kd.N_typed HO123.out) (by decide)) (fun k_ hk => ⟨hk.1.1.1.2, ⟨hk.1.1.2, ⟨hk.1.1.1.1.2, ⟨hk.1.2, hk.2⟩⟩⟩⟩))))) (Reps.none _ _)))
                                          intro v129 w49 ho50 hb hg_ hnew_
                                          have HS0_ := (hb.cell (World.block_lt_of_cell? _ _ (hHeld))).trans (hHeld)
                                          clear hg_ hnew_
                                          (first | rw [← Ny128.out] at ho50 | (simp only [Int.reduceToNat] at ho50; rw [← Ny128.out] at ho50))
                                          have n0_ := Aside0.mk (Kd.R_below (by (with_reducible repeat (first | apply Kd.R_alloc | apply Kd.R_drewN | apply Kd.R_drew)); exact HO_7.out) hb)
                                          have n1_ := Aside0.mk (Kd.N_elder' (by (with_reducible repeat (first | apply Kd.N_alloc | apply Kd.N_drewN | apply Kd.N_drew)); exact HO_8.out) (Kd.N_base ho50) hb)
                                          have n2_ := Aside0.mk (Kd.R_below (by (with_reducible repeat (first | apply Kd.R_alloc | apply Kd.R_drewN | apply Kd.R_drew)); exact HO_11.out) hb)
                                          have n3_ := Aside0.mk (Kd.N_elder' (by (with_reducible repeat (first | apply Kd.N_alloc | apply Kd.N_drewN | apply Kd.N_drew)); exact HO_12.out) (Kd.N_base ho50) hb)
                                          have n4_ := Aside0.mk (Kd.N_elder' (by (with_reducible repeat (first | apply Kd.N_alloc | apply Kd.N_drewN | apply Kd.N_drew)); exact HO123.out) (Kd.N_base ho50) hb)
                                          have n5_ := Aside0.mk (Kd.N_lower ho50 (below_size (by repeat (first | (with_reducible first | exact HB.out | apply below_alloc | apply pw_below_drewN | apply below_drew1) | exact HB.out))))
                                          have n6_ := Aside0.mk (below_step (by repeat (first | (with_reducible first | exact HB.out | apply below_alloc | apply pw_below_drewN | apply below_drew1) | exact HB.out)) hb)
                                          clear HO_7
                                          clear HO_8
                                          clear HO_11
                                          clear HO_12
                                          clear HO123
                                          clear HB
                                          clear HO127
                                          have HO_7 := n0_
                                          have HO_8 := n1_
                                          have HO_11 := n2_
                                          have HO_12 := n3_
                                          have HO123 := n4_
                                          have HO130 := n5_
                                          have HB := n6_
                                          clear n0_ n1_ n2_ n3_ n4_ n5_ n6_
                                          clear hb ho50
                                          refine hK.out _ _ (HS0_) (fun hHeld => ?_)
                                          clear hK K
                                          refine norm_ (a' := ?_) ?_ ?_
                                          rotate_left
                                          · show Act.put _ (some 105) _ = _
                                            simp only [Act.put, List.setIfInBounds_toArray, List.set_cons_zero, List.set_cons_succ, i64_w, i32_w]
                                            rfl
                                          exact norm_ (by simp only [putAll, Act.put, List.setIfInBounds_toArray, List.set_cons_zero, List.set_cons_succ]) (hCont (v122, .slice Ao48 y125.length co48, v129) _ ⟨hHeld, (by (with_reducible repeat (first | apply Kd.N_alloc | apply Kd.N_drewN | apply Kd.N_drew)); exact Kd.N_mono HO123.out (fun _ hk => ⟨hk.2, ⟨hk.1.1.2.2, ⟨hk.1.1.1, hk.1.1.2.1⟩⟩⟩)), (by (with_reducible repeat (first | apply Kd.N_alloc | apply Kd.N_drewN | apply Kd.N_drew)); exact Kd.N_mono HO130.out (fun _ hk => ⟨hk.2.2.2.2, ⟨hk.2.2.1, ⟨hk.2.2.2.1, ⟨hk.1, hk.2.1⟩⟩⟩⟩)), (by (with_reducible repeat (first | apply Kd.R_alloc | apply Kd.R_drewN | apply Kd.R_drew)); exact Kd.R_mono HO_11.out (fun _ hk => trivial)), (by (with_reducible repeat (first | apply Kd.N_alloc | apply Kd.N_drewN | apply Kd.N_drew)); exact Kd.N_mono HO_12.out (fun _ hk => ⟨hk.1.1.2, ⟨hk.2, ⟨hk.1.1.1.2.2, ⟨hk.1.1.1.1, hk.1.1.1.2.1⟩⟩⟩⟩)), (by (with_reducible repeat (first | apply Kd.R_alloc | apply Kd.R_drewN | apply Kd.R_drew)); exact HO_7.out), (by (with_reducible repeat (first | apply Kd.N_alloc | apply Kd.N_drewN | apply Kd.N_drew)); exact Kd.N_mono HO_8.out (fun _ hk => ⟨hk.1.1.2, ⟨hk.2, ⟨hk.1.1.1.2.1, ⟨hk.1.1.1.2.2, hk.1.1.1.1⟩⟩⟩⟩)), (by repeat (first | (with_reducible first | exact HB.out | apply below_alloc | apply pw_below_drewN | apply below_drew1) | exact HB.out))⟩)
                                        · skip
                                          refine Kd.R_lit_step (Kd.int .i64) _ 3 ?hg (N := 104) ?hd (xs := ([rd t113 (ji36)] : List Int)) (inner := [.int .i64 (rd t113 (ji36))]) (ok := fun _ => True) (okp := fun _ => True) ?hr ?hp (fun _ hk => hk) trivial (Below.refl _ _) (Nat.le_refl _) (by simp) ?_; (case hd => rfl); (case hg => rfl); (case hr => first | (go_simp; done) | (go_simp; rfl)); (case hp => exact (Reps.one (show Kd.M (Kd.int .i64) _ _ _ (rd t113 (ji36)) [.int .i64 (rd t113 (ji36))] from rfl) (Reps.none _ _)))
                                          intro v126 w45 ho46 hb hg_ hnew_
                                          have HS0_ := (hb.cell (World.block_lt_of_cell? _ _ (hHeld))).trans (hHeld)
                                          clear hg_ hnew_
                                          (first | rw [← Ny125.out] at ho46 | (simp only [Int.reduceToNat] at ho46; rw [← Ny125.out] at ho46))
                                          have n0_ := Aside0.mk (Kd.R_below (by (with_reducible repeat (first | apply Kd.R_alloc | apply Kd.R_drewN | apply Kd.R_drew)); exact HO_7.out) hb)
                                          have n1_ := Aside0.mk (Kd.N_elder' (by (with_reducible repeat (first | apply Kd.N_alloc | apply Kd.N_drewN | apply Kd.N_drew)); exact HO_8.out) (Kd.R_base ho46) hb)
                                          have n2_ := Aside0.mk (Kd.R_elder' (by (with_reducible repeat (first | apply Kd.R_alloc | apply Kd.R_drewN | apply Kd.R_drew)); exact HO_11.out) (Kd.R_base ho46) hb)
                                          have n3_ := Aside0.mk (Kd.N_elder' (by (with_reducible repeat (first | apply Kd.N_alloc | apply Kd.N_drewN | apply Kd.N_drew)); exact HO_12.out) (Kd.R_base ho46) hb)
                                          have n4_ := Aside0.mk (Kd.R_lower (Kd.R_new' ho46 (Kd.R_lt (by (with_reducible repeat (first | apply Kd.R_alloc | apply Kd.R_drewN | apply Kd.R_drew)); exact HO_11.out))) (below_size (by repeat (first | (with_reducible first | exact HB.out | apply below_alloc | apply pw_below_drewN | apply below_drew1) | exact HB.out))))
                                          have n5_ := Aside0.mk (below_step (by repeat (first | (with_reducible first | exact HB.out | apply below_alloc | apply pw_below_drewN | apply below_drew1) | exact HB.out)) hb)
                                          clear HO_7
                                          clear HO_8
                                          clear HO_11
                                          clear HO_12
                                          clear HB
                                          have HO_7 := n0_
                                          have HO_8 := n1_
                                          have HO_11 := n2_
                                          have HO_12 := n3_
                                          have HO127 := n4_
                                          have HB := n5_
                                          clear n0_ n1_ n2_ n3_ n4_ n5_
                                          clear hb ho46
                                          refine hK.out _ _ (HS0_) (fun hHeld => ?_)
                                          clear hK K
                                          refine norm_ (a' := ?_) ?_ ?_
                                          rotate_left
                                          · show Act.put _ (some 104) _ = _
                                            simp only [Act.put, List.setIfInBounds_toArray, List.set_cons_zero, List.set_cons_succ, i64_w, i32_w]
                                            rfl
                                          refine two_ (i := 1) (j := 8) (Ni := some 98) (Nj := some 105) #[true, true, true, true, true, true, true, true, false, false, false] #[true, false, true, true, true, true, true, true, true, false, false] rfl rfl rfl rfl (two_of HT_.out (by kernel_rfl)) (by decide) (by decide) (fun K hK => ?_) (fun K hK => ?_)
                                          · skip
                                            refine Kd.N_append_rows_step (Kd.slice 3 (Kd.int .i64)) (w0 := w) w.heap.size (by rfl) (.const (.slice none 0 0)) (.tmp 97) 24 22 (.slice none 0 0) 24 rfl Try.underlying24 info22 rfl (by decide) (by omega) (.slice none 0 0) ([] : List (List Int)) t116 _ _ _ (fun k_ => some k_ ≠ (.slice Ao17 y105.length co17 : Value).ownBlock ∧ some k_ ≠ (v109 : Value).ownBlock ∧ some k_ ≠ (.slice (some ad124) t113.length co44 : Value).ownBlock ∧ some k_ ≠ (v126 : Value).ownBlock) (fun k_ => ((fun k_ => some k_ ≠ (.slice Ao17 y105.length co17 : Value).ownBlock ∧ some k_ ≠ (v109 : Value).ownBlock ∧ some k_ ≠ (.slice (some ad124) t113.length co44 : Value).ownBlock ∧ some k_ ≠ (v126 : Value).ownBlock)) k_ ∧ some k_ ≠ (.slice none 0 0 : Value).ownBlock) rfl rfl ?aO ?aR (fun _ hk => hk) ?aF ?aB ?aS ?aL ?_
                                            (case aR => exact (by skip; exact Kd.N_F (Kd.N_mono (ok' := (fun k_ => ((fun k_ => some k_ ≠ (.slice Ao17 y105.length co17 : Value).ownBlock ∧ some k_ ≠ (v109 : Value).ownBlock ∧ some k_ ≠ (.slice (some ad124) t113.length co44 : Value).ownBlock ∧ some k_ ≠ (v126 : Value).ownBlock)) k_ ∧ some k_ ≠ (.slice none 0 0 : Value).ownBlock)) (HO_12.out) (fun k_ hk => ⟨⟨hk.1.1, ⟨hk.1.2.1, ⟨hk.1.2.2, hk.2⟩⟩⟩, (by simp [Value.ownBlock])⟩))))
                                            (case aB => exact (by repeat (first | (with_reducible first | exact HB.out | apply below_alloc | apply pw_below_drewN | apply below_drew1) | exact HB.out)))
                                            (case aF => exact (fun k_ hk => ⟨Kd.fresh' (Kd.R_lt (by (with_reducible repeat (first | apply Kd.R_alloc | apply Kd.R_drewN | apply Kd.R_drew)); exact HO_7.out)) k_ hk, Kd.fresh' (Kd.N_lt (by (with_reducible repeat (first | apply Kd.N_alloc | apply Kd.N_drewN | apply Kd.N_drew)); exact HO_8.out)) k_ hk, Kd.fresh' (Kd.R_lt (by (with_reducible repeat (first | apply Kd.R_alloc | apply Kd.R_drewN | apply Kd.R_drew)); exact HO_11.out)) k_ hk, Kd.fresh' (Kd.R_lt (by (with_reducible repeat (first | apply Kd.R_alloc | apply Kd.R_drewN | apply Kd.R_drew)); exact HO127.out)) k_ hk⟩))
                                            (case aO => exact ((Kd.N_nil _ _ _ _ (fun k_ => some k_ ≠ (.slice Ao17 y105.length co17 : Value).ownBlock ∧ some k_ ≠ (v109 : Value).ownBlock ∧ some k_ ≠ (.slice (some ad124) t113.length co44 : Value).ownBlock ∧ some k_ ≠ (v126 : Value).ownBlock))))
                                            (case aS => exact (below_size (by repeat (first | (with_reducible first | exact HB.out | apply below_alloc | apply pw_below_drewN | apply below_drew1) | exact HB.out))))
                                            (case aL => have := LMc35.out; omega)
                                            intro v122 w47 ho hb hg hat
                                            have HS0_ := cell_grown hg (hHeld) (by simp [Value.ownBlock])
                                            rw [← Ny121.out] at ho
                                            have n0_ := Aside0.mk (Kd.R_grown (by (with_reducible repeat (first | apply Kd.R_alloc | apply Kd.R_drewN | apply Kd.R_drew)); exact HO_7.out) hg (fun _ _ => by simp [Value.ownBlock]))
                                            have n1_ := Aside0.mk (Kd.N_afterv (Kd.N_apart_nil (by (with_reducible repeat (first | apply Kd.N_alloc | apply Kd.N_drewN | apply Kd.N_drew)); exact HO_8.out)) hg hat)
                                            have n2_ := Aside0.mk (Kd.R_grown (by (with_reducible repeat (first | apply Kd.R_alloc | apply Kd.R_drewN | apply Kd.R_drew)); exact HO_11.out) hg (fun _ _ => by simp [Value.ownBlock]))
                                            have n3_ := Aside0.mk (Kd.N_afterv (Kd.N_apart_nil (by (with_reducible repeat (first | apply Kd.N_alloc | apply Kd.N_drewN | apply Kd.N_drew)); exact HO_12.out)) hg hat)
                                            have n4_ := Aside0.mk (Kd.R_grown (by (with_reducible repeat (first | apply Kd.R_alloc | apply Kd.R_drewN | apply Kd.R_drew)); exact HO127.out) hg (fun _ _ => by simp [Value.ownBlock]))
                                            have n5_ := Aside0.mk (hb)
                                            have n6_ := Aside0.mk (ho)
                                            clear HO_7
                                            clear HO_8
                                            clear HO_11
                                            clear HO_12
                                            clear HO127
                                            clear HB
                                            have HO_7 := n0_
                                            have HO_8 := n1_
                                            have HO_11 := n2_
                                            have HO_12 := n3_
                                            have HO127 := n4_
                                            have HB := n5_
                                            have HO123 := n6_
                                            clear n0_ n1_ n2_ n3_ n4_ n5_ n6_
                                            clear ho hb hg hat
                                            obtain ⟨Ao48, co48, eo48⟩ := Kd.R_slice HO127.out
                                            (first | subst eo48 | (injection eo48 with f1_ f2_ f3_; have f4_ := f1_.symm; have f5_ := f3_.symm; clear f1_ f2_ f3_; subst f4_; subst f5_))
                                            refine hK.out _ _ (HS0_) (fun hHeld => ?_)
                                            clear hK K
                                            refine norm_ (a' := ?_) ?_ ?_
                                            rotate_left
                                            · show Act.put _ (some 98) _ = _
                                              simp only [Act.put, List.setIfInBounds_toArray, List.set_cons_zero, List.set_cons_succ, i64_w, i32_w]
                                              rfl
                                            refine one_ (i := 8) (N := some 105) #[true, true, true, true, true, true, true, true, true, false, false] rfl rfl (one_of HT_.out (by kernel_rfl)) (by decide) (fun K hK => ?_)
                                            refine Kd.N_lit_step (Kd.slice 3 (Kd.int .i64)) _ 22 ?hg (N' := 105) ?hd (xs := ([y125] : List (List Int))) (inner := [.slice Ao48 y125.length co48]) (ok := (fun k_ => some k_ ≠ (.slice Ao17 y105.length co17 : Value).ownBlock ∧ some k_ ≠ (v109 : Value).ownBlock ∧ some k_ ≠ (.slice (some ad124) t113.length co44 : Value).ownBlock ∧ some k_ ≠ (.slice Ao42 t116.length co42 : Value).ownBlock ∧ some k_ ≠ (v122 : Value).ownBlock)) (okp := (fun k_ => some k_ ≠ (.slice Ao17 y105.length co17 : Value).ownBlock ∧ some k_ ≠ (v109 : Value).ownBlock ∧ some k_ ≠ (.slice (some ad124) t113.length co44 : Value).ownBlock ∧ some k_ ≠ (.slice Ao42 t116.length co42 : Value).ownBlock ∧ some k_ ≠ (v122 : Value).ownBlock)) ?hr ?hp (fun _ hk => hk) ((show ∀ k_, w47.heap.size ≤ k_ → (fun k_ => some k_ ≠ (.slice Ao17 y105.length co17 : Value).ownBlock ∧ some k_ ≠ (v109 : Value).ownBlock ∧ some k_ ≠ (.slice (some ad124) t113.length co44 : Value).ownBlock ∧ some k_ ≠ (.slice Ao42 t116.length co42 : Value).ownBlock ∧ some k_ ≠ (v122 : Value).ownBlock) k_ from fun k_ hk => ⟨Kd.fresh' (Kd.R_lt (by (with_reducible repeat (first | apply Kd.R_alloc | apply Kd.R_drewN | apply Kd.R_drew)); exact HO_7.out)) k_ hk, Kd.fresh' (Kd.N_lt (by (with_reducible repeat (first | apply Kd.N_alloc | apply Kd.N_drewN | apply Kd.N_drew)); exact HO_8.out)) k_ hk, Kd.fresh' (Kd.R_lt (by (with_reducible repeat (first | apply Kd.R_alloc | apply Kd.R_drewN | apply Kd.R_drew)); exact HO_11.out)) k_ hk, Kd.fresh' (Kd.N_lt (by (with_reducible repeat (first | apply Kd.N_alloc | apply Kd.N_drewN | apply Kd.N_drew)); exact HO_12.out)) k_ hk, Kd.fresh' (Kd.N_lt (by (with_reducible repeat (first | apply Kd.N_alloc | apply Kd.N_drewN | apply Kd.N_drew)); exact HO123.out)) k_ hk⟩) _ (Nat.le_refl _)) (Below.refl _ _) (Nat.le_refl _) (by simp) ?_; (case hd => rfl); (case hg => rfl); (case hr => first | (go_simp; done) | (go_simp; rfl)); (case hp => exact (Reps.one (show Kd.FK (Kd.slice 3 (Kd.int .i64)) _ _ y125 [.slice Ao48 y125.length co48] from (Kd.FK_slice_mk (Kd.R_reads' (Kd.R_mono (ok' := (fun k_ => some k_ ≠ (.slice Ao17 y105.length co17 : Value).ownBlock ∧ some k_ ≠ (v109 : Value).ownBlock ∧ some k_ ≠ (.slice (some ad124) t113.length co44 : Value).ownBlock ∧ some k_ ≠ (.slice Ao42 t116.length co42 : Value).ownBlock ∧ some k_ ≠ (v122 : Value).ownBlock)) (Kd.R_apart' (Kd.R_apart' (Kd.R_apart' (Kd.R_apart' (HO127.out) (Kd.R_typed HO_7.out) (by decide)) (Kd.N_typed HO_8.out) (by decide)) (Kd.N_typed HO_12.out) (by decide)) (Kd.N_typed HO123.out) (by decide)) (fun k_ hk => ⟨hk.1.1.1.2, ⟨hk.1.1.2, ⟨hk.1.1.1.1.2, ⟨hk.1.2, hk.2⟩⟩⟩⟩))).2.1 (Kd.R_F (Kd.R_mono (ok' := (fun k_ => some k_ ≠ (.slice Ao17 y105.length co17 : Value).ownBlock ∧ some k_ ≠ (v109 : Value).ownBlock ∧ some k_ ≠ (.slice (some ad124) t113.length co44 : Value).ownBlock ∧ some k_ ≠ (.slice Ao42 t116.length co42 : Value).ownBlock ∧ some k_ ≠ (v122 : Value).ownBlock)) (Kd.R_apart' (Kd.R_apart' (Kd.R_apart' (Kd.R_apart' (HO127.out) (Kd.R_typed HO_7.out) (by decide)) (Kd.N_typed HO_8.out) (by decide)) (Kd.N_typed HO_12.out) (by decide)) (Kd.N_typed HO123.out) (by decide)) (fun k_ hk => ⟨hk.1.1.1.2, ⟨hk.1.1.2, ⟨hk.1.1.1.1.2, ⟨hk.1.2, hk.2⟩⟩⟩⟩))))) (Reps.none _ _)))
                                            intro v129 w49 ho50 hb hg_ hnew_
                                            have HS0_ := (hb.cell (World.block_lt_of_cell? _ _ (hHeld))).trans (hHeld)
                                            clear hg_ hnew_
                                            (first | rw [← Ny128.out] at ho50 | (simp only [Int.reduceToNat] at ho50; rw [← Ny128.out] at ho50))
                                            have n0_ := Aside0.mk (Kd.R_below (by (with_reducible repeat (first | apply Kd.R_alloc | apply Kd.R_drewN | apply Kd.R_drew)); exact HO_7.out) hb)
                                            have n1_ := Aside0.mk (Kd.N_elder' (by (with_reducible repeat (first | apply Kd.N_alloc | apply Kd.N_drewN | apply Kd.N_drew)); exact HO_8.out) (Kd.N_base ho50) hb)
                                            have n2_ := Aside0.mk (Kd.R_below (by (with_reducible repeat (first | apply Kd.R_alloc | apply Kd.R_drewN | apply Kd.R_drew)); exact HO_11.out) hb)
                                            have n3_ := Aside0.mk (Kd.N_elder' (by (with_reducible repeat (first | apply Kd.N_alloc | apply Kd.N_drewN | apply Kd.N_drew)); exact HO_12.out) (Kd.N_base ho50) hb)
                                            have n4_ := Aside0.mk (Kd.N_elder' (by (with_reducible repeat (first | apply Kd.N_alloc | apply Kd.N_drewN | apply Kd.N_drew)); exact HO123.out) (Kd.N_base ho50) hb)
                                            have n5_ := Aside0.mk (Kd.N_lower ho50 (below_size (by repeat (first | (with_reducible first | exact HB.out | apply below_alloc | apply pw_below_drewN | apply below_drew1) | exact HB.out))))
                                            have n6_ := Aside0.mk (below_step (by repeat (first | (with_reducible first | exact HB.out | apply below_alloc | apply pw_below_drewN | apply below_drew1) | exact HB.out)) hb)
                                            clear HO_7
                                            clear HO_8
                                            clear HO_11
                                            clear HO_12
                                            clear HO123
                                            clear HB
                                            clear HO127
                                            have HO_7 := n0_
                                            have HO_8 := n1_
                                            have HO_11 := n2_
                                            have HO_12 := n3_
                                            have HO123 := n4_
                                            have HO130 := n5_
                                            have HB := n6_
                                            clear n0_ n1_ n2_ n3_ n4_ n5_ n6_
                                            clear hb ho50
                                            refine hK.out _ _ (HS0_) (fun hHeld => ?_)
                                            clear hK K
                                            refine norm_ (a' := ?_) ?_ ?_
                                            rotate_left
                                            · show Act.put _ (some 105) _ = _
                                              simp only [Act.put, List.setIfInBounds_toArray, List.set_cons_zero, List.set_cons_succ, i64_w, i32_w]
                                              rfl
                                            exact norm_ (by simp only [putAll, Act.put, List.setIfInBounds_toArray, List.set_cons_zero, List.set_cons_succ]) (hCont (v122, .slice Ao48 y125.length co48, v129) _ ⟨hHeld, (by (with_reducible repeat (first | apply Kd.N_alloc | apply Kd.N_drewN | apply Kd.N_drew)); exact Kd.N_mono HO123.out (fun _ hk => ⟨hk.2, ⟨hk.1.2.2.1, ⟨hk.1.1, hk.1.2.1⟩⟩⟩)), (by (with_reducible repeat (first | apply Kd.N_alloc | apply Kd.N_drewN | apply Kd.N_drew)); exact Kd.N_mono HO130.out (fun _ hk => ⟨hk.2.2.2.2, ⟨hk.2.2.1, ⟨hk.2.2.2.1, ⟨hk.1, hk.2.1⟩⟩⟩⟩)), (by (with_reducible repeat (first | apply Kd.R_alloc | apply Kd.R_drewN | apply Kd.R_drew)); exact Kd.R_mono HO_11.out (fun _ hk => trivial)), (by (with_reducible repeat (first | apply Kd.N_alloc | apply Kd.N_drewN | apply Kd.N_drew)); exact Kd.N_mono HO_12.out (fun _ hk => ⟨hk.1.2, ⟨hk.2, ⟨hk.1.1.1.2.2, ⟨hk.1.1.1.1, hk.1.1.1.2.1⟩⟩⟩⟩)), (by (with_reducible repeat (first | apply Kd.R_alloc | apply Kd.R_drewN | apply Kd.R_drew)); exact HO_7.out), (by (with_reducible repeat (first | apply Kd.N_alloc | apply Kd.N_drewN | apply Kd.N_drew)); exact Kd.N_mono HO_8.out (fun _ hk => ⟨hk.1.2, ⟨hk.2, ⟨hk.1.1.1.2.1, ⟨hk.1.1.1.2.2, hk.1.1.1.1⟩⟩⟩⟩)), (by repeat (first | (with_reducible first | exact HB.out | apply below_alloc | apply pw_below_drewN | apply below_drew1) | exact HB.out))⟩)
                                          · skip
                                            obtain ⟨Ao47, co47, eo47⟩ := Kd.R_slice HO127.out
                                            subst eo47
                                            refine Kd.N_lit_step (Kd.slice 3 (Kd.int .i64)) _ 22 ?hg (N' := 105) ?hd (xs := ([y125] : List (List Int))) (inner := [.slice Ao47 y125.length co47]) (ok := (fun k_ => some k_ ≠ (.slice Ao17 y105.length co17 : Value).ownBlock ∧ some k_ ≠ (v109 : Value).ownBlock ∧ some k_ ≠ (.slice (some ad124) t113.length co44 : Value).ownBlock ∧ some k_ ≠ (.slice Ao42 t116.length co42 : Value).ownBlock)) (okp := (fun k_ => some k_ ≠ (.slice Ao17 y105.length co17 : Value).ownBlock ∧ some k_ ≠ (v109 : Value).ownBlock ∧ some k_ ≠ (.slice (some ad124) t113.length co44 : Value).ownBlock ∧ some k_ ≠ (.slice Ao42 t116.length co42 : Value).ownBlock)) ?hr ?hp (fun _ hk => hk) ((show ∀ k_, w45.heap.size ≤ k_ → (fun k_ => some k_ ≠ (.slice Ao17 y105.length co17 : Value).ownBlock ∧ some k_ ≠ (v109 : Value).ownBlock ∧ some k_ ≠ (.slice (some ad124) t113.length co44 : Value).ownBlock ∧ some k_ ≠ (.slice Ao42 t116.length co42 : Value).ownBlock) k_ from fun k_ hk => ⟨Kd.fresh' (Kd.R_lt (by (with_reducible repeat (first | apply Kd.R_alloc | apply Kd.R_drewN | apply Kd.R_drew)); exact HO_7.out)) k_ hk, Kd.fresh' (Kd.N_lt (by (with_reducible repeat (first | apply Kd.N_alloc | apply Kd.N_drewN | apply Kd.N_drew)); exact HO_8.out)) k_ hk, Kd.fresh' (Kd.R_lt (by (with_reducible repeat (first | apply Kd.R_alloc | apply Kd.R_drewN | apply Kd.R_drew)); exact HO_11.out)) k_ hk, Kd.fresh' (Kd.N_lt (by (with_reducible repeat (first | apply Kd.N_alloc | apply Kd.N_drewN | apply Kd.N_drew)); exact HO_12.out)) k_ hk⟩) _ (Nat.le_refl _)) (Below.refl _ _) (Nat.le_refl _) (by simp) ?_; (case hd => rfl); (case hg => rfl); (case hr => first | (go_simp; done) | (go_simp; rfl)); (case hp => exact (Reps.one (show Kd.FK (Kd.slice 3 (Kd.int .i64)) _ _ y125 [.slice Ao47 y125.length co47] from (Kd.FK_slice_mk (Kd.R_reads' (Kd.R_mono (ok' := (fun k_ => some k_ ≠ (.slice Ao17 y105.length co17 : Value).ownBlock ∧ some k_ ≠ (v109 : Value).ownBlock ∧ some k_ ≠ (.slice (some ad124) t113.length co44 : Value).ownBlock ∧ some k_ ≠ (.slice Ao42 t116.length co42 : Value).ownBlock)) (Kd.R_apart' (Kd.R_apart' (Kd.R_apart' (HO127.out) (Kd.R_typed HO_7.out) (by decide)) (Kd.N_typed HO_8.out) (by decide)) (Kd.N_typed HO_12.out) (by decide)) (fun k_ hk => ⟨hk.1.1.2, ⟨hk.1.2, ⟨hk.1.1.1.2, hk.2⟩⟩⟩))).2.1 (Kd.R_F (Kd.R_mono (ok' := (fun k_ => some k_ ≠ (.slice Ao17 y105.length co17 : Value).ownBlock ∧ some k_ ≠ (v109 : Value).ownBlock ∧ some k_ ≠ (.slice (some ad124) t113.length co44 : Value).ownBlock ∧ some k_ ≠ (.slice Ao42 t116.length co42 : Value).ownBlock)) (Kd.R_apart' (Kd.R_apart' (Kd.R_apart' (HO127.out) (Kd.R_typed HO_7.out) (by decide)) (Kd.N_typed HO_8.out) (by decide)) (Kd.N_typed HO_12.out) (by decide)) (fun k_ hk => ⟨hk.1.1.2, ⟨hk.1.2, ⟨hk.1.1.1.2, hk.2⟩⟩⟩))))) (Reps.none _ _)))
                                            intro v129 w48 ho49 hb hg_ hnew_
                                            have HS0_ := (hb.cell (World.block_lt_of_cell? _ _ (hHeld))).trans (hHeld)
                                            clear hg_ hnew_
                                            (first | rw [← Ny128.out] at ho49 | (simp only [Int.reduceToNat] at ho49; rw [← Ny128.out] at ho49))
                                            have n0_ := Aside0.mk (Kd.R_below (by (with_reducible repeat (first | apply Kd.R_alloc | apply Kd.R_drewN | apply Kd.R_drew)); exact HO_7.out) hb)
                                            have n1_ := Aside0.mk (Kd.N_elder' (by (with_reducible repeat (first | apply Kd.N_alloc | apply Kd.N_drewN | apply Kd.N_drew)); exact HO_8.out) (Kd.N_base ho49) hb)
                                            have n2_ := Aside0.mk (Kd.R_below (by (with_reducible repeat (first | apply Kd.R_alloc | apply Kd.R_drewN | apply Kd.R_drew)); exact HO_11.out) hb)
                                            have n3_ := Aside0.mk (Kd.N_elder' (by (with_reducible repeat (first | apply Kd.N_alloc | apply Kd.N_drewN | apply Kd.N_drew)); exact HO_12.out) (Kd.N_base ho49) hb)
                                            have n4_ := Aside0.mk (Kd.N_lower ho49 (below_size (by repeat (first | (with_reducible first | exact HB.out | apply below_alloc | apply pw_below_drewN | apply below_drew1) | exact HB.out))))
                                            have n5_ := Aside0.mk (below_step (by repeat (first | (with_reducible first | exact HB.out | apply below_alloc | apply pw_below_drewN | apply below_drew1) | exact HB.out)) hb)
                                            clear HO_7
                                            clear HO_8
                                            clear HO_11
                                            clear HO_12
                                            clear HB
                                            clear HO127
                                            have HO_7 := n0_
                                            have HO_8 := n1_
                                            have HO_11 := n2_
                                            have HO_12 := n3_
                                            have HO130 := n4_
                                            have HB := n5_
                                            clear n0_ n1_ n2_ n3_ n4_ n5_
                                            clear hb ho49
                                            refine hK.out _ _ (HS0_) (fun hHeld => ?_)
                                            clear hK K
                                            refine norm_ (a' := ?_) ?_ ?_
                                            rotate_left
                                            · show Act.put _ (some 105) _ = _
                                              simp only [Act.put, List.setIfInBounds_toArray, List.set_cons_zero, List.set_cons_succ, i64_w, i32_w]
                                              rfl
                                            refine one_ (i := 1) (N := some 98) #[true, true, true, true, true, true, true, true, true, false, false] rfl rfl (one_of HT_.out (by kernel_rfl)) (by decide) (fun K hK => ?_)
                                            refine Kd.N_append_rows_step (Kd.slice 3 (Kd.int .i64)) (w0 := w) w.heap.size (by rfl) (.const (.slice none 0 0)) (.tmp 97) 24 22 (.slice none 0 0) 24 rfl Try.underlying24 info22 rfl (by decide) (by omega) (.slice none 0 0) ([] : List (List Int)) t116 _ _ _ (fun k_ => some k_ ≠ (.slice Ao17 y105.length co17 : Value).ownBlock ∧ some k_ ≠ (v109 : Value).ownBlock ∧ some k_ ≠ (.slice (some ad124) t113.length co44 : Value).ownBlock ∧ some k_ ≠ (v129 : Value).ownBlock) (fun k_ => ((fun k_ => some k_ ≠ (.slice Ao17 y105.length co17 : Value).ownBlock ∧ some k_ ≠ (v109 : Value).ownBlock ∧ some k_ ≠ (.slice (some ad124) t113.length co44 : Value).ownBlock ∧ some k_ ≠ (v129 : Value).ownBlock)) k_ ∧ some k_ ≠ (.slice none 0 0 : Value).ownBlock) rfl rfl ?aO ?aR (fun _ hk => hk) ?aF ?aB ?aS ?aL ?_
                                            (case aR => exact (by skip; exact Kd.N_F (Kd.N_mono (ok' := (fun k_ => ((fun k_ => some k_ ≠ (.slice Ao17 y105.length co17 : Value).ownBlock ∧ some k_ ≠ (v109 : Value).ownBlock ∧ some k_ ≠ (.slice (some ad124) t113.length co44 : Value).ownBlock ∧ some k_ ≠ (v129 : Value).ownBlock)) k_ ∧ some k_ ≠ (.slice none 0 0 : Value).ownBlock)) (HO_12.out) (fun k_ hk => ⟨⟨hk.1.1.1, ⟨hk.1.1.2.1, ⟨hk.1.1.2.2, hk.2⟩⟩⟩, (by simp [Value.ownBlock])⟩))))
                                            (case aB => exact (by repeat (first | (with_reducible first | exact HB.out | apply below_alloc | apply pw_below_drewN | apply below_drew1) | exact HB.out)))
                                            (case aF => exact (fun k_ hk => ⟨Kd.fresh' (Kd.R_lt (by (with_reducible repeat (first | apply Kd.R_alloc | apply Kd.R_drewN | apply Kd.R_drew)); exact HO_7.out)) k_ hk, Kd.fresh' (Kd.N_lt (by (with_reducible repeat (first | apply Kd.N_alloc | apply Kd.N_drewN | apply Kd.N_drew)); exact HO_8.out)) k_ hk, Kd.fresh' (Kd.R_lt (by (with_reducible repeat (first | apply Kd.R_alloc | apply Kd.R_drewN | apply Kd.R_drew)); exact HO_11.out)) k_ hk, Kd.fresh' (Kd.N_lt (by (with_reducible repeat (first | apply Kd.N_alloc | apply Kd.N_drewN | apply Kd.N_drew)); exact HO130.out)) k_ hk⟩))
                                            (case aO => exact ((Kd.N_nil _ _ _ _ (fun k_ => some k_ ≠ (.slice Ao17 y105.length co17 : Value).ownBlock ∧ some k_ ≠ (v109 : Value).ownBlock ∧ some k_ ≠ (.slice (some ad124) t113.length co44 : Value).ownBlock ∧ some k_ ≠ (v129 : Value).ownBlock))))
                                            (case aS => exact (below_size (by repeat (first | (with_reducible first | exact HB.out | apply below_alloc | apply pw_below_drewN | apply below_drew1) | exact HB.out))))
                                            (case aL => have := LMc35.out; omega)
                                            intro v122 w50 ho hb hg hat
                                            have HS0_ := cell_grown hg (hHeld) (by simp [Value.ownBlock])
                                            rw [← Ny121.out] at ho
                                            have n0_ := Aside0.mk (Kd.R_grown (by (with_reducible repeat (first | apply Kd.R_alloc | apply Kd.R_drewN | apply Kd.R_drew)); exact HO_7.out) hg (fun _ _ => by simp [Value.ownBlock]))
                                            have n1_ := Aside0.mk (Kd.N_afterv (Kd.N_apart_nil (by (with_reducible repeat (first | apply Kd.N_alloc | apply Kd.N_drewN | apply Kd.N_drew)); exact HO_8.out)) hg hat)
                                            have n2_ := Aside0.mk (Kd.R_grown (by (with_reducible repeat (first | apply Kd.R_alloc | apply Kd.R_drewN | apply Kd.R_drew)); exact HO_11.out) hg (fun _ _ => by simp [Value.ownBlock]))
                                            have n3_ := Aside0.mk (Kd.N_afterv (Kd.N_apart_nil (by (with_reducible repeat (first | apply Kd.N_alloc | apply Kd.N_drewN | apply Kd.N_drew)); exact HO_12.out)) hg hat)
                                            have n4_ := Aside0.mk (Kd.N_afterv (Kd.N_apart_nil (by (with_reducible repeat (first | apply Kd.N_alloc | apply Kd.N_drewN | apply Kd.N_drew)); exact HO130.out)) hg hat)
                                            have n5_ := Aside0.mk (hb)
                                            have n6_ := Aside0.mk (ho)
                                            clear HO_7
                                            clear HO_8
                                            clear HO_11
                                            clear HO_12
                                            clear HO130
                                            clear HB
                                            have HO_7 := n0_
                                            have HO_8 := n1_
                                            have HO_11 := n2_
                                            have HO_12 := n3_
                                            have HO130 := n4_
                                            have HB := n5_
                                            have HO123 := n6_
                                            clear n0_ n1_ n2_ n3_ n4_ n5_ n6_
                                            clear ho hb hg hat
                                            refine hK.out _ _ (HS0_) (fun hHeld => ?_)
                                            clear hK K
                                            refine norm_ (a' := ?_) ?_ ?_
                                            rotate_left
                                            · show Act.put _ (some 98) _ = _
                                              simp only [Act.put, List.setIfInBounds_toArray, List.set_cons_zero, List.set_cons_succ, i64_w, i32_w]
                                              rfl
                                            exact norm_ (by simp only [putAll, Act.put, List.setIfInBounds_toArray, List.set_cons_zero, List.set_cons_succ]) (hCont (v122, .slice Ao47 y125.length co47, v129) _ ⟨hHeld, (by (with_reducible repeat (first | apply Kd.N_alloc | apply Kd.N_drewN | apply Kd.N_drew)); exact Kd.N_mono HO123.out (fun _ hk => ⟨hk.2.2.2, ⟨hk.2.2.1, ⟨hk.1, hk.2.1⟩⟩⟩)), (by (with_reducible repeat (first | apply Kd.N_alloc | apply Kd.N_drewN | apply Kd.N_drew)); exact Kd.N_mono HO130.out (fun _ hk => ⟨hk.2, ⟨hk.1.2.2.1, ⟨hk.1.2.2.2, ⟨hk.1.1, hk.1.2.1⟩⟩⟩⟩)), (by (with_reducible repeat (first | apply Kd.R_alloc | apply Kd.R_drewN | apply Kd.R_drew)); exact Kd.R_mono HO_11.out (fun _ hk => trivial)), (by (with_reducible repeat (first | apply Kd.N_alloc | apply Kd.N_drewN | apply Kd.N_drew)); exact Kd.N_mono HO_12.out (fun _ hk => ⟨hk.2, ⟨hk.1.2, ⟨hk.1.1.1.2.2, ⟨hk.1.1.1.1, hk.1.1.1.2.1⟩⟩⟩⟩)), (by (with_reducible repeat (first | apply Kd.R_alloc | apply Kd.R_drewN | apply Kd.R_drew)); exact HO_7.out), (by (with_reducible repeat (first | apply Kd.N_alloc | apply Kd.N_drewN | apply Kd.N_drew)); exact Kd.N_mono HO_8.out (fun _ hk => ⟨hk.2, ⟨hk.1.2, ⟨hk.1.1.1.2.1, ⟨hk.1.1.1.2.2, hk.1.1.1.1⟩⟩⟩⟩)), (by repeat (first | (with_reducible first | exact HB.out | apply below_alloc | apply pw_below_drewN | apply below_drew1) | exact HB.out))⟩)
                                      rintro ⟨v122, v126, v129⟩ w51 ⟨hS_, h0_, h1_, h2_, h3_, h4_, h5_, h6_⟩
                                      have n0_ : Aside0 (Kd.N (Kd.slice 3 (Kd.int .i64)) 22 w51 w.heap.size (fun k_ => some k_ ≠ (v129 : Value).ownBlock ∧ some k_ ≠ (.slice (some ad124) t113.length co44 : Value).ownBlock ∧ some k_ ≠ (.slice Ao17 y105.length co17 : Value).ownBlock ∧ some k_ ≠ (v109 : Value).ownBlock) v122 y121) := ⟨h0_⟩
                                      have n1_ : Aside0 (Kd.N (Kd.slice 3 (Kd.int .i64)) 22 w51 w.heap.size (fun k_ => some k_ ≠ (v122 : Value).ownBlock ∧ some k_ ≠ (.slice (some ad124) t113.length co44 : Value).ownBlock ∧ some k_ ≠ (.slice Ao42 t116.length co42 : Value).ownBlock ∧ some k_ ≠ (.slice Ao17 y105.length co17 : Value).ownBlock ∧ some k_ ≠ (v109 : Value).ownBlock) v129 y128) := ⟨h1_⟩
                                      have n2_ : Aside0 (Kd.R (Kd.int .i64) 3 w51 w.heap.size (fun _ => True) (.slice (some ad124) t113.length co44) t113) := ⟨h2_⟩
                                      have n3_ : Aside0 (Kd.N (Kd.slice 3 (Kd.int .i64)) 22 w51 w.heap.size (fun k_ => some k_ ≠ (v122 : Value).ownBlock ∧ some k_ ≠ (v129 : Value).ownBlock ∧ some k_ ≠ (.slice (some ad124) t113.length co44 : Value).ownBlock ∧ some k_ ≠ (.slice Ao17 y105.length co17 : Value).ownBlock ∧ some k_ ≠ (v109 : Value).ownBlock) (.slice Ao42 t116.length co42) t116) := ⟨h3_⟩
                                      have n4_ : Aside0 (Kd.R Kd.bool 4 w51 w.heap.size (fun _ => True) (.slice Ao17 y105.length co17) y105) := ⟨h4_⟩
                                      have n5_ : Aside0 (Kd.N (Kd.slice 3 (Kd.int .i64)) 22 w51 w.heap.size (fun k_ => some k_ ≠ (v122 : Value).ownBlock ∧ some k_ ≠ (v129 : Value).ownBlock ∧ some k_ ≠ (.slice (some ad124) t113.length co44 : Value).ownBlock ∧ some k_ ≠ (.slice Ao42 t116.length co42 : Value).ownBlock ∧ some k_ ≠ (.slice Ao17 y105.length co17 : Value).ownBlock) v109 t108) := ⟨h5_⟩
                                      have n6_ : Aside0 (Below w.heap.size w w51) := ⟨h6_⟩
                                      clear HO_7
                                      clear HO_8
                                      clear HO_11
                                      clear HO_12
                                      clear HB
                                      clear h0_ h1_ h2_ h3_ h4_ h5_ h6_
                                      have HO123 := n0_
                                      have HO130 := n1_
                                      have HO_11 := n2_
                                      have HO_12 := n3_
                                      have HO_7 := n4_
                                      have HO_8 := n5_
                                      have HB := n6_
                                      clear n0_ n1_ n2_ n3_ n4_ n5_ n6_
                                      have hHeld : w51.cell? (ad124.add ((ji36)).toNat) = some (.int .i64 (rd t113 (ji36))) := hS_
                                      obtain ⟨Ao53, co53, eo53⟩ := Kd.N_slice HO130.out
                                      (first | subst eo53 | (injection eo53 with f1_ f2_ f3_; have f4_ := f1_.symm; have f5_ := f3_.symm; clear f1_ f2_ f3_; subst f4_; subst f5_))
                                      refine norm_ (a' := ?_) ?_ ?_
                                      rotate_left
                                      · simp only [putAll, Act.put, List.setIfInBounds_toArray, List.set_cons_zero, List.set_cons_succ]
                                        rfl
                                      refine one_ (i := 9) (N := some 106) #[true, true, true, true, true, true, true, true, true, true, false] rfl rfl (one_of HT_.out (by kernel_rfl)) (by decide) (fun K hK => ?_)
                                      refine Kd.N_append_rows_step (Kd.slice 3 (Kd.int .i64)) (w0 := w) w.heap.size (by rfl) (.tmp 98) (.tmp 105) 24 22 (.slice none 0 0) 24 rfl Try.underlying24 info22 rfl (by decide) (by omega) v122 y121 y128 _ _ _ (fun k_ => some k_ ≠ (.slice Ao17 y105.length co17 : Value).ownBlock ∧ some k_ ≠ (v109 : Value).ownBlock ∧ some k_ ≠ (.slice (some ad124) t113.length co44 : Value).ownBlock) (fun k_ => ((fun k_ => some k_ ≠ (.slice Ao17 y105.length co17 : Value).ownBlock ∧ some k_ ≠ (v109 : Value).ownBlock ∧ some k_ ≠ (.slice (some ad124) t113.length co44 : Value).ownBlock)) k_ ∧ some k_ ≠ (v122 : Value).ownBlock) rfl rfl ?aO ?aR (fun _ hk => hk) ?aF ?aB ?aS ?aL ?_
                                      (case aR => exact (by skip; exact Kd.N_F (Kd.N_mono (ok' := (fun k_ => ((fun k_ => some k_ ≠ (.slice Ao17 y105.length co17 : Value).ownBlock ∧ some k_ ≠ (v109 : Value).ownBlock ∧ some k_ ≠ (.slice (some ad124) t113.length co44 : Value).ownBlock)) k_ ∧ some k_ ≠ (v122 : Value).ownBlock)) (HO130.out) (fun k_ hk => ⟨⟨hk.2.2.2.1, ⟨hk.2.2.2.2, hk.2.1⟩⟩, hk.1⟩))))
                                      (case aB => exact (by repeat (first | (with_reducible first | exact HB.out | apply below_alloc | apply pw_below_drewN | apply below_drew1) | exact HB.out)))
                                      (case aF => exact (fun k_ hk => ⟨Kd.fresh' (Kd.R_lt (by (with_reducible repeat (first | apply Kd.R_alloc | apply Kd.R_drewN | apply Kd.R_drew)); exact HO_7.out)) k_ hk, Kd.fresh' (Kd.N_lt (by (with_reducible repeat (first | apply Kd.N_alloc | apply Kd.N_drewN | apply Kd.N_drew)); exact HO_8.out)) k_ hk, Kd.fresh' (Kd.R_lt (by (with_reducible repeat (first | apply Kd.R_alloc | apply Kd.R_drewN | apply Kd.R_drew)); exact HO_11.out)) k_ hk⟩))
                                      (case aO => exact (by (with_reducible repeat (first | apply Kd.N_alloc | apply Kd.N_drewN | apply Kd.N_drew)); exact Kd.N_mono HO123.out (fun _ hk => ⟨hk.2.2.1, ⟨hk.2.2.2, hk.2.1⟩⟩)))
                                      (case aS => exact (below_size (by repeat (first | (with_reducible first | exact HB.out | apply below_alloc | apply pw_below_drewN | apply below_drew1) | exact HB.out))))
                                      (case aL => have := LMc39.out; omega)
                                      intro v132 w52 ho hb hg hat
                                      have HS0_ := cell_grown hg (hHeld) (by rw [add_block]; exact fun e_ => (HO123.out.1 _ e_.symm).2.1 rfl)
                                      rw [← Ny131.out] at ho
                                      have n0_ := Aside0.mk (Kd.R_over' (by (with_reducible repeat (first | apply Kd.R_alloc | apply Kd.R_drewN | apply Kd.R_drew)); exact HO_7.out) (Kd.N_typed (by (with_reducible repeat (first | apply Kd.N_alloc | apply Kd.N_drewN | apply Kd.N_drew)); exact HO123.out)) (by decide) hg)
                                      have n1_ := Aside0.mk (Kd.N_afterv (ok := (fun k_ => some k_ ≠ (.slice Ao17 y105.length co17 : Value).ownBlock ∧ some k_ ≠ (.slice (some ad124) t113.length co44 : Value).ownBlock ∧ some k_ ≠ (.slice Ao42 t116.length co42 : Value).ownBlock ∧ some k_ ≠ (.slice Ao53 y128.length co53 : Value).ownBlock)) (by (with_reducible repeat (first | apply Kd.N_alloc | apply Kd.N_drewN | apply Kd.N_drew)); exact Kd.N_mono HO_8.out (fun _ hk => ⟨⟨hk.2.2.2.2, ⟨hk.2.2.1, ⟨hk.2.2.2.1, hk.2.1⟩⟩⟩, hk.1⟩)) hg hat)
                                      have n2_ := Aside0.mk (Kd.R_over' (by (with_reducible repeat (first | apply Kd.R_alloc | apply Kd.R_drewN | apply Kd.R_drew)); exact HO_11.out) (Kd.N_typed (by (with_reducible repeat (first | apply Kd.N_alloc | apply Kd.N_drewN | apply Kd.N_drew)); exact HO123.out)) (by decide) hg)
                                      have n3_ := Aside0.mk (Kd.N_afterv (ok := (fun k_ => some k_ ≠ (.slice Ao17 y105.length co17 : Value).ownBlock ∧ some k_ ≠ (v109 : Value).ownBlock ∧ some k_ ≠ (.slice (some ad124) t113.length co44 : Value).ownBlock ∧ some k_ ≠ (.slice Ao53 y128.length co53 : Value).ownBlock)) (by (with_reducible repeat (first | apply Kd.N_alloc | apply Kd.N_drewN | apply Kd.N_drew)); exact Kd.N_mono HO_12.out (fun _ hk => ⟨⟨hk.2.2.2.1, ⟨hk.2.2.2.2, ⟨hk.2.2.1, hk.2.1⟩⟩⟩, hk.1⟩)) hg hat)
                                      have n4_ := Aside0.mk (Kd.N_afterv (ok := (fun k_ => some k_ ≠ (.slice Ao17 y105.length co17 : Value).ownBlock ∧ some k_ ≠ (v109 : Value).ownBlock ∧ some k_ ≠ (.slice (some ad124) t113.length co44 : Value).ownBlock ∧ some k_ ≠ (.slice Ao42 t116.length co42 : Value).ownBlock)) (by (with_reducible repeat (first | apply Kd.N_alloc | apply Kd.N_drewN | apply Kd.N_drew)); exact Kd.N_mono HO130.out (fun _ hk => ⟨⟨hk.2.2.2.1, ⟨hk.2.2.2.2, ⟨hk.2.1, hk.2.2.1⟩⟩⟩, hk.1⟩)) hg hat)
                                      have n5_ := Aside0.mk (hb)
                                      have n6_ := Aside0.mk (ho)
                                      clear HO_7
                                      clear HO_8
                                      clear HO_11
                                      clear HO_12
                                      clear HO130
                                      clear HB
                                      clear HO123
                                      have HO_7 := n0_
                                      have HO_8 := n1_
                                      have HO_11 := n2_
                                      have HO_12 := n3_
                                      have HO130 := n4_
                                      have HB := n5_
                                      have HO133 := n6_
                                      clear n0_ n1_ n2_ n3_ n4_ n5_ n6_
                                      clear ho hb hg hat
                                      refine hK.out _ _ (HS0_) (fun hHeld => ?_)
                                      clear hK K
                                      refine norm_ (a' := ?_) ?_ ?_
                                      rotate_left
                                      · show Act.put _ (some 106) _ = _
                                        simp only [Act.put, List.setIfInBounds_toArray, List.set_cons_zero, List.set_cons_succ, i64_w, i32_w]
                                        rfl
                                      refine pure_ (i := 10) (N := some 15) (v := ?_) (a' := ?_) #[true, true, true, true, true, true, true, true, true, true, true] rfl rfl (any_of HT_.out (by kernel_rfl)) (fun _ _ _ h => h) (Or.inl ⟨by rfl, ?_⟩) ?_ ?_
                                      rotate_left
                                      · intro w'
                                        go_simp
                                        with_reducible rfl
                                      rotate_left
                                      · simp only [Act.put, List.setIfInBounds_toArray, List.set_cons_zero, List.set_cons_succ, i64_w, i32_w]
                                        rfl
                                      refine done_ (done_of HT_.out (by kernel_rfl)) ?_
                                      obtain ⟨Ao54, co54, eo54⟩ := Kd.N_slice HO_8.out
                                      subst eo54
                                      try go_wp2_with (first | ((with_reducible refine gate_callee (f := 19) rfl ?_); refine goesL_ (some 111) rfl rfl Try.func19 (by kernel_rfl) rfl #[.slice Ao54 t108.length co54, .slice Ao17 y105.length co17, .int .i64 t111] rfl (by (try simp only [List.map_toArray, List.map_cons, List.map_nil]); first | done | rfl | (simp only [List.length_drop, List.length_take]; rfl)) ?_; (with_reducible refine (chalklinelaw16_can.calls kj31 _ _ t108 _ _ y105 t111 t134 t135 _ ?side1 ?side2 ?side3 ?side4 A40.out).mono ?_); (case side1 => repeat (first | exact (Kd.N_reads' HO_8.out).2.2 | (with_reducible refine Kd.C_alloc ?_ _) | (with_reducible refine Kd.C_drewN ?_ _) | (with_reducible refine Kd.C_drew ?_))); (case side2 => exact (Kd.N_reads' HO_8.out).2.1); (case side3 => repeat (first | exact (Kd.R_reads' HO_7.out).2.2 | (with_reducible refine Kd.C_alloc ?_ _) | (with_reducible refine Kd.C_drewN ?_ _) | (with_reducible refine Kd.C_drew ?_))); (case side4 => exact (Kd.R_reads' HO_7.out).2.1); rintro e w55 ⟨rfl, hb⟩; refine ⟨_, rfl, ?_⟩; have n0_ := Aside0.mk (Kd.R_below (by (with_reducible repeat (first | apply Kd.R_alloc | apply Kd.R_drewN | apply Kd.R_drew)); exact HO_7.out) hb); have n1_ := Aside0.mk (Kd.N_below (by (with_reducible repeat (first | apply Kd.N_alloc | apply Kd.N_drewN | apply Kd.N_drew)); exact HO_8.out) hb); have n2_ := Aside0.mk (Kd.R_below (by (with_reducible repeat (first | apply Kd.R_alloc | apply Kd.R_drewN | apply Kd.R_drew)); exact HO_11.out) hb); have n3_ := Aside0.mk (Kd.N_below (by (with_reducible repeat (first | apply Kd.N_alloc | apply Kd.N_drewN | apply Kd.N_drew)); exact HO_12.out) hb); have n4_ := Aside0.mk (Kd.N_below (by (with_reducible repeat (first | apply Kd.N_alloc | apply Kd.N_drewN | apply Kd.N_drew)); exact HO130.out) hb); have n5_ := Aside0.mk (Kd.N_below (by (with_reducible repeat (first | apply Kd.N_alloc | apply Kd.N_drewN | apply Kd.N_drew)); exact HO133.out) hb); have n6_ := Aside0.mk (below_step (by repeat (first | (with_reducible first | exact HB.out | apply below_alloc | apply pw_below_drewN | apply below_drew1) | exact HB.out)) hb); clear HO_7; clear HO_8; clear HO_11; clear HO_12; clear HO130; clear HO133; clear HB; have HO_7 := n0_; have HO_8 := n1_; have HO_11 := n2_; have HO_12 := n3_; have HO130 := n4_; have HO133 := n5_; have HB := n6_; clear n0_ n1_ n2_ n3_ n4_ n5_ n6_; (try clear hb); (try clear hb2); (try clear hk); (try clear hi); obtain ⟨Ao56, co56, eo56⟩ := Kd.N_slice HO133.out; subst eo56) | ((with_reducible refine gate_callee (f := 19) rfl ?_); refine goesL_ (some 118) rfl rfl Try.func19 (by kernel_rfl) rfl #[.slice Ao56 y131.length co56, .slice Ao17 y105.length co17, .int .i64 t119] rfl (by (try simp only [List.map_toArray, List.map_cons, List.map_nil]); first | done | rfl | (simp only [List.length_drop, List.length_take]; rfl)) ?_; (with_reducible refine (chalklinelaw16_can.calls kj31 _ _ y131 _ _ y105 t119 t136 t137 _ ?side1 ?side2 ?side3 ?side4 A41.out).mono ?_); (case side1 => repeat (first | exact (Kd.N_reads' HO133.out).2.2 | (with_reducible refine Kd.C_alloc ?_ _) | (with_reducible refine Kd.C_drewN ?_ _) | (with_reducible refine Kd.C_drew ?_))); (case side2 => exact (Kd.N_reads' HO133.out).2.1); (case side3 => repeat (first | exact (Kd.R_reads' HO_7.out).2.2 | (with_reducible refine Kd.C_alloc ?_ _) | (with_reducible refine Kd.C_drewN ?_ _) | (with_reducible refine Kd.C_drew ?_))); (case side4 => exact (Kd.R_reads' HO_7.out).2.1); rintro e w57 ⟨rfl, hb⟩; refine ⟨_, rfl, ?_⟩; have n0_ := Aside0.mk (Kd.R_below (by (with_reducible repeat (first | apply Kd.R_alloc | apply Kd.R_drewN | apply Kd.R_drew)); exact HO_7.out) hb); have n1_ := Aside0.mk (Kd.N_below (by (with_reducible repeat (first | apply Kd.N_alloc | apply Kd.N_drewN | apply Kd.N_drew)); exact HO_8.out) hb); have n2_ := Aside0.mk (Kd.R_below (by (with_reducible repeat (first | apply Kd.R_alloc | apply Kd.R_drewN | apply Kd.R_drew)); exact HO_11.out) hb); have n3_ := Aside0.mk (Kd.N_below (by (with_reducible repeat (first | apply Kd.N_alloc | apply Kd.N_drewN | apply Kd.N_drew)); exact HO_12.out) hb); have n4_ := Aside0.mk (Kd.N_below (by (with_reducible repeat (first | apply Kd.N_alloc | apply Kd.N_drewN | apply Kd.N_drew)); exact HO130.out) hb); have n5_ := Aside0.mk (Kd.N_below (by (with_reducible repeat (first | apply Kd.N_alloc | apply Kd.N_drewN | apply Kd.N_drew)); exact HO133.out) hb); have n6_ := Aside0.mk (below_step (by repeat (first | (with_reducible first | exact HB.out | apply below_alloc | apply pw_below_drewN | apply below_drew1) | exact HB.out)) hb); clear HO_7; clear HO_8; clear HO_11; clear HO_12; clear HO130; clear HO133; clear HB; have HO_7 := n0_; have HO_8 := n1_; have HO_11 := n2_; have HO_12 := n3_; have HO130 := n4_; have HO133 := n5_; have HB := n6_; clear n0_ n1_ n2_ n3_ n4_ n5_ n6_; (try clear hb); (try clear hb2); (try clear hk); (try clear hi)))
                                      go_ret
                                      exact ⟨by first | rfl | (simp [errW_none, errW_some] <;> rfl) | (simp only [← hji36]; first | rfl | (simp [errW_none, errW_some] <;> rfl)) | (simp [*, errW_none, errW_some] <;> rfl), by repeat (first | (with_reducible first | exact HB.out | apply below_alloc | apply pw_below_drewN | apply below_drew1) | exact HB.out)⟩
                                    · rw [if_neg c39] at H
                                      exact absurd H (by simp)
                                  · rw [if_neg c38] at H
                                    exact absurd H (by simp)
                                · rw [if_neg c37] at H
                                  exact absurd H (by simp)
                              · rw [if_neg c35] at H
                                exact absurd H (by simp)
          · rw [if_neg c10] at H
            exact absurd H (by simp)
  · replace c5 := Bool.eq_false_iff.mpr c5
    subst c5
    have H1 : (some false) = some r := by rw [if_neg (show ¬ (false = true) by decide)] at H; exact H
    clear H
    have H := H1
    clear H1
    obtain rfl := Option.some.inj H
    go_enter Try.func5, Try.ntmps5
    go_wp2_with (first | ((with_reducible refine gate_callee (f := 12) rfl ?_); refine goesL_ (some 20) rfl rfl Try.func12 (by kernel_rfl) rfl #[] rfl (by (try simp only [List.map_toArray, List.map_cons, List.map_nil]); first | done | rfl | (simp only [List.length_drop, List.length_take]; rfl)) ?_; (with_reducible refine (chalklinelaw16_live.calls  false _ A4.out).mono ?_); rintro e w58 ⟨rfl, hb⟩; refine ⟨_, rfl, ?_⟩; have n0_ := Aside0.mk (below_step (by repeat (first | (with_reducible first | exact HB.out | apply below_alloc | apply pw_below_drewN | apply below_drew1) | exact HB.out)) hb); clear HB; have HB := n0_; clear n0_; (try clear hb); (try clear hb2); (try clear hk); (try clear hi)))
    go_ret
    exact ⟨by first | rfl | (simp [errW_none, errW_some] <;> rfl) | (simp [*, errW_none, errW_some] <;> rfl), by repeat (first | (with_reducible first | exact HB.out | apply below_alloc | apply pw_below_drewN | apply below_drew1) | exact HB.out)⟩

end Go.Proofs.Ytpadmbpopjmdjaa.QTo
