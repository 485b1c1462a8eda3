-- Printed for this seat by a program of this session (wip/tools/give.py).
import Derived.Test.YtidgljajegoffaaQLvx0
namespace Go.Proofs.Ytidgljajegoffaa.QLv
open Go.RowKit Go.Proofs.YtidgljajegoffaaW.PrintWords Go.Proofs.YtidgljajegoffaaW.PrintLast Go.Proofs.YtidgljajegoffaaW.PrintMore Go.Proofs.Ytidgljajegoffaa.G Go.Proofs.Ytidgljajegoffaa.QRef
attribute [local go_sem] max2_int min2_int max_two min_two max_three min_three max_four min_four   -- for this text's walks alone
set_option linter.unusedVariables false
set_option linter.unusedSimpArgs false

-- NOT PRINTED: function 49 (slices_IndexFunc_int_int)

-- NOT PRINTED: function 33 (slices_ContainsFunc_int_int)

-- NOT PRINTED: function 37 (prop_truths_step)

-- NOT PRINTED: function 41 (prop_truths_known)

/-! ### slices_Index_int_int: function 52 -/
def slices_Index_int_int.l0 : Nat → List Int → Int → Int → Int → Option (Int)
  | 0, _, _, _, _ => none
  | k + 1, x0, x1, x7, x8 => if x8 < x7 then (if 0 ≤ x8 then (if x8 < (x0.length : Int) then (if x1 = (rd x0 x8) then (some x8) else (slices_Index_int_int.l0 k x0 x1 x7 (wrap64 (x8 + 1)))) else (none)) else (none)) else (some (-1))
def slices_Index_int_int.f (k : Nat) (l0 : List Int) (a1 : Int) : Option (Int) := slices_Index_int_int.l0 k l0 a1 (l0.length : Int) 0
theorem slices_Index_int_int.mono_l : ∀ k, (∀ y0 y1 y2 y3, LeO (slices_Index_int_int.l0 k y0 y1 y2 y3) (slices_Index_int_int.l0 (k + 1) y0 y1 y2 y3))
  | 0 => fun _ _ _ _ r h => by simp [slices_Index_int_int.l0] at h
  | k + 1 => by
    have ih0 := slices_Index_int_int.mono_l k
    · intro y0 y1 y2 y3
      unfold slices_Index_int_int.l0
      repeat' first
      | (with_reducible exact ih0 _ _ _ _)
      | (with_reducible exact LeO.refl _)
      | (with_reducible exact LeO.none _)
      | (with_reducible refine LeO.ite ?_ ?_)
      | (with_reducible refine LeO.bind ?_ (fun _ => ?_))
      | exact ih0 _ _ _ _
      | exact LeO.none _
      | refine LeO.ite ?_ ?_
      | refine LeO.bind ?_ (fun _ => ?_)
theorem slices_Index_int_int.mono : ∀ a0 a1 k, LeO (slices_Index_int_int.f k a0 a1) (slices_Index_int_int.f (k + 1) a0 a1) := by
  intro a0 a1 k
  have ih0 := slices_Index_int_int.mono_l k
  unfold slices_Index_int_int.f
  repeat' first
      | (with_reducible exact ih0 _ _ _ _)
      | (with_reducible exact LeO.refl _)
      | (with_reducible exact LeO.none _)
      | (with_reducible refine LeO.ite ?_ ?_)
      | (with_reducible refine LeO.bind ?_ (fun _ => ?_))
      | exact ih0 _ _ _ _
      | exact LeO.none _
      | refine LeO.ite ?_ ?_
      | refine LeO.bind ?_ (fun _ => ?_)
set_option maxHeartbeats 8000000 in
set_option maxRecDepth 100000 in
theorem slices_Index_int_int.calls (k : Nat) (A0 : Option Addr) (c0 : Nat) (l0 : List Int) (a1 : Int) (r : Int) (w : World) (hr0 : Kd.C (Kd.int .i64) w A0 l0.length l0) (hc0 : l0.length ≤ c0) (h : slices_Index_int_int.f k l0 a1 = some r) :
    Calls Try.prog 52 #[.slice A0 l0.length c0, .int .i64 a1] w fun e w' => e = .returned (.int .i64 r) ∧ Drawn0 w w' := by
  have HR0 := Aside0.mk hr0
  have HC0 := Aside0.mk hc0
  clear hr0 hc0
  have H : (slices_Index_int_int.l0 k l0 a1 (l0.length : Int) 0) = some r := h
  clear h
  have H' := Aside0.mk H
  clear H
  go_enter Try.func52, Try.ntmps52
  go_wp2
  go_loopg [8] k (fun kq v8 w' => ∃ (x8_1 : Int), v8 = .int .i64 x8_1 ∧ Aside0 (slices_Index_int_int.l0 kq l0 a1 (l0.length : Int) x8_1 = some r) ∧ Aside0 (kq ≤ k) ∧ Drawn0 w w')
  case atStart => exact ⟨(0), (by first | rfl | (simp; done) | (simp [*]; done)), H', ⟨Nat.le_refl _⟩, by repeat (first | exact Drawn0.refl _ | apply Drawn0.step)⟩
  case round =>
    clear H'
    try clear p2
    obtain ⟨x8_1, rfl, HA, HK1, ⟨m1, rfl⟩⟩ := hrel
    cases gk with
    | zero => exact absurd HA.out (by simp [slices_Index_int_int.l0])
    | succ k1 =>
      have H := HA.out
      clear HA
      simp only [slices_Index_int_int.l0] at H
      by_cases c3 : x8_1 < (l0.length : Int)
      · rw [if_pos c3] at H
        have c3b0 : decide (x8_1 < (l0.length : Int)) = true := decide_eq_true c3
        clear c3
        by_cases c4 : 0 ≤ x8_1
        · rw [if_pos c4] at H
          have c4b0 : decide (0 ≤ x8_1) = true := decide_eq_true c4
          clear c4
          by_cases c5 : x8_1 < (l0.length : Int)
          · rw [if_pos c5] at H
            have c5b0 : decide (x8_1 < (l0.length : Int)) = true := decide_eq_true c5
            clear c5
            by_cases c6 : a1 = (rd l0 x8_1)
            · rw [if_pos c6] at H
              have c6b0 : (a1 == (rd l0 x8_1)) = true := beq_iff_eq.mpr c6
              have c6b1 : (a1 != (rd l0 x8_1)) = false := bne_eq_false_iff_eq.mpr c6
              clear c6
              obtain rfl := Option.some.inj H
              have p101 : 0 ≤ (x8_1 : Int) := of_decide_eq_true (by first | (with_reducible assumption) | assumption)
              have q101 : x8_1 < (l0.length : Int) := of_decide_eq_true (by first | (with_reducible assumption) | assumption)
              obtain ⟨ad101, e101, hx101_0⟩ := Kd.at_int HR0.out x8_1 p101 q101
              cases e101
              replace p101 := eq_true p101
              replace q101 := eq_true q101
              go_wp2
              go_ret
              exact ⟨by first | rfl | (simp; done) | (simp [*]; done), by repeat (first | exact Drawn0.refl _ | apply Drawn0.step)⟩
            · rw [if_neg c6] at H
              have c6b0 : (a1 == (rd l0 x8_1)) = false := beq_eq_false_iff_ne.mpr c6
              have c6b1 : (a1 != (rd l0 x8_1)) = true := bne_iff_ne.mpr c6
              have H' := Aside0.mk H
              clear H
              have p101 : 0 ≤ (x8_1 : Int) := of_decide_eq_true (by first | (with_reducible assumption) | assumption)
              have q101 : x8_1 < (l0.length : Int) := of_decide_eq_true (by first | (with_reducible assumption) | assumption)
              obtain ⟨ad101, e101, hx101_0⟩ := Kd.at_int HR0.out x8_1 p101 q101
              cases e101
              replace p101 := eq_true p101
              replace q101 := eq_true q101
              go_wp2
              go_roundg k1
              case measure => have := HK1.out; omega
              case rel => exact ⟨(wrap64 (x8_1 + 1)), (by first | rfl | (simp; done) | (simp [*]; done)), H', ⟨by have := HK1.out; omega⟩, by repeat (first | exact Drawn0.refl _ | apply Drawn0.step)⟩
          · rw [if_neg c5] at H
            exact absurd H (by simp)
        · rw [if_neg c4] at H
          exact absurd H (by simp)
      · rw [if_neg c3] at H
        have c3b0 : decide (x8_1 < (l0.length : Int)) = false := decide_eq_false c3
        clear c3
        obtain rfl := Option.some.inj H
        go_wp2
        go_ret
        exact ⟨by first | rfl | (simp; done) | (simp [*]; done), by repeat (first | exact Drawn0.refl _ | apply Drawn0.step)⟩

/-! ### slices_Contains_int_int: function 43 -/
def slices_Contains_int_int.f (k : Nat) (l0 : List Int) (a1 : Int) : Option (Bool) := (slices_Index_int_int.f k l0 a1).bind fun t102 => (some (decide (t102 ≥ 0)))
theorem slices_Contains_int_int.mono : ∀ a0 a1 k, LeO (slices_Contains_int_int.f k a0 a1) (slices_Contains_int_int.f (k + 1) a0 a1) := by
  intro a0 a1 k
  unfold slices_Contains_int_int.f
  repeat' first
      | (with_reducible exact slices_Index_int_int.mono _ _ _)
      | (with_reducible exact LeO.refl _)
      | (with_reducible exact LeO.none _)
      | (with_reducible refine LeO.ite ?_ ?_)
      | (with_reducible refine LeO.bind ?_ (fun _ => ?_))
      | exact slices_Index_int_int.mono _ _ _
      | exact LeO.none _
      | refine LeO.ite ?_ ?_
      | refine LeO.bind ?_ (fun _ => ?_)
set_option maxHeartbeats 8000000 in
set_option maxRecDepth 100000 in
theorem slices_Contains_int_int.calls (k : Nat) (A0 : Option Addr) (c0 : Nat) (l0 : List Int) (a1 : Int) (r : Bool) (w : World) (hr0 : Kd.C (Kd.int .i64) w A0 l0.length l0) (hc0 : l0.length ≤ c0) (h : slices_Contains_int_int.f k l0 a1 = some r) :
    Calls Try.prog 43 #[.slice A0 l0.length c0, .int .i64 a1] w fun e w' => e = .returned (.bool r) ∧ Drawn0 w w' := by
  have HR0 := Aside0.mk hr0
  have HC0 := Aside0.mk hc0
  clear hr0 hc0
  have H : ((slices_Index_int_int.f k l0 a1).bind fun t102 => (some (decide (t102 ≥ 0)))) = some r := h
  clear h
  replace H := Option.bind_eq_some_iff.mp H
  obtain ⟨t102, A30, H⟩ := H
  replace H : (some (decide (t102 ≥ 0))) = some r := H
  have A3 := Aside0.mk A30
  clear A30
  obtain rfl := Option.some.inj H
  go_enter Try.func43, Try.ntmps43
  go_wp2_with (first | ((with_reducible refine gate_callee (f := 52) rfl ?_); refine goesL_ (some 7) rfl rfl Try.func52 (by kernel_rfl) rfl #[.slice A0 l0.length c0, .int .i64 a1] rfl (by (try simp only [List.map_toArray, List.map_cons, List.map_nil]); first | done | rfl | (simp only [List.length_drop, List.length_take]; rfl)) ?_; (with_reducible refine (slices_Index_int_int.calls k _ _ l0 a1 t102 _ ?side1 ?side2 A3.out).mono ?_); (case side1 => repeat (first | exact HR0.out | (with_reducible refine Kd.C_alloc ?_ _) | (with_reducible refine Kd.C_drewN ?_ _) | (with_reducible refine Kd.C_drew ?_))); (case side2 => exact HC0.out); rintro e w' ⟨rfl, ⟨nd, rfl⟩⟩; refine ⟨_, rfl, ?_⟩))
  go_ret
  exact ⟨by first | rfl | (simp; done) | (simp [*]; done), by repeat (first | exact Drawn0.refl _ | apply Drawn0.step)⟩

-- NOT PRINTED: function 36 (api_Step)

-- NOT PRINTED: function 50 (prop_engine_look)

-- NOT PRINTED: function 38 (prop_engine_visit)

/-! ### chalklinelaw19_live: function 11 -/
def chalklinelaw19_live.j0 : Nat → List (S32) → Int → Int → Int → Int → Int → Int → Bool → List Int → Bool → Int → List (List Int) → Option (Bool)
  | 0, _, _, _, _, _, _, _, _, _, _, _, _ => none
  | k + 1, x3, x4, x5, x8, x10, x11, x14, x15, x16, x82, x113000, x113001 => if x82 = true then (some false) else (if x15 = true then (if x4 = (-1) then (if x5 = 0 then (if x8 = 0 then (if x11 = 0 then (if x10 = 0 then (if x14 = 1 then (if 0 < (x16.length : Int) then (if (rd x16 0) = 1 then (if 2 < (x16.length : Int) then (if (rd x16 2) = 1 then ((prop_Back.f k x3 0).bind fun t160 => (if (t160.length : Int) = 0 then ((prop_Back.f k x3 1).bind fun t163 => (if (t163.length : Int) = 3 then ((prop_Check.f x113000 x113001 x3).bind fun t166 => (if t166 = 0 then ((prop_Check.f x113000 x113001 (([(⟨4, (-1)⟩ : S32)] : List (S32)))).bind fun t170 => (some (t170 == 1))) else (some false))) else (some false))) else (some false))) else (some false)) else (none)) else (some false)) else (none)) else (some false)) else (some false)) else (some false)) else (some false)) else (some false)) else (some false)) else (some false))
def chalklinelaw19_live.f (k : Nat)  : Option (Bool) := (some (([(([(-1), 2] : List Int)), (([(-2), 3] : List Int))] : List (List Int)) : List (List Int))).bind fun y109 => ((some (([(⟨1, (-1)⟩ : S32)] : List (S32)) : List (S32))).bind fun y113 => ((prop_Prop.f 3 y109 y113).bind fun bt116 => (if y109.length < 5864062014805 then ((some (y109 ++ [(([(-1), (-3)] : List Int))] : List (List Int))).bind fun y124 => ((prop_Prop.f 3 y124 y113).bind fun bt127 => ((prop_Prop.f 0 (([(([] : List Int))] : List (List Int))) ([] : List (S32))).bind fun bt138 => ((prop_Prop.f 3 y124 (([(⟨2, 0⟩ : S32)] : List (S32)))).bind fun bt146 => ((chalklineref19_Steps.f k bt116.1 (([(⟨1, (-1)⟩ : S32), (⟨2, 0⟩ : S32), (⟨3, 1⟩ : S32)] : List (S32)))).bind fun t154 => ((prop_Levels.f k bt116.1).bind fun t155 => (if (bt127.1.length : Int) < 2 then (chalklinelaw19_live.j0 k bt116.1 bt116.2.1 bt116.2.2 bt127.2.2 bt138.2.1 bt138.2.2 bt146.2.2 t154 t155 true 3 y124) else (if bt127.2.1 < 0 then (chalklinelaw19_live.j0 k bt116.1 bt116.2.1 bt116.2.2 bt127.2.2 bt138.2.1 bt138.2.2 bt146.2.2 t154 t155 true 3 y124) else (if bt127.2.1 > 2 then (chalklinelaw19_live.j0 k bt116.1 bt116.2.1 bt116.2.2 bt127.2.2 bt138.2.1 bt138.2.2 bt146.2.2 t154 t155 true 3 y124) else (chalklinelaw19_live.j0 k bt116.1 bt116.2.1 bt116.2.2 bt127.2.2 bt138.2.1 bt138.2.2 bt146.2.2 t154 t155 ((t155.length : Int) != 3) 3 y124)))))))))) else (none))))
theorem chalklinelaw19_live.mono_l : ∀ k, (∀ y0 y1 y2 y3 y4 y5 y6 y7 y8 y9 y10 y11, LeO (chalklinelaw19_live.j0 k y0 y1 y2 y3 y4 y5 y6 y7 y8 y9 y10 y11) (chalklinelaw19_live.j0 (k + 1) y0 y1 y2 y3 y4 y5 y6 y7 y8 y9 y10 y11))
  | 0 => fun _ _ _ _ _ _ _ _ _ _ _ _ r h => by simp [chalklinelaw19_live.j0] at h
  | k + 1 => by
    have ih0 := chalklinelaw19_live.mono_l k
    · intro y0 y1 y2 y3 y4 y5 y6 y7 y8 y9 y10 y11
      unfold chalklinelaw19_live.j0
      repeat' first
      | (with_reducible exact ih0 _ _ _ _ _ _ _ _ _ _ _ _)
      | (with_reducible exact chalklineref19_Steps.mono _ _ _)
      | (with_reducible exact prop_Back.mono _ _ _)
      | (with_reducible exact prop_Levels.mono _ _)
      | (with_reducible exact LeO.refl _)
      | (with_reducible exact LeO.none _)
      | (with_reducible refine LeO.ite ?_ ?_)
      | (with_reducible refine LeO.bind ?_ (fun _ => ?_))
      | exact ih0 _ _ _ _ _ _ _ _ _ _ _ _
      | exact chalklineref19_Steps.mono _ _ _
      | exact prop_Back.mono _ _ _
      | exact prop_Levels.mono _ _
      | exact LeO.none _
      | refine LeO.ite ?_ ?_
      | refine LeO.bind ?_ (fun _ => ?_)
theorem chalklinelaw19_live.mono : ∀ k, LeO (chalklinelaw19_live.f k ) (chalklinelaw19_live.f (k + 1) ) := by
  intro  k
  have ih0 := chalklinelaw19_live.mono_l k
  unfold chalklinelaw19_live.f
  repeat' first
      | (with_reducible exact ih0 _ _ _ _ _ _ _ _ _ _ _ _)
      | (with_reducible exact chalklineref19_Steps.mono _ _ _)
      | (with_reducible exact prop_Back.mono _ _ _)
      | (with_reducible exact prop_Levels.mono _ _)
      | (with_reducible exact LeO.refl _)
      | (with_reducible exact LeO.none _)
      | (with_reducible refine LeO.ite ?_ ?_)
      | (with_reducible refine LeO.bind ?_ (fun _ => ?_))
      | exact ih0 _ _ _ _ _ _ _ _ _ _ _ _
      | exact chalklineref19_Steps.mono _ _ _
      | exact prop_Back.mono _ _ _
      | exact prop_Levels.mono _ _
      | exact LeO.none _
      | refine LeO.ite ?_ ?_
      | refine LeO.bind ?_ (fun _ => ?_)
set_option maxHeartbeats 8000000 in
set_option maxRecDepth 100000 in
theorem chalklinelaw19_live.calls (k : Nat)  (r : Bool) (w : World) (h : chalklinelaw19_live.f k  = some r) :
    Calls Try.prog 11 #[] w fun e w' => e = .returned (.bool r) ∧ Below w.heap.size w w' := by
  have hu24 := Try.underlying24
  have hu32 := Try.underlying32
  have HB := Aside0.mk (Below.refl w.heap.size w)
  have H : ((some (([(([(-1), 2] : List Int)), (([(-2), 3] : List Int))] : List (List Int)) : List (List Int))).bind fun y109 => ((some (([(⟨1, (-1)⟩ : S32)] : List (S32)) : List (S32))).bind fun y113 => ((prop_Prop.f 3 y109 y113).bind fun bt116 => (if y109.length < 5864062014805 then ((some (y109 ++ [(([(-1), (-3)] : List Int))] : List (List Int))).bind fun y124 => ((prop_Prop.f 3 y124 y113).bind fun bt127 => ((prop_Prop.f 0 (([(([] : List Int))] : List (List Int))) ([] : List (S32))).bind fun bt138 => ((prop_Prop.f 3 y124 (([(⟨2, 0⟩ : S32)] : List (S32)))).bind fun bt146 => ((chalklineref19_Steps.f k bt116.1 (([(⟨1, (-1)⟩ : S32), (⟨2, 0⟩ : S32), (⟨3, 1⟩ : S32)] : List (S32)))).bind fun t154 => ((prop_Levels.f k bt116.1).bind fun t155 => (if (bt127.1.length : Int) < 2 then (chalklinelaw19_live.j0 k bt116.1 bt116.2.1 bt116.2.2 bt127.2.2 bt138.2.1 bt138.2.2 bt146.2.2 t154 t155 true 3 y124) else (if bt127.2.1 < 0 then (chalklinelaw19_live.j0 k bt116.1 bt116.2.1 bt116.2.2 bt127.2.2 bt138.2.1 bt138.2.2 bt146.2.2 t154 t155 true 3 y124) else (if bt127.2.1 > 2 then (chalklinelaw19_live.j0 k bt116.1 bt116.2.1 bt116.2.2 bt127.2.2 bt138.2.1 bt138.2.2 bt146.2.2 t154 t155 true 3 y124) else (chalklinelaw19_live.j0 k bt116.1 bt116.2.1 bt116.2.2 bt127.2.2 bt138.2.1 bt138.2.2 bt146.2.2 t154 t155 ((t155.length : Int) != 3) 3 y124)))))))))) else (none))))) = some r := h
  clear h
  obtain ⟨y103, hy103⟩ : ∃ y_ : List Int, y_ = (([(-1), 2] : List Int)) := ⟨_, rfl⟩
  replace H : ((some (([y103, (([(-2), 3] : List Int))] : List (List Int)) : List (List Int))).bind fun y109 => ((some (([(⟨1, (-1)⟩ : S32)] : List (S32)) : List (S32))).bind fun y113 => ((prop_Prop.f 3 y109 y113).bind fun bt116 => (if y109.length < 5864062014805 then ((some (y109 ++ [(([(-1), (-3)] : List Int))] : List (List Int))).bind fun y124 => ((prop_Prop.f 3 y124 y113).bind fun bt127 => ((prop_Prop.f 0 (([(([] : List Int))] : List (List Int))) ([] : List (S32))).bind fun bt138 => ((prop_Prop.f 3 y124 (([(⟨2, 0⟩ : S32)] : List (S32)))).bind fun bt146 => ((chalklineref19_Steps.f k bt116.1 (([(⟨1, (-1)⟩ : S32), (⟨2, 0⟩ : S32), (⟨3, 1⟩ : S32)] : List (S32)))).bind fun t154 => ((prop_Levels.f k bt116.1).bind fun t155 => (if (bt127.1.length : Int) < 2 then (chalklinelaw19_live.j0 k bt116.1 bt116.2.1 bt116.2.2 bt127.2.2 bt138.2.1 bt138.2.2 bt146.2.2 t154 t155 true 3 y124) else (if bt127.2.1 < 0 then (chalklinelaw19_live.j0 k bt116.1 bt116.2.1 bt116.2.2 bt127.2.2 bt138.2.1 bt138.2.2 bt146.2.2 t154 t155 true 3 y124) else (if bt127.2.1 > 2 then (chalklinelaw19_live.j0 k bt116.1 bt116.2.1 bt116.2.2 bt127.2.2 bt138.2.1 bt138.2.2 bt146.2.2 t154 t155 true 3 y124) else (chalklinelaw19_live.j0 k bt116.1 bt116.2.1 bt116.2.2 bt127.2.2 bt138.2.1 bt138.2.2 bt146.2.2 t154 t155 ((t155.length : Int) != 3) 3 y124)))))))))) else (none))))) = some r := by first | (rw [hy103]; with_reducible exact H) | (have H2_ := (Option.bind_some _ _).symm.trans H; rw [hy103]; with_reducible exact H2_) | (have H2_ := (Option.bind_some _ _).symm.trans H; with_reducible exact H2_) | with_reducible exact H | (rw [hy103]; exact H) | exact H
  have Ny103 := Aside0.mk hy103
  clear hy103
  obtain ⟨y106, hy106⟩ : ∃ y_ : List Int, y_ = (([(-2), 3] : List Int)) := ⟨_, rfl⟩
  replace H : ((some (([y103, y106] : List (List Int)) : List (List Int))).bind fun y109 => ((some (([(⟨1, (-1)⟩ : S32)] : List (S32)) : List (S32))).bind fun y113 => ((prop_Prop.f 3 y109 y113).bind fun bt116 => (if y109.length < 5864062014805 then ((some (y109 ++ [(([(-1), (-3)] : List Int))] : List (List Int))).bind fun y124 => ((prop_Prop.f 3 y124 y113).bind fun bt127 => ((prop_Prop.f 0 (([(([] : List Int))] : List (List Int))) ([] : List (S32))).bind fun bt138 => ((prop_Prop.f 3 y124 (([(⟨2, 0⟩ : S32)] : List (S32)))).bind fun bt146 => ((chalklineref19_Steps.f k bt116.1 (([(⟨1, (-1)⟩ : S32), (⟨2, 0⟩ : S32), (⟨3, 1⟩ : S32)] : List (S32)))).bind fun t154 => ((prop_Levels.f k bt116.1).bind fun t155 => (if (bt127.1.length : Int) < 2 then (chalklinelaw19_live.j0 k bt116.1 bt116.2.1 bt116.2.2 bt127.2.2 bt138.2.1 bt138.2.2 bt146.2.2 t154 t155 true 3 y124) else (if bt127.2.1 < 0 then (chalklinelaw19_live.j0 k bt116.1 bt116.2.1 bt116.2.2 bt127.2.2 bt138.2.1 bt138.2.2 bt146.2.2 t154 t155 true 3 y124) else (if bt127.2.1 > 2 then (chalklinelaw19_live.j0 k bt116.1 bt116.2.1 bt116.2.2 bt127.2.2 bt138.2.1 bt138.2.2 bt146.2.2 t154 t155 true 3 y124) else (chalklinelaw19_live.j0 k bt116.1 bt116.2.1 bt116.2.2 bt127.2.2 bt138.2.1 bt138.2.2 bt146.2.2 t154 t155 ((t155.length : Int) != 3) 3 y124)))))))))) else (none))))) = some r := by first | (rw [hy106]; with_reducible exact H) | (have H2_ := (Option.bind_some _ _).symm.trans H; rw [hy106]; with_reducible exact H2_) | (have H2_ := (Option.bind_some _ _).symm.trans H; with_reducible exact H2_) | with_reducible exact H | (rw [hy106]; exact H) | exact H
  have Ny106 := Aside0.mk hy106
  clear hy106
  obtain ⟨y109, hy109⟩ : ∃ y_ : List (List Int), y_ = (([y103, y106] : List (List Int))) := ⟨_, rfl⟩
  replace H : ((some (([(⟨1, (-1)⟩ : S32)] : List (S32)) : List (S32))).bind fun y113 => ((prop_Prop.f 3 y109 y113).bind fun bt116 => (if y109.length < 5864062014805 then ((some (y109 ++ [(([(-1), (-3)] : List Int))] : List (List Int))).bind fun y124 => ((prop_Prop.f 3 y124 y113).bind fun bt127 => ((prop_Prop.f 0 (([(([] : List Int))] : List (List Int))) ([] : List (S32))).bind fun bt138 => ((prop_Prop.f 3 y124 (([(⟨2, 0⟩ : S32)] : List (S32)))).bind fun bt146 => ((chalklineref19_Steps.f k bt116.1 (([(⟨1, (-1)⟩ : S32), (⟨2, 0⟩ : S32), (⟨3, 1⟩ : S32)] : List (S32)))).bind fun t154 => ((prop_Levels.f k bt116.1).bind fun t155 => (if (bt127.1.length : Int) < 2 then (chalklinelaw19_live.j0 k bt116.1 bt116.2.1 bt116.2.2 bt127.2.2 bt138.2.1 bt138.2.2 bt146.2.2 t154 t155 true 3 y124) else (if bt127.2.1 < 0 then (chalklinelaw19_live.j0 k bt116.1 bt116.2.1 bt116.2.2 bt127.2.2 bt138.2.1 bt138.2.2 bt146.2.2 t154 t155 true 3 y124) else (if bt127.2.1 > 2 then (chalklinelaw19_live.j0 k bt116.1 bt116.2.1 bt116.2.2 bt127.2.2 bt138.2.1 bt138.2.2 bt146.2.2 t154 t155 true 3 y124) else (chalklinelaw19_live.j0 k bt116.1 bt116.2.1 bt116.2.2 bt127.2.2 bt138.2.1 bt138.2.2 bt146.2.2 t154 t155 ((t155.length : Int) != 3) 3 y124)))))))))) else (none)))) = some r := by first | (rw [hy109]; with_reducible exact H) | (have H2_ := (Option.bind_some _ _).symm.trans H; rw [hy109]; with_reducible exact H2_) | (have H2_ := (Option.bind_some _ _).symm.trans H; with_reducible exact H2_) | with_reducible exact H | (rw [hy109]; exact H) | exact H
  have Ny109 := Aside0.mk hy109
  clear hy109
  obtain ⟨y113, hy113⟩ : ∃ y_ : List (S32), y_ = (([(⟨1, (-1)⟩ : S32)] : List (S32))) := ⟨_, rfl⟩
  replace H : ((prop_Prop.f 3 y109 y113).bind fun bt116 => (if y109.length < 5864062014805 then ((some (y109 ++ [(([(-1), (-3)] : List Int))] : List (List Int))).bind fun y124 => ((prop_Prop.f 3 y124 y113).bind fun bt127 => ((prop_Prop.f 0 (([(([] : List Int))] : List (List Int))) ([] : List (S32))).bind fun bt138 => ((prop_Prop.f 3 y124 (([(⟨2, 0⟩ : S32)] : List (S32)))).bind fun bt146 => ((chalklineref19_Steps.f k bt116.1 (([(⟨1, (-1)⟩ : S32), (⟨2, 0⟩ : S32), (⟨3, 1⟩ : S32)] : List (S32)))).bind fun t154 => ((prop_Levels.f k bt116.1).bind fun t155 => (if (bt127.1.length : Int) < 2 then (chalklinelaw19_live.j0 k bt116.1 bt116.2.1 bt116.2.2 bt127.2.2 bt138.2.1 bt138.2.2 bt146.2.2 t154 t155 true 3 y124) else (if bt127.2.1 < 0 then (chalklinelaw19_live.j0 k bt116.1 bt116.2.1 bt116.2.2 bt127.2.2 bt138.2.1 bt138.2.2 bt146.2.2 t154 t155 true 3 y124) else (if bt127.2.1 > 2 then (chalklinelaw19_live.j0 k bt116.1 bt116.2.1 bt116.2.2 bt127.2.2 bt138.2.1 bt138.2.2 bt146.2.2 t154 t155 true 3 y124) else (chalklinelaw19_live.j0 k bt116.1 bt116.2.1 bt116.2.2 bt127.2.2 bt138.2.1 bt138.2.2 bt146.2.2 t154 t155 ((t155.length : Int) != 3) 3 y124)))))))))) else (none))) = some r := by first | (rw [hy113]; with_reducible exact H) | (have H2_ := (Option.bind_some _ _).symm.trans H; rw [hy113]; with_reducible exact H2_) | (have H2_ := (Option.bind_some _ _).symm.trans H; with_reducible exact H2_) | with_reducible exact H | (rw [hy113]; exact H) | exact H
  have Ny113 := Aside0.mk hy113
  clear hy113
  replace H := Option.bind_eq_some_iff.mp H
  obtain ⟨⟨t116, t119, t120⟩, A10, H⟩ := H
  replace H : (if y109.length < 5864062014805 then ((some (y109 ++ [(([(-1), (-3)] : List Int))] : List (List Int))).bind fun y124 => ((prop_Prop.f 3 y124 y113).bind fun bt127 => ((prop_Prop.f 0 (([(([] : List Int))] : List (List Int))) ([] : List (S32))).bind fun bt138 => ((prop_Prop.f 3 y124 (([(⟨2, 0⟩ : S32)] : List (S32)))).bind fun bt146 => ((chalklineref19_Steps.f k t116 (([(⟨1, (-1)⟩ : S32), (⟨2, 0⟩ : S32), (⟨3, 1⟩ : S32)] : List (S32)))).bind fun t154 => ((prop_Levels.f k t116).bind fun t155 => (if (bt127.1.length : Int) < 2 then (chalklinelaw19_live.j0 k t116 t119 t120 bt127.2.2 bt138.2.1 bt138.2.2 bt146.2.2 t154 t155 true 3 y124) else (if bt127.2.1 < 0 then (chalklinelaw19_live.j0 k t116 t119 t120 bt127.2.2 bt138.2.1 bt138.2.2 bt146.2.2 t154 t155 true 3 y124) else (if bt127.2.1 > 2 then (chalklinelaw19_live.j0 k t116 t119 t120 bt127.2.2 bt138.2.1 bt138.2.2 bt146.2.2 t154 t155 true 3 y124) else (chalklinelaw19_live.j0 k t116 t119 t120 bt127.2.2 bt138.2.1 bt138.2.2 bt146.2.2 t154 t155 ((t155.length : Int) != 3) 3 y124)))))))))) else (none)) = some r := H
  have A1 := Aside0.mk A10
  clear A10
  obtain ⟨y121, hy121⟩ : ∃ y_ : List Int, y_ = (([(-1), (-3)] : List Int)) := ⟨_, rfl⟩
  replace H : (if y109.length < 5864062014805 then ((some (y109 ++ [y121] : List (List Int))).bind fun y124 => ((prop_Prop.f 3 y124 y113).bind fun bt127 => ((prop_Prop.f 0 (([(([] : List Int))] : List (List Int))) ([] : List (S32))).bind fun bt138 => ((prop_Prop.f 3 y124 (([(⟨2, 0⟩ : S32)] : List (S32)))).bind fun bt146 => ((chalklineref19_Steps.f k t116 (([(⟨1, (-1)⟩ : S32), (⟨2, 0⟩ : S32), (⟨3, 1⟩ : S32)] : List (S32)))).bind fun t154 => ((prop_Levels.f k t116).bind fun t155 => (if (bt127.1.length : Int) < 2 then (chalklinelaw19_live.j0 k t116 t119 t120 bt127.2.2 bt138.2.1 bt138.2.2 bt146.2.2 t154 t155 true 3 y124) else (if bt127.2.1 < 0 then (chalklinelaw19_live.j0 k t116 t119 t120 bt127.2.2 bt138.2.1 bt138.2.2 bt146.2.2 t154 t155 true 3 y124) else (if bt127.2.1 > 2 then (chalklinelaw19_live.j0 k t116 t119 t120 bt127.2.2 bt138.2.1 bt138.2.2 bt146.2.2 t154 t155 true 3 y124) else (chalklinelaw19_live.j0 k t116 t119 t120 bt127.2.2 bt138.2.1 bt138.2.2 bt146.2.2 t154 t155 ((t155.length : Int) != 3) 3 y124)))))))))) else (none)) = some r := by first | (rw [hy121]; with_reducible exact H) | (have H2_ := (Option.bind_some _ _).symm.trans H; rw [hy121]; with_reducible exact H2_) | (have H2_ := (Option.bind_some _ _).symm.trans H; with_reducible exact H2_) | with_reducible exact H | (rw [hy121]; exact H) | exact H
  have Ny121 := Aside0.mk hy121
  clear hy121
  by_cases c2 : y109.length < 5864062014805
  · rw [if_pos c2] at H
    have LMc2 := Aside0.mk c2
    clear c2
    obtain ⟨y124, hy124⟩ : ∃ y_ : List (List Int), y_ = (y109 ++ [y121]) := ⟨_, rfl⟩
    replace H : ((prop_Prop.f 3 y124 y113).bind fun bt127 => ((prop_Prop.f 0 (([(([] : List Int))] : List (List Int))) ([] : List (S32))).bind fun bt138 => ((prop_Prop.f 3 y124 (([(⟨2, 0⟩ : S32)] : List (S32)))).bind fun bt146 => ((chalklineref19_Steps.f k t116 (([(⟨1, (-1)⟩ : S32), (⟨2, 0⟩ : S32), (⟨3, 1⟩ : S32)] : List (S32)))).bind fun t154 => ((prop_Levels.f k t116).bind fun t155 => (if (bt127.1.length : Int) < 2 then (chalklinelaw19_live.j0 k t116 t119 t120 bt127.2.2 bt138.2.1 bt138.2.2 bt146.2.2 t154 t155 true 3 y124) else (if bt127.2.1 < 0 then (chalklinelaw19_live.j0 k t116 t119 t120 bt127.2.2 bt138.2.1 bt138.2.2 bt146.2.2 t154 t155 true 3 y124) else (if bt127.2.1 > 2 then (chalklinelaw19_live.j0 k t116 t119 t120 bt127.2.2 bt138.2.1 bt138.2.2 bt146.2.2 t154 t155 true 3 y124) else (chalklinelaw19_live.j0 k t116 t119 t120 bt127.2.2 bt138.2.1 bt138.2.2 bt146.2.2 t154 t155 ((t155.length : Int) != 3) 3 y124))))))))) = some r := by first | (rw [hy124]; with_reducible exact H) | (have H2_ := (Option.bind_some _ _).symm.trans H; rw [hy124]; with_reducible exact H2_) | (have H2_ := (Option.bind_some _ _).symm.trans H; with_reducible exact H2_) | with_reducible exact H | (rw [hy124]; exact H) | exact H
    have Ny124 := Aside0.mk hy124
    clear hy124
    replace H := Option.bind_eq_some_iff.mp H
    obtain ⟨⟨t127, t130, t131⟩, A30, H⟩ := H
    replace H : ((prop_Prop.f 0 (([(([] : List Int))] : List (List Int))) ([] : List (S32))).bind fun bt138 => ((prop_Prop.f 3 y124 (([(⟨2, 0⟩ : S32)] : List (S32)))).bind fun bt146 => ((chalklineref19_Steps.f k t116 (([(⟨1, (-1)⟩ : S32), (⟨2, 0⟩ : S32), (⟨3, 1⟩ : S32)] : List (S32)))).bind fun t154 => ((prop_Levels.f k t116).bind fun t155 => (if (t127.length : Int) < 2 then (chalklinelaw19_live.j0 k t116 t119 t120 t131 bt138.2.1 bt138.2.2 bt146.2.2 t154 t155 true 3 y124) else (if t130 < 0 then (chalklinelaw19_live.j0 k t116 t119 t120 t131 bt138.2.1 bt138.2.2 bt146.2.2 t154 t155 true 3 y124) else (if t130 > 2 then (chalklinelaw19_live.j0 k t116 t119 t120 t131 bt138.2.1 bt138.2.2 bt146.2.2 t154 t155 true 3 y124) else (chalklinelaw19_live.j0 k t116 t119 t120 t131 bt138.2.1 bt138.2.2 bt146.2.2 t154 t155 ((t155.length : Int) != 3) 3 y124)))))))) = some r := H
    have A3 := Aside0.mk A30
    clear A30
    obtain ⟨y132, hy132⟩ : ∃ y_ : List Int, y_ = (([] : List Int)) := ⟨_, rfl⟩
    replace H : ((prop_Prop.f 0 (([y132] : List (List Int))) ([] : List (S32))).bind fun bt138 => ((prop_Prop.f 3 y124 (([(⟨2, 0⟩ : S32)] : List (S32)))).bind fun bt146 => ((chalklineref19_Steps.f k t116 (([(⟨1, (-1)⟩ : S32), (⟨2, 0⟩ : S32), (⟨3, 1⟩ : S32)] : List (S32)))).bind fun t154 => ((prop_Levels.f k t116).bind fun t155 => (if (t127.length : Int) < 2 then (chalklinelaw19_live.j0 k t116 t119 t120 t131 bt138.2.1 bt138.2.2 bt146.2.2 t154 t155 true 3 y124) else (if t130 < 0 then (chalklinelaw19_live.j0 k t116 t119 t120 t131 bt138.2.1 bt138.2.2 bt146.2.2 t154 t155 true 3 y124) else (if t130 > 2 then (chalklinelaw19_live.j0 k t116 t119 t120 t131 bt138.2.1 bt138.2.2 bt146.2.2 t154 t155 true 3 y124) else (chalklinelaw19_live.j0 k t116 t119 t120 t131 bt138.2.1 bt138.2.2 bt146.2.2 t154 t155 ((t155.length : Int) != 3) 3 y124)))))))) = some r := by first | (rw [hy132]; with_reducible exact H) | (have H2_ := (Option.bind_some _ _).symm.trans H; rw [hy132]; with_reducible exact H2_) | (have H2_ := (Option.bind_some _ _).symm.trans H; with_reducible exact H2_) | with_reducible exact H | (rw [hy132]; exact H) | exact H
    have Ny132 := Aside0.mk hy132
    clear hy132
    obtain ⟨y135, hy135⟩ : ∃ y_ : List (List Int), y_ = (([y132] : List (List Int))) := ⟨_, rfl⟩
    replace H : ((prop_Prop.f 0 y135 ([] : List (S32))).bind fun bt138 => ((prop_Prop.f 3 y124 (([(⟨2, 0⟩ : S32)] : List (S32)))).bind fun bt146 => ((chalklineref19_Steps.f k t116 (([(⟨1, (-1)⟩ : S32), (⟨2, 0⟩ : S32), (⟨3, 1⟩ : S32)] : List (S32)))).bind fun t154 => ((prop_Levels.f k t116).bind fun t155 => (if (t127.length : Int) < 2 then (chalklinelaw19_live.j0 k t116 t119 t120 t131 bt138.2.1 bt138.2.2 bt146.2.2 t154 t155 true 3 y124) else (if t130 < 0 then (chalklinelaw19_live.j0 k t116 t119 t120 t131 bt138.2.1 bt138.2.2 bt146.2.2 t154 t155 true 3 y124) else (if t130 > 2 then (chalklinelaw19_live.j0 k t116 t119 t120 t131 bt138.2.1 bt138.2.2 bt146.2.2 t154 t155 true 3 y124) else (chalklinelaw19_live.j0 k t116 t119 t120 t131 bt138.2.1 bt138.2.2 bt146.2.2 t154 t155 ((t155.length : Int) != 3) 3 y124)))))))) = some r := by first | (rw [hy135]; with_reducible exact H) | (have H2_ := (Option.bind_some _ _).symm.trans H; rw [hy135]; with_reducible exact H2_) | (have H2_ := (Option.bind_some _ _).symm.trans H; with_reducible exact H2_) | with_reducible exact H | (rw [hy135]; exact H) | exact H
    have Ny135 := Aside0.mk hy135
    clear hy135
    replace H := Option.bind_eq_some_iff.mp H
    obtain ⟨⟨t138, t141, t142⟩, A40, H⟩ := H
    replace H : ((prop_Prop.f 3 y124 (([(⟨2, 0⟩ : S32)] : List (S32)))).bind fun bt146 => ((chalklineref19_Steps.f k t116 (([(⟨1, (-1)⟩ : S32), (⟨2, 0⟩ : S32), (⟨3, 1⟩ : S32)] : List (S32)))).bind fun t154 => ((prop_Levels.f k t116).bind fun t155 => (if (t127.length : Int) < 2 then (chalklinelaw19_live.j0 k t116 t119 t120 t131 t141 t142 bt146.2.2 t154 t155 true 3 y124) else (if t130 < 0 then (chalklinelaw19_live.j0 k t116 t119 t120 t131 t141 t142 bt146.2.2 t154 t155 true 3 y124) else (if t130 > 2 then (chalklinelaw19_live.j0 k t116 t119 t120 t131 t141 t142 bt146.2.2 t154 t155 true 3 y124) else (chalklinelaw19_live.j0 k t116 t119 t120 t131 t141 t142 bt146.2.2 t154 t155 ((t155.length : Int) != 3) 3 y124))))))) = some r := H
    have A4 := Aside0.mk A40
    clear A40
    obtain ⟨y143, hy143⟩ : ∃ y_ : List (S32), y_ = (([(⟨2, 0⟩ : S32)] : List (S32))) := ⟨_, rfl⟩
    replace H : ((prop_Prop.f 3 y124 y143).bind fun bt146 => ((chalklineref19_Steps.f k t116 (([(⟨1, (-1)⟩ : S32), (⟨2, 0⟩ : S32), (⟨3, 1⟩ : S32)] : List (S32)))).bind fun t154 => ((prop_Levels.f k t116).bind fun t155 => (if (t127.length : Int) < 2 then (chalklinelaw19_live.j0 k t116 t119 t120 t131 t141 t142 bt146.2.2 t154 t155 true 3 y124) else (if t130 < 0 then (chalklinelaw19_live.j0 k t116 t119 t120 t131 t141 t142 bt146.2.2 t154 t155 true 3 y124) else (if t130 > 2 then (chalklinelaw19_live.j0 k t116 t119 t120 t131 t141 t142 bt146.2.2 t154 t155 true 3 y124) else (chalklinelaw19_live.j0 k t116 t119 t120 t131 t141 t142 bt146.2.2 t154 t155 ((t155.length : Int) != 3) 3 y124))))))) = some r := by first | (rw [hy143]; with_reducible exact H) | (have H2_ := (Option.bind_some _ _).symm.trans H; rw [hy143]; with_reducible exact H2_) | (have H2_ := (Option.bind_some _ _).symm.trans H; with_reducible exact H2_) | with_reducible exact H | (rw [hy143]; exact H) | exact H
    have Ny143 := Aside0.mk hy143
    clear hy143
    replace H := Option.bind_eq_some_iff.mp H
    obtain ⟨⟨t146, t149, t150⟩, A50, H⟩ := H
    replace H : ((chalklineref19_Steps.f k t116 (([(⟨1, (-1)⟩ : S32), (⟨2, 0⟩ : S32), (⟨3, 1⟩ : S32)] : List (S32)))).bind fun t154 => ((prop_Levels.f k t116).bind fun t155 => (if (t127.length : Int) < 2 then (chalklinelaw19_live.j0 k t116 t119 t120 t131 t141 t142 t150 t154 t155 true 3 y124) else (if t130 < 0 then (chalklinelaw19_live.j0 k t116 t119 t120 t131 t141 t142 t150 t154 t155 true 3 y124) else (if t130 > 2 then (chalklinelaw19_live.j0 k t116 t119 t120 t131 t141 t142 t150 t154 t155 true 3 y124) else (chalklinelaw19_live.j0 k t116 t119 t120 t131 t141 t142 t150 t154 t155 ((t155.length : Int) != 3) 3 y124)))))) = some r := H
    have A5 := Aside0.mk A50
    clear A50
    obtain ⟨y151, hy151⟩ : ∃ y_ : List (S32), y_ = (([(⟨1, (-1)⟩ : S32), (⟨2, 0⟩ : S32), (⟨3, 1⟩ : S32)] : List (S32))) := ⟨_, rfl⟩
    replace H : ((chalklineref19_Steps.f k t116 y151).bind fun t154 => ((prop_Levels.f k t116).bind fun t155 => (if (t127.length : Int) < 2 then (chalklinelaw19_live.j0 k t116 t119 t120 t131 t141 t142 t150 t154 t155 true 3 y124) else (if t130 < 0 then (chalklinelaw19_live.j0 k t116 t119 t120 t131 t141 t142 t150 t154 t155 true 3 y124) else (if t130 > 2 then (chalklinelaw19_live.j0 k t116 t119 t120 t131 t141 t142 t150 t154 t155 true 3 y124) else (chalklinelaw19_live.j0 k t116 t119 t120 t131 t141 t142 t150 t154 t155 ((t155.length : Int) != 3) 3 y124)))))) = some r := by first | (rw [hy151]; with_reducible exact H) | (have H2_ := (Option.bind_some _ _).symm.trans H; rw [hy151]; with_reducible exact H2_) | (have H2_ := (Option.bind_some _ _).symm.trans H; with_reducible exact H2_) | with_reducible exact H | (rw [hy151]; exact H) | exact H
    have Ny151 := Aside0.mk hy151
    clear hy151
    replace H := Option.bind_eq_some_iff.mp H
    obtain ⟨t154, A60, H⟩ := H
    replace H : ((prop_Levels.f k t116).bind fun t155 => (if (t127.length : Int) < 2 then (chalklinelaw19_live.j0 k t116 t119 t120 t131 t141 t142 t150 t154 t155 true 3 y124) else (if t130 < 0 then (chalklinelaw19_live.j0 k t116 t119 t120 t131 t141 t142 t150 t154 t155 true 3 y124) else (if t130 > 2 then (chalklinelaw19_live.j0 k t116 t119 t120 t131 t141 t142 t150 t154 t155 true 3 y124) else (chalklinelaw19_live.j0 k t116 t119 t120 t131 t141 t142 t150 t154 t155 ((t155.length : Int) != 3) 3 y124))))) = some r := H
    have A6 := Aside0.mk A60
    clear A60
    replace H := Option.bind_eq_some_iff.mp H
    obtain ⟨t155, A70, H⟩ := H
    replace H : (if (t127.length : Int) < 2 then (chalklinelaw19_live.j0 k t116 t119 t120 t131 t141 t142 t150 t154 t155 true 3 y124) else (if t130 < 0 then (chalklinelaw19_live.j0 k t116 t119 t120 t131 t141 t142 t150 t154 t155 true 3 y124) else (if t130 > 2 then (chalklinelaw19_live.j0 k t116 t119 t120 t131 t141 t142 t150 t154 t155 true 3 y124) else (chalklinelaw19_live.j0 k t116 t119 t120 t131 t141 t142 t150 t154 t155 ((t155.length : Int) != 3) 3 y124)))) = some r := H
    have A7 := Aside0.mk A70
    clear A70
    have HC8 := Aside0.mk H
    clear H
    go_enter Try.func11, Try.ntmps11
    go_upto_region 10 with (first | ((with_reducible refine gate_dst (N := 17) rfl ?_); (try (refine gate_guard (by rfl) ?_; dsimp only)); refine Kd.R_lit (Kd.int .i64) _ 3 ?hg (N := 17) ?hd (xs := ([(-1), 2] : List Int)) (inner := [.int .i64 (-1), .int .i64 2]) (ok := fun _ => True) (okp := fun _ => True) ?hr ?hp (fun _ hk => hk) trivial (Below.refl _ _) (Nat.le_refl _) (by simp) ?_; (case hd => rfl); (case hg => rfl); (case hr => first | (go_simp; done) | (go_simp; rfl)); (case hp => exact (Reps.one (show Kd.M (Kd.int .i64) _ _ _ (-1) [.int .i64 (-1)] from rfl) (Reps.one (show Kd.M (Kd.int .i64) _ _ _ 2 [.int .i64 2] from rfl) (Reps.none _ _)))); intro v104 w9 ho10 hb hg_ hnew_; clear hg_ hnew_; (first | rw [← Ny103.out] at ho10 | (simp only [Int.reduceToNat] at ho10; rw [← Ny103.out] at ho10)); have n0_ := Aside0.mk (Kd.R_lower ho10 (below_size (by repeat (first | (with_reducible first | exact HB.out | apply below_alloc | apply pw_below_drewN | apply below_drew1) | exact HB.out)))); have n1_ := Aside0.mk (below_step (by repeat (first | (with_reducible first | exact HB.out | apply below_alloc | apply pw_below_drewN | apply below_drew1) | exact HB.out)) hb); clear HB; have HO105 := n0_; have HB := n1_; clear n0_ n1_; clear hb ho10) | ((with_reducible refine gate_dst (N := 18) rfl ?_); (try (refine gate_guard (by rfl) ?_; dsimp only)); refine Kd.R_lit (Kd.int .i64) _ 3 ?hg (N := 18) ?hd (xs := ([(-2), 3] : List Int)) (inner := [.int .i64 (-2), .int .i64 3]) (ok := fun _ => True) (okp := fun _ => True) ?hr ?hp (fun _ hk => hk) trivial (Below.refl _ _) (Nat.le_refl _) (by simp) ?_; (case hd => rfl); (case hg => rfl); (case hr => first | (go_simp; done) | (go_simp; rfl)); (case hp => exact (Reps.one (show Kd.M (Kd.int .i64) _ _ _ (-2) [.int .i64 (-2)] from rfl) (Reps.one (show Kd.M (Kd.int .i64) _ _ _ 3 [.int .i64 3] from rfl) (Reps.none _ _)))); intro v107 w11 ho12 hb hg_ hnew_; clear hg_ hnew_; (first | rw [← Ny106.out] at ho12 | (simp only [Int.reduceToNat] at ho12; rw [← Ny106.out] at ho12)); have n0_ := Aside0.mk (Kd.R_elder' (by (with_reducible repeat (first | apply Kd.R_alloc | apply Kd.R_drewN | apply Kd.R_drew)); exact HO105.out) (Kd.R_base ho12) hb); have n1_ := Aside0.mk (Kd.R_lower (Kd.R_new' ho12 (Kd.R_lt (by (with_reducible repeat (first | apply Kd.R_alloc | apply Kd.R_drewN | apply Kd.R_drew)); exact HO105.out))) (below_size (by repeat (first | (with_reducible first | exact HB.out | apply below_alloc | apply pw_below_drewN | apply below_drew1) | exact HB.out)))); have n2_ := Aside0.mk (below_step (by repeat (first | (with_reducible first | exact HB.out | apply below_alloc | apply pw_below_drewN | apply below_drew1) | exact HB.out)) hb); clear HO105; clear HB; have HO105 := n0_; have HO108 := n1_; have HB := n2_; clear n0_ n1_ n2_; clear hb ho12; obtain ⟨Ao13, co13, eo13⟩ := Kd.R_slice HO105.out; subst eo13; obtain ⟨Ao14, co14, eo14⟩ := Kd.R_slice HO108.out; subst eo14) | ((with_reducible refine gate_dst (N := 19) rfl ?_); (try (refine gate_guard (by rfl) ?_; dsimp only)); refine Kd.N_lit (Kd.slice 3 (Kd.int .i64)) _ 37 ?hg (N' := 19) ?hd (xs := ([y103, y106] : List (List Int))) (inner := [.slice Ao13 y103.length co13, .slice Ao14 y106.length co14]) (ok := (fun _ => True)) (okp := (fun _ => True)) ?hr ?hp (fun _ hk => hk) ((show ∀ k_, w11.heap.size ≤ k_ → (fun _ => True) k_ from fun k_ hk => trivial) _ (Nat.le_refl _)) (Below.refl _ _) (Nat.le_refl _) (by simp) ?_; (case hd => rfl); (case hg => rfl); (case hr => first | (go_simp; done) | (go_simp; rfl)); (case hp => exact (Reps.one (show Kd.FK (Kd.slice 3 (Kd.int .i64)) _ _ y103 [.slice Ao13 y103.length co13] from (Kd.FK_slice_mk (Kd.R_reads' (Kd.R_mono (ok' := (fun _ => True)) (HO105.out) (fun k_ hk => trivial))).2.1 (Kd.R_F (Kd.R_mono (ok' := (fun _ => True)) (HO105.out) (fun k_ hk => trivial))))) (Reps.one (show Kd.FK (Kd.slice 3 (Kd.int .i64)) _ _ y106 [.slice Ao14 y106.length co14] from (Kd.FK_slice_mk (Kd.R_reads' (Kd.R_mono (ok' := (fun _ => True)) (HO108.out) (fun k_ hk => trivial))).2.1 (Kd.R_F (Kd.R_mono (ok' := (fun _ => True)) (HO108.out) (fun k_ hk => trivial))))) (Reps.none _ _)))); intro v110 w15 ho16 hb hg_ hnew_; clear hg_ hnew_; (first | rw [← Ny109.out] at ho16 | (simp only [Int.reduceToNat] at ho16; rw [← Ny109.out] at ho16)); have n0_ := Aside0.mk (Kd.N_lower ho16 (below_size (by repeat (first | (with_reducible first | exact HB.out | apply below_alloc | apply pw_below_drewN | apply below_drew1) | exact HB.out)))); have n1_ := Aside0.mk (below_step (by repeat (first | (with_reducible first | exact HB.out | apply below_alloc | apply pw_below_drewN | apply below_drew1) | exact HB.out)) hb); clear HB; clear HO105; clear HO108; have HO111 := n0_; have HB := n1_; clear n0_ n1_; clear hb ho16; obtain ⟨Ao17, co17, eo17⟩ := Kd.N_slice HO111.out; subst eo17) | ((with_reducible refine gate_dst (N := 1) rfl ?_); (try (refine gate_guard (by rfl) ?_; dsimp only)); refine box_event ?hg (N := 1) ?hd (cs := #[.int .i64 0, .slice none 0 0]) (t := 24) ?hr ?_; (case hd => rfl); (case hg => rfl); (case hr => first | (go_simp; done) | (go_simp; rfl)); intro gb112 hg w18 hbox hb; have n0_ := Aside0.mk (Kd.N_below (Kd.N_elderB (by (with_reducible repeat (first | apply Kd.N_alloc | apply Kd.N_drewN | apply Kd.N_drew)); exact HO111.out) gb112 (Nat.le_of_eq hg.symm)) hb); have n1_ := Aside0.mk (below_step (by repeat (first | (with_reducible first | exact HB.out | apply below_alloc | apply pw_below_drewN | apply below_drew1) | exact HB.out)) hb); have n2_ := Aside0.mk (hbox); have n3_ := Aside0.mk ((by rw [hg]; exact (below_size (by repeat (first | (with_reducible first | exact HB.out | apply below_alloc | apply pw_below_drewN | apply below_drew1) | exact HB.out))) : w.heap.size ≤ gb112)); have n4_ := Aside0.mk ((by rw [hg]; exact (below_size (by repeat (first | (with_reducible first | exact HB.out | apply below_alloc | apply pw_below_drewN | apply below_drew1) | exact HB.out))) : w.heap.size ≤ gb112)); clear HO111; clear HB; have HO111 := n0_; have HB := n1_; have BK112 := n2_; have GW112 := n3_; have GE112 := n4_; clear n0_ n1_ n2_ n3_ n4_; clear hb hbox hg; have hcz19_0 : w18.cell? ⟨gb112, 0, none⟩ = some (.int .i64 0) := (blk_cell BK112.out 0).trans rfl; have hcz19_1 : w18.cell? ⟨gb112, 1, none⟩ = some (.slice none 0 0) := (blk_cell BK112.out 1).trans rfl; have hfz19_0 := blk_frozen BK112.out 0; have hfz19_1 := blk_frozen BK112.out 1) | ((with_reducible refine gate_dst (N := 22) rfl ?_); (try (refine gate_guard (by rfl) ?_; dsimp only)); refine Kd.R_lit k32 _ 32 ?hg (N := 22) ?hd (xs := ([(⟨1, (-1)⟩ : S32)] : List (S32))) (inner := [.int .i64 1, .int .i64 (-1)]) (ok := fun _ => True) (okp := fun _ => True) ?hr ?hp (fun _ hk => hk) trivial (Below.refl _ _) (Nat.le_refl _) (by simp) ?_; (case hd => rfl); (case hg => rfl); (case hr => first | (go_simp; done) | (go_simp; rfl)); (case hp => exact (Reps.c2 (show Kd.M k32 _ _ _ (⟨1, (-1)⟩ : S32) [.int .i64 1, .int .i64 (-1)] from (k32_mkM _ _ _ (⟨1, (-1)⟩ : S32) )) (Reps.none _ _))); intro v114 w20 ho21 hb hg_ hnew_; clear hg_ hnew_; (first | rw [← Ny113.out] at ho21 | (simp only [Int.reduceToNat] at ho21; rw [← Ny113.out] at ho21)); have n0_ := Aside0.mk (Kd.N_elder' (by (with_reducible repeat (first | apply Kd.N_alloc | apply Kd.N_drewN | apply Kd.N_drew)); exact (Kd.N_mono (Kd.N_far (p := ⟨gb112, 1, none⟩) (Kd.N_far (p := ⟨gb112, 0, none⟩) (Kd.N_mono HO111.out (fun k_ hk => (⟨hk, hk.2⟩ : _ ∧ k_ ≠ gb112))) (fun _ hk => hk.2) (.int .i64 3)) (fun _ hk => hk.2) (.slice Ao17 y109.length co17)) (fun _ h_ => h_.1))) (Kd.R_base ho21) hb); have n1_ := Aside0.mk (Kd.R_lower ho21 (below_size (by repeat (first | (with_reducible first | exact HB.out | apply below_alloc | apply pw_below_drewN | apply below_drew1 | refine below_set ?_ GE112.out) | exact HB.out)))); have n2_ := Aside0.mk (blk_below (g := gb112) (o := .cells #[.int .i64 3, .slice Ao17 y109.length co17] 24 (0, 0)) (by (with_reducible repeat (first | refine blk_drewN ?_ _ | refine blk_drew ?_ | refine blk_alloc ?_ _)); refine blk_put (cs := #[.int .i64 3, .slice none 0 0]) ?_ 1 _ rfl; (with_reducible repeat (first | refine blk_drewN ?_ _ | refine blk_drew ?_ | refine blk_alloc ?_ _)); refine blk_put (cs := #[.int .i64 0, .slice none 0 0]) ?_ 0 _ rfl; (with_reducible repeat (first | refine blk_drewN ?_ _ | refine blk_drew ?_ | refine blk_alloc ?_ _)); exact BK112.out) hb); have n3_ := Aside0.mk (below_step (by repeat (first | (with_reducible first | exact HB.out | apply below_alloc | apply pw_below_drewN | apply below_drew1 | refine below_set ?_ GE112.out) | exact HB.out)) hb); clear HO111; clear BK112; clear HB; have HO111 := n0_; have HO115 := n1_; have BK112 := n2_; have HB := n3_; clear n0_ n1_ n2_ n3_; clear hb ho21; have hcz22_0 : w20.cell? ⟨gb112, 0, none⟩ = some (.int .i64 3) := (blk_cell BK112.out 0).trans rfl; have hcz22_1 : w20.cell? ⟨gb112, 1, none⟩ = some (.slice Ao17 y109.length co17) := (blk_cell BK112.out 1).trans rfl; have hfz22_0 := blk_frozen BK112.out 0; have hfz22_1 := blk_frozen BK112.out 1; obtain ⟨Ao23, co23, eo23⟩ := Kd.R_slice HO115.out; subst eo23) | ((with_reducible refine gate_callee (f := 14) rfl ?_); refine goesL_ (some 26) rfl rfl Try.func14 (by kernel_rfl) rfl #[.agg #[.int .i64 3, .slice Ao17 y109.length co17], .slice Ao23 y113.length co23] rfl (by (try simp only [List.map_toArray, List.map_cons, List.map_nil]); first | done | rfl | (simp only [List.length_drop, List.length_take]; rfl)) ?_; (with_reducible refine (prop_Prop.calls 3 _ _ y109 _ _ y113 t116 t119 t120 _ ?side1 ?side2 ?side3 ?side4 A1.out).mono ?_); (case side1 => repeat (first | exact (Kd.N_reads' HO111.out).2.2 | (with_reducible refine Kd.C_alloc ?_ _) | (with_reducible refine Kd.C_drewN ?_ _) | (with_reducible refine Kd.C_drew ?_))); (case side2 => exact (Kd.N_reads' HO111.out).2.1); (case side3 => repeat (first | exact (Kd.R_reads' HO115.out).2.2 | (with_reducible refine Kd.C_alloc ?_ _) | (with_reducible refine Kd.C_drewN ?_ _) | (with_reducible refine Kd.C_drew ?_))); (case side4 => exact (Kd.R_reads' HO115.out).2.1); rintro e w24 ⟨v117, rfl, ho0, hb⟩; refine ⟨_, rfl, ?_⟩; have n0_ := Aside0.mk (Kd.N_elder' (by (with_reducible repeat (first | apply Kd.N_alloc | apply Kd.N_drewN | apply Kd.N_drew)); exact HO111.out) (Kd.R_base ho0) hb); have n1_ := Aside0.mk (Kd.R_elder' (by (with_reducible repeat (first | apply Kd.R_alloc | apply Kd.R_drewN | apply Kd.R_drew)); exact HO115.out) (Kd.R_base ho0) hb); have n2_ := Aside0.mk (Kd.R_lower (Kd.R_new' ho0 (Kd.R_lt (by (with_reducible repeat (first | apply Kd.R_alloc | apply Kd.R_drewN | apply Kd.R_drew)); exact HO115.out))) (below_size (by repeat (first | (with_reducible first | exact HB.out | apply below_alloc | apply pw_below_drewN | apply below_drew1 | refine below_set ?_ GE112.out) | exact HB.out)))); have n3_ := Aside0.mk (blk_below (g := gb112) (o := .cells #[.int .i64 3, .slice Ao17 y109.length co17] 24 (0, 0)) (by (with_reducible repeat (first | refine blk_drewN ?_ _ | refine blk_drew ?_ | refine blk_alloc ?_ _)); exact BK112.out) hb); have n4_ := Aside0.mk (below_step (by repeat (first | (with_reducible first | exact HB.out | apply below_alloc | apply pw_below_drewN | apply below_drew1 | refine below_set ?_ GE112.out) | exact HB.out)) hb); clear HO111; clear HO115; clear BK112; clear HB; have HO111 := n0_; have HO115 := n1_; have HO118 := n2_; have BK112 := n3_; have HB := n4_; clear n0_ n1_ n2_ n3_ n4_; (try clear hb); (try clear hb2); (try clear hk); (try clear hi); (try clear ho0); have hcz25_0 : w24.cell? ⟨gb112, 0, none⟩ = some (.int .i64 3) := (blk_cell BK112.out 0).trans rfl; have hcz25_1 : w24.cell? ⟨gb112, 1, none⟩ = some (.slice Ao17 y109.length co17) := (blk_cell BK112.out 1).trans rfl; have hfz25_0 := blk_frozen BK112.out 0; have hfz25_1 := blk_frozen BK112.out 1) | ((with_reducible refine gate_dst (N := 32) rfl ?_); (try (refine gate_guard (by rfl) ?_; dsimp only)); refine Kd.R_lit (Kd.int .i64) _ 3 ?hg (N := 32) ?hd (xs := ([(-1), (-3)] : List Int)) (inner := [.int .i64 (-1), .int .i64 (-3)]) (ok := fun _ => True) (okp := fun _ => True) ?hr ?hp (fun _ hk => hk) trivial (Below.refl _ _) (Nat.le_refl _) (by simp) ?_; (case hd => rfl); (case hg => rfl); (case hr => first | (go_simp; done) | (go_simp; rfl)); (case hp => exact (Reps.one (show Kd.M (Kd.int .i64) _ _ _ (-1) [.int .i64 (-1)] from rfl) (Reps.one (show Kd.M (Kd.int .i64) _ _ _ (-3) [.int .i64 (-3)] from rfl) (Reps.none _ _)))); intro v122 w26 ho27 hb hg_ hnew_; clear hg_ hnew_; (first | rw [← Ny121.out] at ho27 | (simp only [Int.reduceToNat] at ho27; rw [← Ny121.out] at ho27)); have n0_ := Aside0.mk (Kd.N_elder' (by (with_reducible repeat (first | apply Kd.N_alloc | apply Kd.N_drewN | apply Kd.N_drew)); exact HO111.out) (Kd.R_base ho27) hb); have n1_ := Aside0.mk (Kd.R_below (by (with_reducible repeat (first | apply Kd.R_alloc | apply Kd.R_drewN | apply Kd.R_drew)); exact HO115.out) hb); have n2_ := Aside0.mk (Kd.R_below (by (with_reducible repeat (first | apply Kd.R_alloc | apply Kd.R_drewN | apply Kd.R_drew)); exact HO118.out) hb); have n3_ := Aside0.mk (Kd.R_lower ho27 (below_size (by repeat (first | (with_reducible first | exact HB.out | apply below_alloc | apply pw_below_drewN | apply below_drew1 | refine below_set ?_ GE112.out) | exact HB.out)))); have n4_ := Aside0.mk (blk_below (g := gb112) (o := .cells #[.int .i64 3, .slice Ao17 y109.length co17] 24 (0, 0)) (by (with_reducible repeat (first | refine blk_drewN ?_ _ | refine blk_drew ?_ | refine blk_alloc ?_ _)); exact BK112.out) hb); have n5_ := Aside0.mk (below_step (by repeat (first | (with_reducible first | exact HB.out | apply below_alloc | apply pw_below_drewN | apply below_drew1 | refine below_set ?_ GE112.out) | exact HB.out)) hb); clear HO111; clear HO115; clear HO118; clear BK112; clear HB; have HO111 := n0_; have HO115 := n1_; have HO118 := n2_; have HO123 := n3_; have BK112 := n4_; have HB := n5_; clear n0_ n1_ n2_ n3_ n4_ n5_; clear hb ho27; obtain ⟨Ao29, co29, eo29⟩ := Kd.R_slice HO123.out; subst eo29) | ((with_reducible refine gate_builtin (b := .append) (xs := #[.tmp 31, .tmp 33]) rfl ?_); (try (refine gate_guard (by rfl) ?_; dsimp only)); at_builtin; refine Kd.N_append (Kd.slice 3 (Kd.int .i64)) (w0 := w) w.heap.size rfl (.tmp 31) (.tmp 33) 22 37 (.slice none 0 0) 24 rfl Try.underlying22 info37 rfl (by decide) (by omega) (.slice Ao17 y109.length co17) y109 y121 [.slice Ao29 y121.length co29] (fun k_ => some k_ ≠ (.slice Ao23 y113.length co23 : Value).ownBlock ∧ some k_ ≠ (v117 : Value).ownBlock ∧ k_ ≠ gb112) (fun k_ => ((fun k_ => some k_ ≠ (.slice Ao23 y113.length co23 : Value).ownBlock ∧ some k_ ≠ (v117 : Value).ownBlock ∧ k_ ≠ gb112)) k_ ∧ some k_ ≠ (.slice Ao17 y109.length co17 : Value).ownBlock) rfl rfl ?aP (fun _ hk => hk) ?aF ?aO ?aB ?aS ?aL ?_; (case aP => exact (Kd.FK_slice_mk (Kd.R_reads' (Kd.R_mono (ok' := (fun k_ => ((fun k_ => some k_ ≠ (.slice Ao23 y113.length co23 : Value).ownBlock ∧ some k_ ≠ (v117 : Value).ownBlock ∧ k_ ≠ gb112)) k_ ∧ some k_ ≠ (.slice Ao17 y109.length co17 : Value).ownBlock)) (Kd.R_types (Kd.R_apart' (Kd.R_apart' (Kd.R_apart' (HO123.out) (Kd.R_typed HO115.out) (by decide)) (Kd.R_typed HO118.out) (by decide)) (Kd.N_typed HO111.out) (by decide)) BK112.out (by decide)) (fun k_ hk => ⟨⟨hk.1.1.1.2, ⟨hk.1.1.2, hk.2⟩⟩, hk.1.2⟩))).2.1 (Kd.R_F (Kd.R_mono (ok' := (fun k_ => ((fun k_ => some k_ ≠ (.slice Ao23 y113.length co23 : Value).ownBlock ∧ some k_ ≠ (v117 : Value).ownBlock ∧ k_ ≠ gb112)) k_ ∧ some k_ ≠ (.slice Ao17 y109.length co17 : Value).ownBlock)) (Kd.R_types (Kd.R_apart' (Kd.R_apart' (Kd.R_apart' (HO123.out) (Kd.R_typed HO115.out) (by decide)) (Kd.R_typed HO118.out) (by decide)) (Kd.N_typed HO111.out) (by decide)) BK112.out (by decide)) (fun k_ hk => ⟨⟨hk.1.1.1.2, ⟨hk.1.1.2, hk.2⟩⟩, hk.1.2⟩))))); (case aB => exact (by repeat (first | (with_reducible first | exact HB.out | apply below_alloc | apply pw_below_drewN | apply below_drew1 | refine below_set ?_ GE112.out) | exact HB.out))); (case aF => exact (fun k_ hk => ⟨Kd.fresh' (Kd.R_lt (by (with_reducible repeat (first | apply Kd.R_alloc | apply Kd.R_drewN | apply Kd.R_drew)); exact HO115.out)) k_ hk, Kd.fresh' (Kd.R_lt (by (with_reducible repeat (first | apply Kd.R_alloc | apply Kd.R_drewN | apply Kd.R_drew)); exact HO118.out)) k_ hk, Kd.freshB (g := gb112) (o := .cells #[.int .i64 3, .slice Ao17 y109.length co17] 24 (0, 0)) (by (with_reducible repeat (first | refine blk_drewN ?_ _ | refine blk_drew ?_ | refine blk_alloc ?_ _)); exact BK112.out) k_ hk⟩)); (case aO => exact (by (with_reducible repeat (first | apply Kd.N_alloc | apply Kd.N_drewN | apply Kd.N_drew)); exact Kd.N_mono HO111.out (fun _ hk => ⟨hk.1.1.2, ⟨hk.1.2, hk.1.1.1.2⟩⟩))); (case aS => exact (below_size (by repeat (first | (with_reducible first | exact HB.out | apply below_alloc | apply pw_below_drewN | apply below_drew1 | refine below_set ?_ GE112.out) | exact HB.out)))); (case aL => have := LMc2.out; omega); intro v125 w28 ho hb hg hat; rw [← Ny124.out] at ho; have n0_ := Aside0.mk (blk_grown (g := gb112) (o := .cells #[.int .i64 3, .slice Ao17 y109.length co17] 24 (0, 0)) (by (with_reducible repeat (first | refine blk_drewN ?_ _ | refine blk_drew ?_ | refine blk_alloc ?_ _)); exact BK112.out) hg (Kd.N_ne HO111.out BK112.out (by decide))); have n1_ := Aside0.mk (Kd.R_over' (by (with_reducible repeat (first | apply Kd.R_alloc | apply Kd.R_drewN | apply Kd.R_drew)); exact HO115.out) (Kd.N_typed (by (with_reducible repeat (first | apply Kd.N_alloc | apply Kd.N_drewN | apply Kd.N_drew)); exact HO111.out)) (by decide) hg); have n2_ := Aside0.mk (Kd.R_over' (by (with_reducible repeat (first | apply Kd.R_alloc | apply Kd.R_drewN | apply Kd.R_drew)); exact HO118.out) (Kd.N_typed (by (with_reducible repeat (first | apply Kd.N_alloc | apply Kd.N_drewN | apply Kd.N_drew)); exact HO111.out)) (by decide) hg); have n3_ := Aside0.mk (hb); have n4_ := Aside0.mk (ho); clear BK112; clear HO115; clear HO118; clear HB; clear HO111; clear HO123; have BK112 := n0_; have HO115 := n1_; have HO118 := n2_; have HB := n3_; have HO126 := n4_; clear n0_ n1_ n2_ n3_ n4_; clear ho hb hg hat; obtain ⟨Ao30, co30, eo30⟩ := Kd.N_slice HO126.out; subst eo30; have hcz31_0 : w28.cell? ⟨gb112, 0, none⟩ = some (.int .i64 3) := (blk_cell BK112.out 0).trans rfl; have hcz31_1 : w28.cell? ⟨gb112, 1, none⟩ = some (.slice Ao17 y109.length co17) := (blk_cell BK112.out 1).trans rfl; have hfz31_0 := blk_frozen BK112.out 0; have hfz31_1 := blk_frozen BK112.out 1) | ((with_reducible refine gate_callee (f := 14) rfl ?_); refine goesL_ (some 39) rfl rfl Try.func14 (by kernel_rfl) rfl #[.agg #[.int .i64 3, .slice Ao30 y124.length co30], .slice Ao23 y113.length co23] rfl (by (try simp only [List.map_toArray, List.map_cons, List.map_nil]); first | done | rfl | (simp only [List.length_drop, List.length_take]; rfl)) ?_; (with_reducible refine (prop_Prop.calls 3 _ _ y124 _ _ y113 t127 t130 t131 _ ?side1 ?side2 ?side3 ?side4 A3.out).mono ?_); (case side1 => refine (Kd.N_reads' (e := 37) (base := w.heap.size) (ok := fun k_ => (some k_ ≠ (.slice Ao23 y113.length co23 : Value).ownBlock ∧ (some k_ ≠ (v117 : Value).ownBlock ∧ k_ ≠ gb112))) (n := y124.length) (c := co30) ?_).2.2; exact (by (with_reducible repeat (first | apply Kd.N_alloc | apply Kd.N_drewN | apply Kd.N_drew)); exact (Kd.N_mono (Kd.N_far (p := ⟨gb112, 1, none⟩) (Kd.N_mono HO126.out (fun k_ hk => (⟨hk, hk.2.2⟩ : _ ∧ k_ ≠ gb112))) (fun _ hk => hk.2) (.slice Ao30 y124.length co30)) (fun _ h_ => h_.1)))); (case side2 => exact (Kd.N_reads' HO126.out).2.1); (case side3 => refine (Kd.R_reads' (e := 32) (base := w.heap.size) (ok := fun k_ => (True ∧ some k_ ≠ (v117 : Value).ownBlock)) (n := y113.length) (c := co23) ?_).2.2; exact (by (with_reducible repeat (first | apply Kd.R_alloc | apply Kd.R_drewN | apply Kd.R_drew)); exact (Kd.R_mono (Kd.R_far (p := ⟨gb112, 1, none⟩) (Kd.R_types HO115.out BK112.out (by decide)) (fun _ hk => hk.2) (.slice Ao30 y124.length co30)) (fun _ h_ => h_.1)))); (case side4 => exact (Kd.R_reads' HO115.out).2.1); rintro e w32 ⟨v128, rfl, ho0, hb⟩; refine ⟨_, rfl, ?_⟩; have n0_ := Aside0.mk (Kd.R_elder' (by (with_reducible repeat (first | apply Kd.R_alloc | apply Kd.R_drewN | apply Kd.R_drew)); exact (Kd.R_mono (Kd.R_far (p := ⟨gb112, 1, none⟩) (Kd.R_types HO115.out BK112.out (by decide)) (fun _ hk => hk.2) (.slice Ao30 y124.length co30)) (fun _ h_ => h_.1))) (Kd.R_base ho0) hb); have n1_ := Aside0.mk (Kd.R_elder' (by (with_reducible repeat (first | apply Kd.R_alloc | apply Kd.R_drewN | apply Kd.R_drew)); exact (Kd.R_mono (Kd.R_far (p := ⟨gb112, 1, none⟩) (Kd.R_types HO118.out BK112.out (by decide)) (fun _ hk => hk.2) (.slice Ao30 y124.length co30)) (fun _ h_ => h_.1))) (Kd.R_base ho0) hb); have n2_ := Aside0.mk (Kd.N_elder' (by (with_reducible repeat (first | apply Kd.N_alloc | apply Kd.N_drewN | apply Kd.N_drew)); exact (Kd.N_mono (Kd.N_far (p := ⟨gb112, 1, none⟩) (Kd.N_mono HO126.out (fun k_ hk => (⟨hk, hk.2.2⟩ : _ ∧ k_ ≠ gb112))) (fun _ hk => hk.2) (.slice Ao30 y124.length co30)) (fun _ h_ => h_.1))) (Kd.R_base ho0) hb); have n3_ := Aside0.mk (Kd.R_lower (Kd.R_new' (Kd.R_new' ho0 (Kd.R_lt (by (with_reducible repeat (first | apply Kd.R_alloc | apply Kd.R_drewN | apply Kd.R_drew)); exact (Kd.R_mono (Kd.R_far (p := ⟨gb112, 1, none⟩) (Kd.R_types HO115.out BK112.out (by decide)) (fun _ hk => hk.2) (.slice Ao30 y124.length co30)) (fun _ h_ => h_.1))))) (Kd.R_lt (by (with_reducible repeat (first | apply Kd.R_alloc | apply Kd.R_drewN | apply Kd.R_drew)); exact (Kd.R_mono (Kd.R_far (p := ⟨gb112, 1, none⟩) (Kd.R_types HO118.out BK112.out (by decide)) (fun _ hk => hk.2) (.slice Ao30 y124.length co30)) (fun _ h_ => h_.1))))) (below_size (by repeat (first | (with_reducible first | exact HB.out | apply below_alloc | apply pw_below_drewN | apply below_drew1 | refine below_set ?_ GE112.out) | exact HB.out)))); have n4_ := Aside0.mk (blk_below (g := gb112) (o := .cells #[.int .i64 3, .slice Ao30 y124.length co30] 24 (0, 0)) (by (with_reducible repeat (first | refine blk_drewN ?_ _ | refine blk_drew ?_ | refine blk_alloc ?_ _)); refine blk_put (cs := #[.int .i64 3, .slice Ao17 y109.length co17]) ?_ 1 _ rfl; (with_reducible repeat (first | refine blk_drewN ?_ _ | refine blk_drew ?_ | refine blk_alloc ?_ _)); exact BK112.out) hb); have n5_ := Aside0.mk (below_step (by repeat (first | (with_reducible first | exact HB.out | apply below_alloc | apply pw_below_drewN | apply below_drew1 | refine below_set ?_ GE112.out) | exact HB.out)) hb); clear HO115; clear HO118; clear HO126; clear BK112; clear HB; have HO115 := n0_; have HO118 := n1_; have HO126 := n2_; have HO129 := n3_; have BK112 := n4_; have HB := n5_; clear n0_ n1_ n2_ n3_ n4_ n5_; (try clear hb); (try clear hb2); (try clear hk); (try clear hi); (try clear ho0)) | ((with_reducible refine gate_dst (N := 44) rfl ?_); (try (refine gate_guard (by rfl) ?_; dsimp only)); refine Kd.R_lit (Kd.int .i64) _ 3 ?hg (N := 44) ?hd (xs := ([] : List Int)) (inner := []) (ok := fun _ => True) (okp := fun _ => True) ?hr ?hp (fun _ hk => hk) trivial (Below.refl _ _) (Nat.le_refl _) (by simp) ?_; (case hd => rfl); (case hg => rfl); (case hr => first | (go_simp; done) | (go_simp; rfl)); (case hp => exact (Reps.none _ _)); intro v133 w33 ho34 hb hg_ hnew_; clear hg_ hnew_; (first | rw [← Ny132.out] at ho34 | (simp only [Int.reduceToNat] at ho34; rw [← Ny132.out] at ho34)); have n0_ := Aside0.mk (Kd.R_below (by (with_reducible repeat (first | apply Kd.R_alloc | apply Kd.R_drewN | apply Kd.R_drew)); exact HO115.out) hb); have n1_ := Aside0.mk (Kd.R_below (by (with_reducible repeat (first | apply Kd.R_alloc | apply Kd.R_drewN | apply Kd.R_drew)); exact HO118.out) hb); have n2_ := Aside0.mk (Kd.N_elder' (by (with_reducible repeat (first | apply Kd.N_alloc | apply Kd.N_drewN | apply Kd.N_drew)); exact HO126.out) (Kd.R_base ho34) hb); have n3_ := Aside0.mk (Kd.R_below (by (with_reducible repeat (first | apply Kd.R_alloc | apply Kd.R_drewN | apply Kd.R_drew)); exact HO129.out) hb); have n4_ := Aside0.mk (Kd.R_lower ho34 (below_size (by repeat (first | (with_reducible first | exact HB.out | apply below_alloc | apply pw_below_drewN | apply below_drew1 | refine below_set ?_ GE112.out) | exact HB.out)))); have n5_ := Aside0.mk (blk_below (g := gb112) (o := .cells #[.int .i64 3, .slice Ao30 y124.length co30] 24 (0, 0)) (by (with_reducible repeat (first | refine blk_drewN ?_ _ | refine blk_drew ?_ | refine blk_alloc ?_ _)); exact BK112.out) hb); have n6_ := Aside0.mk (below_step (by repeat (first | (with_reducible first | exact HB.out | apply below_alloc | apply pw_below_drewN | apply below_drew1 | refine below_set ?_ GE112.out) | exact HB.out)) hb); clear HO115; clear HO118; clear HO126; clear HO129; clear BK112; clear HB; have HO115 := n0_; have HO118 := n1_; have HO126 := n2_; have HO129 := n3_; have HO134 := n4_; have BK112 := n5_; have HB := n6_; clear n0_ n1_ n2_ n3_ n4_ n5_ n6_; clear hb ho34; obtain ⟨Ao35, co35, eo35⟩ := Kd.R_slice HO134.out; subst eo35) | ((with_reducible refine gate_dst (N := 45) rfl ?_); (try (refine gate_guard (by rfl) ?_; dsimp only)); refine Kd.N_lit (Kd.slice 3 (Kd.int .i64)) _ 37 ?hg (N' := 45) ?hd (xs := ([y132] : List (List Int))) (inner := [.slice Ao35 y132.length co35]) (ok := (fun k_ => some k_ ≠ (.slice Ao23 y113.length co23 : Value).ownBlock ∧ some k_ ≠ (v117 : Value).ownBlock ∧ some k_ ≠ (.slice Ao30 y124.length co30 : Value).ownBlock ∧ some k_ ≠ (v128 : Value).ownBlock ∧ k_ ≠ gb112)) (okp := (fun k_ => some k_ ≠ (.slice Ao23 y113.length co23 : Value).ownBlock ∧ some k_ ≠ (v117 : Value).ownBlock ∧ some k_ ≠ (.slice Ao30 y124.length co30 : Value).ownBlock ∧ some k_ ≠ (v128 : Value).ownBlock ∧ k_ ≠ gb112)) ?hr ?hp (fun _ hk => hk) ((show ∀ k_, w33.heap.size ≤ k_ → (fun k_ => some k_ ≠ (.slice Ao23 y113.length co23 : Value).ownBlock ∧ some k_ ≠ (v117 : Value).ownBlock ∧ some k_ ≠ (.slice Ao30 y124.length co30 : Value).ownBlock ∧ some k_ ≠ (v128 : Value).ownBlock ∧ k_ ≠ gb112) k_ from fun k_ hk => ⟨Kd.fresh' (Kd.R_lt (by (with_reducible repeat (first | apply Kd.R_alloc | apply Kd.R_drewN | apply Kd.R_drew)); exact HO115.out)) k_ hk, Kd.fresh' (Kd.R_lt (by (with_reducible repeat (first | apply Kd.R_alloc | apply Kd.R_drewN | apply Kd.R_drew)); exact HO118.out)) k_ hk, Kd.fresh' (Kd.N_lt (by (with_reducible repeat (first | apply Kd.N_alloc | apply Kd.N_drewN | apply Kd.N_drew)); exact HO126.out)) k_ hk, Kd.fresh' (Kd.R_lt (by (with_reducible repeat (first | apply Kd.R_alloc | apply Kd.R_drewN | apply Kd.R_drew)); exact HO129.out)) k_ hk, Kd.freshB (g := gb112) (o := .cells #[.int .i64 3, .slice Ao30 y124.length co30] 24 (0, 0)) (by (with_reducible repeat (first | refine blk_drewN ?_ _ | refine blk_drew ?_ | refine blk_alloc ?_ _)); exact BK112.out) k_ hk⟩) _ (Nat.le_refl _)) (Below.refl _ _) (Nat.le_refl _) (by simp) ?_; (case hd => rfl); (case hg => rfl); (case hr => first | (go_simp; done) | (go_simp; rfl)); (case hp => exact (Reps.one (show Kd.FK (Kd.slice 3 (Kd.int .i64)) _ _ y132 [.slice Ao35 y132.length co35] from (Kd.FK_slice_mk (Kd.R_reads' (Kd.R_mono (ok' := (fun k_ => some k_ ≠ (.slice Ao23 y113.length co23 : Value).ownBlock ∧ some k_ ≠ (v117 : Value).ownBlock ∧ some k_ ≠ (.slice Ao30 y124.length co30 : Value).ownBlock ∧ some k_ ≠ (v128 : Value).ownBlock ∧ k_ ≠ gb112)) (Kd.R_types (Kd.R_apart' (Kd.R_apart' (Kd.R_apart' (Kd.R_apart' (HO134.out) (Kd.R_typed HO115.out) (by decide)) (Kd.R_typed HO118.out) (by decide)) (Kd.N_typed HO126.out) (by decide)) (Kd.R_typed HO129.out) (by decide)) BK112.out (by decide)) (fun k_ hk => ⟨hk.1.1.1.1.2, ⟨hk.1.1.1.2, ⟨hk.1.1.2, ⟨hk.1.2, hk.2⟩⟩⟩⟩))).2.1 (Kd.R_F (Kd.R_mono (ok' := (fun k_ => some k_ ≠ (.slice Ao23 y113.length co23 : Value).ownBlock ∧ some k_ ≠ (v117 : Value).ownBlock ∧ some k_ ≠ (.slice Ao30 y124.length co30 : Value).ownBlock ∧ some k_ ≠ (v128 : Value).ownBlock ∧ k_ ≠ gb112)) (Kd.R_types (Kd.R_apart' (Kd.R_apart' (Kd.R_apart' (Kd.R_apart' (HO134.out) (Kd.R_typed HO115.out) (by decide)) (Kd.R_typed HO118.out) (by decide)) (Kd.N_typed HO126.out) (by decide)) (Kd.R_typed HO129.out) (by decide)) BK112.out (by decide)) (fun k_ hk => ⟨hk.1.1.1.1.2, ⟨hk.1.1.1.2, ⟨hk.1.1.2, ⟨hk.1.2, hk.2⟩⟩⟩⟩))))) (Reps.none _ _))); intro v136 w36 ho37 hb hg_ hnew_; clear hg_ hnew_; (first | rw [← Ny135.out] at ho37 | (simp only [Int.reduceToNat] at ho37; rw [← Ny135.out] at ho37)); have n0_ := Aside0.mk (Kd.R_below (by (with_reducible repeat (first | apply Kd.R_alloc | apply Kd.R_drewN | apply Kd.R_drew)); exact HO115.out) hb); have n1_ := Aside0.mk (Kd.R_below (by (with_reducible repeat (first | apply Kd.R_alloc | apply Kd.R_drewN | apply Kd.R_drew)); exact HO118.out) hb); have n2_ := Aside0.mk (Kd.N_elder' (by (with_reducible repeat (first | apply Kd.N_alloc | apply Kd.N_drewN | apply Kd.N_drew)); exact HO126.out) (Kd.N_base ho37) hb); have n3_ := Aside0.mk (Kd.R_below (by (with_reducible repeat (first | apply Kd.R_alloc | apply Kd.R_drewN | apply Kd.R_drew)); exact HO129.out) hb); have n4_ := Aside0.mk (Kd.N_lower ho37 (below_size (by repeat (first | (with_reducible first | exact HB.out | apply below_alloc | apply pw_below_drewN | apply below_drew1 | refine below_set ?_ GE112.out) | exact HB.out)))); have n5_ := Aside0.mk (blk_below (g := gb112) (o := .cells #[.int .i64 3, .slice Ao30 y124.length co30] 24 (0, 0)) (by (with_reducible repeat (first | refine blk_drewN ?_ _ | refine blk_drew ?_ | refine blk_alloc ?_ _)); exact BK112.out) hb); have n6_ := Aside0.mk (below_step (by repeat (first | (with_reducible first | exact HB.out | apply below_alloc | apply pw_below_drewN | apply below_drew1 | refine below_set ?_ GE112.out) | exact HB.out)) hb); clear HO115; clear HO118; clear HO126; clear HO129; clear BK112; clear HB; clear HO134; have HO115 := n0_; have HO118 := n1_; have HO126 := n2_; have HO129 := n3_; have HO137 := n4_; have BK112 := n5_; have HB := n6_; clear n0_ n1_ n2_ n3_ n4_ n5_ n6_; clear hb ho37; obtain ⟨Ao38, co38, eo38⟩ := Kd.N_slice HO137.out; subst eo38) | ((with_reducible refine gate_callee (f := 14) rfl ?_); refine goesL_ (some 47) rfl rfl Try.func14 (by kernel_rfl) rfl #[.agg #[.int .i64 0, .slice Ao38 y135.length co38], .slice none 0 0] rfl (by (try simp only [List.map_toArray, List.map_cons, List.map_nil]); first | done | rfl | (simp only [List.length_drop, List.length_take]; rfl)) ?_; (refine (prop_Prop.calls 0 _ _ y135 _ _ ([] : List (S32)) t138 t141 t142 _ ?side1 ?side2 ?side3 ?side4 A4.out).mono ?_); (case side1 => repeat (first | exact (Kd.N_reads' HO137.out).2.2 | (with_reducible refine Kd.C_alloc ?_ _) | (with_reducible refine Kd.C_drewN ?_ _) | (with_reducible refine Kd.C_drew ?_))); (case side2 => exact (Kd.N_reads' HO137.out).2.1); (case side3 => exact Kd.C_nil _ _); (case side4 => exact Nat.le_refl _); rintro e w39 ⟨v139, rfl, ho0, hb⟩; refine ⟨_, rfl, ?_⟩; have n0_ := Aside0.mk (Kd.R_elder' (by (with_reducible repeat (first | apply Kd.R_alloc | apply Kd.R_drewN | apply Kd.R_drew)); exact HO115.out) (Kd.R_base ho0) hb); have n1_ := Aside0.mk (Kd.R_elder' (by (with_reducible repeat (first | apply Kd.R_alloc | apply Kd.R_drewN | apply Kd.R_drew)); exact HO118.out) (Kd.R_base ho0) hb); have n2_ := Aside0.mk (Kd.N_elder' (by (with_reducible repeat (first | apply Kd.N_alloc | apply Kd.N_drewN | apply Kd.N_drew)); exact HO126.out) (Kd.R_base ho0) hb); have n3_ := Aside0.mk (Kd.R_elder' (by (with_reducible repeat (first | apply Kd.R_alloc | apply Kd.R_drewN | apply Kd.R_drew)); exact HO129.out) (Kd.R_base ho0) hb); have n4_ := Aside0.mk (Kd.N_elder' (by (with_reducible repeat (first | apply Kd.N_alloc | apply Kd.N_drewN | apply Kd.N_drew)); exact HO137.out) (Kd.R_base ho0) hb); have n5_ := Aside0.mk (Kd.R_lower (Kd.R_new' (Kd.R_new' (Kd.R_new' ho0 (Kd.R_lt (by (with_reducible repeat (first | apply Kd.R_alloc | apply Kd.R_drewN | apply Kd.R_drew)); exact HO115.out))) (Kd.R_lt (by (with_reducible repeat (first | apply Kd.R_alloc | apply Kd.R_drewN | apply Kd.R_drew)); exact HO118.out))) (Kd.R_lt (by (with_reducible repeat (first | apply Kd.R_alloc | apply Kd.R_drewN | apply Kd.R_drew)); exact HO129.out))) (below_size (by repeat (first | (with_reducible first | exact HB.out | apply below_alloc | apply pw_below_drewN | apply below_drew1 | refine below_set ?_ GE112.out) | exact HB.out)))); have n6_ := Aside0.mk (blk_below (g := gb112) (o := .cells #[.int .i64 3, .slice Ao30 y124.length co30] 24 (0, 0)) (by (with_reducible repeat (first | refine blk_drewN ?_ _ | refine blk_drew ?_ | refine blk_alloc ?_ _)); exact BK112.out) hb); have n7_ := Aside0.mk (below_step (by repeat (first | (with_reducible first | exact HB.out | apply below_alloc | apply pw_below_drewN | apply below_drew1 | refine below_set ?_ GE112.out) | exact HB.out)) hb); clear HO115; clear HO118; clear HO126; clear HO129; clear HO137; clear BK112; clear HB; have HO115 := n0_; have HO118 := n1_; have HO126 := n2_; have HO129 := n3_; have HO137 := n4_; have HO140 := n5_; have BK112 := n6_; have HB := n7_; clear n0_ n1_ n2_ n3_ n4_ n5_ n6_ n7_; (try clear hb); (try clear hb2); (try clear hk); (try clear hi); (try clear ho0); have hcz40_0 : w39.cell? ⟨gb112, 0, none⟩ = some (.int .i64 3) := (blk_cell BK112.out 0).trans rfl; have hcz40_1 : w39.cell? ⟨gb112, 1, none⟩ = some (.slice Ao30 y124.length co30) := (blk_cell BK112.out 1).trans rfl; have hfz40_0 := blk_frozen BK112.out 0; have hfz40_1 := blk_frozen BK112.out 1) | ((with_reducible refine gate_dst (N := 54) rfl ?_); (try (refine gate_guard (by rfl) ?_; dsimp only)); refine Kd.R_lit k32 _ 32 ?hg (N := 54) ?hd (xs := ([(⟨2, 0⟩ : S32)] : List (S32))) (inner := [.int .i64 2, .int .i64 0]) (ok := fun _ => True) (okp := fun _ => True) ?hr ?hp (fun _ hk => hk) trivial (Below.refl _ _) (Nat.le_refl _) (by simp) ?_; (case hd => rfl); (case hg => rfl); (case hr => first | (go_simp; done) | (go_simp; rfl)); (case hp => exact (Reps.c2 (show Kd.M k32 _ _ _ (⟨2, 0⟩ : S32) [.int .i64 2, .int .i64 0] from (k32_mkM _ _ _ (⟨2, 0⟩ : S32) )) (Reps.none _ _))); intro v144 w41 ho42 hb hg_ hnew_; clear hg_ hnew_; (first | rw [← Ny143.out] at ho42 | (simp only [Int.reduceToNat] at ho42; rw [← Ny143.out] at ho42)); have n0_ := Aside0.mk (Kd.R_elder' (by (with_reducible repeat (first | apply Kd.R_alloc | apply Kd.R_drewN | apply Kd.R_drew)); exact HO115.out) (Kd.R_base ho42) hb); have n1_ := Aside0.mk (Kd.R_elder' (by (with_reducible repeat (first | apply Kd.R_alloc | apply Kd.R_drewN | apply Kd.R_drew)); exact HO118.out) (Kd.R_base ho42) hb); have n2_ := Aside0.mk (Kd.N_elder' (by (with_reducible repeat (first | apply Kd.N_alloc | apply Kd.N_drewN | apply Kd.N_drew)); exact HO126.out) (Kd.R_base ho42) hb); have n3_ := Aside0.mk (Kd.R_elder' (by (with_reducible repeat (first | apply Kd.R_alloc | apply Kd.R_drewN | apply Kd.R_drew)); exact HO129.out) (Kd.R_base ho42) hb); have n4_ := Aside0.mk (Kd.N_elder' (by (with_reducible repeat (first | apply Kd.N_alloc | apply Kd.N_drewN | apply Kd.N_drew)); exact HO137.out) (Kd.R_base ho42) hb); have n5_ := Aside0.mk (Kd.R_elder' (by (with_reducible repeat (first | apply Kd.R_alloc | apply Kd.R_drewN | apply Kd.R_drew)); exact HO140.out) (Kd.R_base ho42) hb); have n6_ := Aside0.mk (Kd.R_lower (Kd.R_new' (Kd.R_new' (Kd.R_new' (Kd.R_new' ho42 (Kd.R_lt (by (with_reducible repeat (first | apply Kd.R_alloc | apply Kd.R_drewN | apply Kd.R_drew)); exact HO115.out))) (Kd.R_lt (by (with_reducible repeat (first | apply Kd.R_alloc | apply Kd.R_drewN | apply Kd.R_drew)); exact HO118.out))) (Kd.R_lt (by (with_reducible repeat (first | apply Kd.R_alloc | apply Kd.R_drewN | apply Kd.R_drew)); exact HO129.out))) (Kd.R_lt (by (with_reducible repeat (first | apply Kd.R_alloc | apply Kd.R_drewN | apply Kd.R_drew)); exact HO140.out))) (below_size (by repeat (first | (with_reducible first | exact HB.out | apply below_alloc | apply pw_below_drewN | apply below_drew1 | refine below_set ?_ GE112.out) | exact HB.out)))); have n7_ := Aside0.mk (blk_below (g := gb112) (o := .cells #[.int .i64 3, .slice Ao30 y124.length co30] 24 (0, 0)) (by (with_reducible repeat (first | refine blk_drewN ?_ _ | refine blk_drew ?_ | refine blk_alloc ?_ _)); exact BK112.out) hb); have n8_ := Aside0.mk (below_step (by repeat (first | (with_reducible first | exact HB.out | apply below_alloc | apply pw_below_drewN | apply below_drew1 | refine below_set ?_ GE112.out) | exact HB.out)) hb); clear HO115; clear HO118; clear HO126; clear HO129; clear HO137; clear HO140; clear BK112; clear HB; have HO115 := n0_; have HO118 := n1_; have HO126 := n2_; have HO129 := n3_; have HO137 := n4_; have HO140 := n5_; have HO145 := n6_; have BK112 := n7_; have HB := n8_; clear n0_ n1_ n2_ n3_ n4_ n5_ n6_ n7_ n8_; clear hb ho42; obtain ⟨Ao43, co43, eo43⟩ := Kd.R_slice HO145.out; subst eo43) | ((with_reducible refine gate_callee (f := 14) rfl ?_); refine goesL_ (some 55) rfl rfl Try.func14 (by kernel_rfl) rfl #[.agg #[.int .i64 3, .slice Ao30 y124.length co30], .slice Ao43 y143.length co43] rfl (by (try simp only [List.map_toArray, List.map_cons, List.map_nil]); first | done | rfl | (simp only [List.length_drop, List.length_take]; rfl)) ?_; (with_reducible refine (prop_Prop.calls 3 _ _ y124 _ _ y143 t146 t149 t150 _ ?side1 ?side2 ?side3 ?side4 A5.out).mono ?_); (case side1 => repeat (first | exact (Kd.N_reads' HO126.out).2.2 | (with_reducible refine Kd.C_alloc ?_ _) | (with_reducible refine Kd.C_drewN ?_ _) | (with_reducible refine Kd.C_drew ?_))); (case side2 => exact (Kd.N_reads' HO126.out).2.1); (case side3 => repeat (first | exact (Kd.R_reads' HO145.out).2.2 | (with_reducible refine Kd.C_alloc ?_ _) | (with_reducible refine Kd.C_drewN ?_ _) | (with_reducible refine Kd.C_drew ?_))); (case side4 => exact (Kd.R_reads' HO145.out).2.1); rintro e w44 ⟨v147, rfl, ho0, hb⟩; refine ⟨_, rfl, ?_⟩; have n0_ := Aside0.mk (Kd.R_elder' (by (with_reducible repeat (first | apply Kd.R_alloc | apply Kd.R_drewN | apply Kd.R_drew)); exact HO115.out) (Kd.R_base ho0) hb); have n1_ := Aside0.mk (Kd.R_elder' (by (with_reducible repeat (first | apply Kd.R_alloc | apply Kd.R_drewN | apply Kd.R_drew)); exact HO118.out) (Kd.R_base ho0) hb); have n2_ := Aside0.mk (Kd.N_elder' (by (with_reducible repeat (first | apply Kd.N_alloc | apply Kd.N_drewN | apply Kd.N_drew)); exact HO126.out) (Kd.R_base ho0) hb); have n3_ := Aside0.mk (Kd.R_elder' (by (with_reducible repeat (first | apply Kd.R_alloc | apply Kd.R_drewN | apply Kd.R_drew)); exact HO129.out) (Kd.R_base ho0) hb); have n4_ := Aside0.mk (Kd.N_elder' (by (with_reducible repeat (first | apply Kd.N_alloc | apply Kd.N_drewN | apply Kd.N_drew)); exact HO137.out) (Kd.R_base ho0) hb); have n5_ := Aside0.mk (Kd.R_elder' (by (with_reducible repeat (first | apply Kd.R_alloc | apply Kd.R_drewN | apply Kd.R_drew)); exact HO140.out) (Kd.R_base ho0) hb); have n6_ := Aside0.mk (Kd.R_elder' (by (with_reducible repeat (first | apply Kd.R_alloc | apply Kd.R_drewN | apply Kd.R_drew)); exact HO145.out) (Kd.R_base ho0) hb); have n7_ := Aside0.mk (Kd.R_lower (Kd.R_new' (Kd.R_new' (Kd.R_new' (Kd.R_new' (Kd.R_new' ho0 (Kd.R_lt (by (with_reducible repeat (first | apply Kd.R_alloc | apply Kd.R_drewN | apply Kd.R_drew)); exact HO115.out))) (Kd.R_lt (by (with_reducible repeat (first | apply Kd.R_alloc | apply Kd.R_drewN | apply Kd.R_drew)); exact HO118.out))) (Kd.R_lt (by (with_reducible repeat (first | apply Kd.R_alloc | apply Kd.R_drewN | apply Kd.R_drew)); exact HO129.out))) (Kd.R_lt (by (with_reducible repeat (first | apply Kd.R_alloc | apply Kd.R_drewN | apply Kd.R_drew)); exact HO140.out))) (Kd.R_lt (by (with_reducible repeat (first | apply Kd.R_alloc | apply Kd.R_drewN | apply Kd.R_drew)); exact HO145.out))) (below_size (by repeat (first | (with_reducible first | exact HB.out | apply below_alloc | apply pw_below_drewN | apply below_drew1 | refine below_set ?_ GE112.out) | exact HB.out)))); have n8_ := Aside0.mk (blk_below (g := gb112) (o := .cells #[.int .i64 3, .slice Ao30 y124.length co30] 24 (0, 0)) (by (with_reducible repeat (first | refine blk_drewN ?_ _ | refine blk_drew ?_ | refine blk_alloc ?_ _)); exact BK112.out) hb); have n9_ := Aside0.mk (below_step (by repeat (first | (with_reducible first | exact HB.out | apply below_alloc | apply pw_below_drewN | apply below_drew1 | refine below_set ?_ GE112.out) | exact HB.out)) hb); clear HO115; clear HO118; clear HO126; clear HO129; clear HO137; clear HO140; clear HO145; clear BK112; clear HB; have HO115 := n0_; have HO118 := n1_; have HO126 := n2_; have HO129 := n3_; have HO137 := n4_; have HO140 := n5_; have HO145 := n6_; have HO148 := n7_; have BK112 := n8_; have HB := n9_; clear n0_ n1_ n2_ n3_ n4_ n5_ n6_ n7_ n8_ n9_; (try clear hb); (try clear hb2); (try clear hk); (try clear hi); (try clear ho0)) | ((with_reducible refine gate_dst (N := 63) rfl ?_); (try (refine gate_guard (by rfl) ?_; dsimp only)); refine Kd.R_lit k32 _ 32 ?hg (N := 63) ?hd (xs := ([(⟨1, (-1)⟩ : S32), (⟨2, 0⟩ : S32), (⟨3, 1⟩ : S32)] : List (S32))) (inner := [.int .i64 1, .int .i64 (-1), .int .i64 2, .int .i64 0, .int .i64 3, .int .i64 1]) (ok := fun _ => True) (okp := fun _ => True) ?hr ?hp (fun _ hk => hk) trivial (Below.refl _ _) (Nat.le_refl _) (by simp) ?_; (case hd => rfl); (case hg => rfl); (case hr => first | (go_simp; done) | (go_simp; rfl)); (case hp => exact (Reps.c2 (show Kd.M k32 _ _ _ (⟨1, (-1)⟩ : S32) [.int .i64 1, .int .i64 (-1)] from (k32_mkM _ _ _ (⟨1, (-1)⟩ : S32) )) (Reps.c2 (show Kd.M k32 _ _ _ (⟨2, 0⟩ : S32) [.int .i64 2, .int .i64 0] from (k32_mkM _ _ _ (⟨2, 0⟩ : S32) )) (Reps.c2 (show Kd.M k32 _ _ _ (⟨3, 1⟩ : S32) [.int .i64 3, .int .i64 1] from (k32_mkM _ _ _ (⟨3, 1⟩ : S32) )) (Reps.none _ _))))); intro v152 w45 ho46 hb hg_ hnew_; clear hg_ hnew_; (first | rw [← Ny151.out] at ho46 | (simp only [Int.reduceToNat] at ho46; rw [← Ny151.out] at ho46)); have n0_ := Aside0.mk (Kd.R_elder' (by (with_reducible repeat (first | apply Kd.R_alloc | apply Kd.R_drewN | apply Kd.R_drew)); exact HO115.out) (Kd.R_base ho46) hb); have n1_ := Aside0.mk (Kd.R_elder' (by (with_reducible repeat (first | apply Kd.R_alloc | apply Kd.R_drewN | apply Kd.R_drew)); exact HO118.out) (Kd.R_base ho46) hb); have n2_ := Aside0.mk (Kd.N_elder' (by (with_reducible repeat (first | apply Kd.N_alloc | apply Kd.N_drewN | apply Kd.N_drew)); exact HO126.out) (Kd.R_base ho46) hb); have n3_ := Aside0.mk (Kd.R_elder' (by (with_reducible repeat (first | apply Kd.R_alloc | apply Kd.R_drewN | apply Kd.R_drew)); exact HO129.out) (Kd.R_base ho46) hb); have n4_ := Aside0.mk (Kd.N_elder' (by (with_reducible repeat (first | apply Kd.N_alloc | apply Kd.N_drewN | apply Kd.N_drew)); exact HO137.out) (Kd.R_base ho46) hb); have n5_ := Aside0.mk (Kd.R_elder' (by (with_reducible repeat (first | apply Kd.R_alloc | apply Kd.R_drewN | apply Kd.R_drew)); exact HO140.out) (Kd.R_base ho46) hb); have n6_ := Aside0.mk (Kd.R_elder' (by (with_reducible repeat (first | apply Kd.R_alloc | apply Kd.R_drewN | apply Kd.R_drew)); exact HO145.out) (Kd.R_base ho46) hb); have n7_ := Aside0.mk (Kd.R_elder' (by (with_reducible repeat (first | apply Kd.R_alloc | apply Kd.R_drewN | apply Kd.R_drew)); exact HO148.out) (Kd.R_base ho46) hb); have n8_ := Aside0.mk (Kd.R_lower (Kd.R_new' (Kd.R_new' (Kd.R_new' (Kd.R_new' (Kd.R_new' (Kd.R_new' ho46 (Kd.R_lt (by (with_reducible repeat (first | apply Kd.R_alloc | apply Kd.R_drewN | apply Kd.R_drew)); exact HO115.out))) (Kd.R_lt (by (with_reducible repeat (first | apply Kd.R_alloc | apply Kd.R_drewN | apply Kd.R_drew)); exact HO118.out))) (Kd.R_lt (by (with_reducible repeat (first | apply Kd.R_alloc | apply Kd.R_drewN | apply Kd.R_drew)); exact HO129.out))) (Kd.R_lt (by (with_reducible repeat (first | apply Kd.R_alloc | apply Kd.R_drewN | apply Kd.R_drew)); exact HO140.out))) (Kd.R_lt (by (with_reducible repeat (first | apply Kd.R_alloc | apply Kd.R_drewN | apply Kd.R_drew)); exact HO145.out))) (Kd.R_lt (by (with_reducible repeat (first | apply Kd.R_alloc | apply Kd.R_drewN | apply Kd.R_drew)); exact HO148.out))) (below_size (by repeat (first | (with_reducible first | exact HB.out | apply below_alloc | apply pw_below_drewN | apply below_drew1 | refine below_set ?_ GE112.out) | exact HB.out)))); have n9_ := Aside0.mk (blk_below (g := gb112) (o := .cells #[.int .i64 3, .slice Ao30 y124.length co30] 24 (0, 0)) (by (with_reducible repeat (first | refine blk_drewN ?_ _ | refine blk_drew ?_ | refine blk_alloc ?_ _)); exact BK112.out) hb); have n10_ := Aside0.mk (below_step (by repeat (first | (with_reducible first | exact HB.out | apply below_alloc | apply pw_below_drewN | apply below_drew1 | refine below_set ?_ GE112.out) | exact HB.out)) hb); clear HO115; clear HO118; clear HO126; clear HO129; clear HO137; clear HO140; clear HO145; clear HO148; clear BK112; clear HB; have HO115 := n0_; have HO118 := n1_; have HO126 := n2_; have HO129 := n3_; have HO137 := n4_; have HO140 := n5_; have HO145 := n6_; have HO148 := n7_; have HO153 := n8_; have BK112 := n9_; have HB := n10_; clear n0_ n1_ n2_ n3_ n4_ n5_ n6_ n7_ n8_ n9_ n10_; clear hb ho46; obtain ⟨Ao47, co47, eo47⟩ := Kd.R_slice HO118.out; subst eo47; obtain ⟨Ao48, co48, eo48⟩ := Kd.R_slice HO153.out; subst eo48) | ((with_reducible refine gate_callee (f := 19) rfl ?_); refine goesL_ (some 64) rfl rfl Try.func19 (by kernel_rfl) rfl #[.slice Ao47 t116.length co47, .slice Ao48 y151.length co48] rfl (by (try simp only [List.map_toArray, List.map_cons, List.map_nil]); first | done | rfl | (simp only [List.length_drop, List.length_take]; rfl)) ?_; (with_reducible refine (chalklineref19_Steps.calls k _ _ t116 _ _ y151 t154 _ ?side1 ?side2 ?side3 ?side4 A6.out).mono ?_); (case side1 => repeat (first | exact (Kd.R_reads' HO118.out).2.2 | (with_reducible refine Kd.C_alloc ?_ _) | (with_reducible refine Kd.C_drewN ?_ _) | (with_reducible refine Kd.C_drew ?_))); (case side2 => exact (Kd.R_reads' HO118.out).2.1); (case side3 => repeat (first | exact (Kd.R_reads' HO153.out).2.2 | (with_reducible refine Kd.C_alloc ?_ _) | (with_reducible refine Kd.C_drewN ?_ _) | (with_reducible refine Kd.C_drew ?_))); (case side4 => exact (Kd.R_reads' HO153.out).2.1); rintro e w' ⟨rfl, ⟨nd, rfl⟩⟩; refine ⟨_, rfl, ?_⟩) | ((with_reducible refine gate_callee (f := 17) rfl ?_); refine goesL_ (some 66) rfl rfl Try.func17 (by kernel_rfl) rfl #[.slice Ao47 t116.length co47] rfl (by (try simp only [List.map_toArray, List.map_cons, List.map_nil]); first | done | rfl | (simp only [List.length_drop, List.length_take]; rfl)) ?_; (with_reducible refine (prop_Levels.calls k _ _ t116 t155 _ ?side1 ?side2 A7.out).mono ?_); (case side1 => repeat (first | exact (Kd.R_reads' HO118.out).2.2 | (with_reducible refine Kd.C_alloc ?_ _) | (with_reducible refine Kd.C_drewN ?_ _) | (with_reducible refine Kd.C_drew ?_))); (case side2 => exact (Kd.R_reads' HO118.out).2.1); rintro e w49 ⟨v156, rfl, ho0, hb⟩; refine ⟨_, rfl, ?_⟩; have n0_ := Aside0.mk (Kd.R_below (by (with_reducible repeat (first | apply Kd.R_alloc | apply Kd.R_drewN | apply Kd.R_drew)); exact HO115.out) hb); have n1_ := Aside0.mk (Kd.R_below (by (with_reducible repeat (first | apply Kd.R_alloc | apply Kd.R_drewN | apply Kd.R_drew)); exact HO118.out) hb); have n2_ := Aside0.mk (Kd.N_elder' (by (with_reducible repeat (first | apply Kd.N_alloc | apply Kd.N_drewN | apply Kd.N_drew)); exact HO126.out) (Kd.R_base ho0) hb); have n3_ := Aside0.mk (Kd.R_below (by (with_reducible repeat (first | apply Kd.R_alloc | apply Kd.R_drewN | apply Kd.R_drew)); exact HO129.out) hb); have n4_ := Aside0.mk (Kd.N_elder' (by (with_reducible repeat (first | apply Kd.N_alloc | apply Kd.N_drewN | apply Kd.N_drew)); exact HO137.out) (Kd.R_base ho0) hb); have n5_ := Aside0.mk (Kd.R_below (by (with_reducible repeat (first | apply Kd.R_alloc | apply Kd.R_drewN | apply Kd.R_drew)); exact HO140.out) hb); have n6_ := Aside0.mk (Kd.R_below (by (with_reducible repeat (first | apply Kd.R_alloc | apply Kd.R_drewN | apply Kd.R_drew)); exact HO145.out) hb); have n7_ := Aside0.mk (Kd.R_below (by (with_reducible repeat (first | apply Kd.R_alloc | apply Kd.R_drewN | apply Kd.R_drew)); exact HO148.out) hb); have n8_ := Aside0.mk (Kd.R_below (by (with_reducible repeat (first | apply Kd.R_alloc | apply Kd.R_drewN | apply Kd.R_drew)); exact HO153.out) hb); have n9_ := Aside0.mk (Kd.R_lower ho0 (below_size (by repeat (first | (with_reducible first | exact HB.out | apply below_alloc | apply pw_below_drewN | apply below_drew1 | refine below_set ?_ GE112.out) | exact HB.out)))); have n10_ := Aside0.mk (blk_below (g := gb112) (o := .cells #[.int .i64 3, .slice Ao30 y124.length co30] 24 (0, 0)) (by (with_reducible repeat (first | refine blk_drewN ?_ _ | refine blk_drew ?_ | refine blk_alloc ?_ _)); exact BK112.out) hb); have n11_ := Aside0.mk (below_step (by repeat (first | (with_reducible first | exact HB.out | apply below_alloc | apply pw_below_drewN | apply below_drew1 | refine below_set ?_ GE112.out) | exact HB.out)) hb); clear HO115; clear HO118; clear HO126; clear HO129; clear HO137; clear HO140; clear HO145; clear HO148; clear HO153; clear BK112; clear HB; have HO115 := n0_; have HO118 := n1_; have HO126 := n2_; have HO129 := n3_; have HO137 := n4_; have HO140 := n5_; have HO145 := n6_; have HO148 := n7_; have HO153 := n8_; have HO157 := n9_; have BK112 := n10_; have HB := n11_; clear n0_ n1_ n2_ n3_ n4_ n5_ n6_ n7_ n8_ n9_ n10_ n11_; (try clear hb); (try clear hb2); (try clear hk); (try clear hi); (try clear ho0)))
    (try simp only [Act.put, List.setIfInBounds_toArray, List.set_cons_zero, List.set_cons_succ])
    go_cut [82] (fun v82 wc => ∃ (kq : Nat) (x82_7 : Bool), v82 = .bool x82_7 ∧ Aside0 (chalklinelaw19_live.j0 kq t116 t119 t120 t131 t141 t142 t150 t154 t155 x82_7 3 y124 = some r) ∧ Aside0 (kq ≤ k) ∧ Aside0 (Kd.R k32 32 wc w.heap.size (fun _ => True) (.slice Ao47 t116.length co47) t116) ∧ Aside0 (Kd.R (Kd.int .i64) 3 wc w.heap.size (fun _ => True) v156 t155) ∧ Aside0 (Kd.N (Kd.slice 3 (Kd.int .i64)) 37 wc w.heap.size (fun k_ => some k_ ≠ ((.slice Ao47 t116.length co47) : Value).ownBlock ∧ some k_ ≠ (v156 : Value).ownBlock ∧ k_ ≠ gb112) (.slice Ao30 y124.length co30) y124) ∧ Aside0 (wc.heap[gb112]? = some (.cells #[.int .i64 3, (.slice Ao30 y124.length co30)] 24 (0, 0))) ∧ Aside0 (Below w.heap.size w wc))
    case first =>
      have H := HC8.out
      clear HC8
      by_cases c50 : (t127.length : Int) < 2
      · rw [if_pos c50] at H
        have c50b0 : decide ((t127.length : Int) < 2) = true := decide_eq_true c50
        have c50b1 : decide (t127.length < 2) = true := decide_eq_true (by omega)
        clear c50
        (first | rw [c50b0] | (simp only [i64_w, i32_w]; rw [c50b0]) | skip)
        have H' := Aside0.mk H
        clear H
        obtain ⟨Ao51, co51, eo51⟩ := Kd.R_slice HO129.out
        subst eo51
        go_wp2
        go_meet
        case rel => exact ⟨_, (true), (by first | rfl | (simp; done) | (simp [*]; done)), H', ⟨by first | omega | exact Nat.le_refl _⟩, ⟨by (with_reducible repeat (first | apply Kd.R_alloc | apply Kd.R_drewN | apply Kd.R_drew)); exact Kd.R_mono HO118.out (fun _ hk => trivial)⟩, ⟨by (with_reducible repeat (first | apply Kd.R_alloc | apply Kd.R_drewN | apply Kd.R_drew)); exact HO157.out⟩, ⟨by (with_reducible repeat (first | apply Kd.N_alloc | apply Kd.N_drewN | apply Kd.N_drew)); exact Kd.N_mono HO126.out (fun _ hk => ⟨hk.1.1.1.1.1.1.1.1.2.1, ⟨hk.2, hk.1.1.1.1.1.1.1.1.2.2⟩⟩)⟩, ⟨by (with_reducible repeat (first | refine blk_drewN ?_ _ | refine blk_drew ?_ | refine blk_alloc ?_ _)); exact BK112.out⟩, ⟨by repeat (first | (with_reducible first | exact HB.out | apply below_alloc | apply pw_below_drewN | apply below_drew1 | refine below_set ?_ GE112.out) | exact HB.out)⟩⟩
      · rw [if_neg c50] at H
        have c50b0 : decide ((t127.length : Int) < 2) = false := decide_eq_false c50
        have c50b1 : decide (t127.length < 2) = false := decide_eq_false (by omega)
        clear c50
        (first | rw [c50b0] | (simp only [i64_w, i32_w]; rw [c50b0]) | skip)
        by_cases c52 : t130 < 0
        · rw [if_pos c52] at H
          have c52b0 : decide (t130 < 0) = true := decide_eq_true c52
          clear c52
          have H' := Aside0.mk H
          clear H
          obtain ⟨Ao53, co53, eo53⟩ := Kd.R_slice HO129.out
          subst eo53
          go_wp2
          go_meet
          case rel => exact ⟨_, (true), (by first | rfl | (simp; done) | (simp [*]; done)), H', ⟨by first | omega | exact Nat.le_refl _⟩, ⟨by (with_reducible repeat (first | apply Kd.R_alloc | apply Kd.R_drewN | apply Kd.R_drew)); exact Kd.R_mono HO118.out (fun _ hk => trivial)⟩, ⟨by (with_reducible repeat (first | apply Kd.R_alloc | apply Kd.R_drewN | apply Kd.R_drew)); exact HO157.out⟩, ⟨by (with_reducible repeat (first | apply Kd.N_alloc | apply Kd.N_drewN | apply Kd.N_drew)); exact Kd.N_mono HO126.out (fun _ hk => ⟨hk.1.1.1.1.1.1.1.1.2.1, ⟨hk.2, hk.1.1.1.1.1.1.1.1.2.2⟩⟩)⟩, ⟨by (with_reducible repeat (first | refine blk_drewN ?_ _ | refine blk_drew ?_ | refine blk_alloc ?_ _)); exact BK112.out⟩, ⟨by repeat (first | (with_reducible first | exact HB.out | apply below_alloc | apply pw_below_drewN | apply below_drew1 | refine below_set ?_ GE112.out) | exact HB.out)⟩⟩
        · rw [if_neg c52] at H
          have c52b0 : decide (t130 < 0) = false := decide_eq_false c52
          clear c52
          by_cases c54 : t130 > 2
          · rw [if_pos c54] at H
            have c54b0 : decide (2 < t130) = true := decide_eq_true c54
            clear c54
            have H' := Aside0.mk H
            clear H
            obtain ⟨Ao55, co55, eo55⟩ := Kd.R_slice HO129.out
            subst eo55
            go_wp2
            go_meet
            case rel => exact ⟨_, (true), (by first | rfl | (simp; done) | (simp [*]; done)), H', ⟨by first | omega | exact Nat.le_refl _⟩, ⟨by (with_reducible repeat (first | apply Kd.R_alloc | apply Kd.R_drewN | apply Kd.R_drew)); exact Kd.R_mono HO118.out (fun _ hk => trivial)⟩, ⟨by (with_reducible repeat (first | apply Kd.R_alloc | apply Kd.R_drewN | apply Kd.R_drew)); exact HO157.out⟩, ⟨by (with_reducible repeat (first | apply Kd.N_alloc | apply Kd.N_drewN | apply Kd.N_drew)); exact Kd.N_mono HO126.out (fun _ hk => ⟨hk.1.1.1.1.1.1.1.1.2.1, ⟨hk.2, hk.1.1.1.1.1.1.1.1.2.2⟩⟩)⟩, ⟨by (with_reducible repeat (first | refine blk_drewN ?_ _ | refine blk_drew ?_ | refine blk_alloc ?_ _)); exact BK112.out⟩, ⟨by repeat (first | (with_reducible first | exact HB.out | apply below_alloc | apply pw_below_drewN | apply below_drew1 | refine below_set ?_ GE112.out) | exact HB.out)⟩⟩
          · rw [if_neg c54] at H
            have c54b0 : decide (2 < t130) = false := decide_eq_false c54
            clear c54
            have H' := Aside0.mk H
            clear H
            obtain ⟨Ao56, co56, eo56⟩ := Kd.R_slice HO129.out
            subst eo56
            obtain ⟨Ao57, co57, eo57⟩ := Kd.R_slice HO157.out
            subst eo57
            go_wp2
            go_meet
            case rel => exact ⟨_, (((t155.length : Int) != 3)), (by first | rfl | (simp; done) | (simp [*]; done)), H', ⟨by first | omega | exact Nat.le_refl _⟩, ⟨by (with_reducible repeat (first | apply Kd.R_alloc | apply Kd.R_drewN | apply Kd.R_drew)); exact Kd.R_mono HO118.out (fun _ hk => trivial)⟩, ⟨by (with_reducible repeat (first | apply Kd.R_alloc | apply Kd.R_drewN | apply Kd.R_drew)); exact HO157.out⟩, ⟨by (with_reducible repeat (first | apply Kd.N_alloc | apply Kd.N_drewN | apply Kd.N_drew)); exact Kd.N_mono HO126.out (fun _ hk => ⟨hk.1.1.1.1.1.1.1.1.2.1, ⟨hk.2, hk.1.1.1.1.1.1.1.1.2.2⟩⟩)⟩, ⟨by (with_reducible repeat (first | refine blk_drewN ?_ _ | refine blk_drew ?_ | refine blk_alloc ?_ _)); exact BK112.out⟩, ⟨by repeat (first | (with_reducible first | exact HB.out | apply below_alloc | apply pw_below_drewN | apply below_drew1 | refine below_set ?_ GE112.out) | exact HB.out)⟩⟩
    case rest =>
      clear HC8
      try clear c1
      try clear c2
      try clear p2
      try clear c5
      try clear c11
      try clear c14
      try clear c17
      try clear c19
      try clear c50
      try clear c50b0
      try clear c50b1
      try clear c52
      try clear c52b0
      try clear c54
      try clear c54b0
      try clear hcz19_0
      try clear hcz19_1
      try clear hcz22_0
      try clear hcz22_1
      try clear hcz25_0
      try clear hcz25_1
      try clear hcz31_0
      try clear hcz31_1
      try clear hcz40_0
      try clear hcz40_1
      try clear hfz19_0
      try clear hfz19_1
      try clear hfz22_0
      try clear hfz22_1
      try clear hfz25_0
      try clear hfz25_1
      try clear hfz31_0
      try clear hfz31_1
      try clear hfz40_0
      try clear hfz40_1
      obtain ⟨kq, x82_7, rfl, HA, HJ7, HO_3, HO_16, HO_113001, BK112, HB⟩ := hcut
      cases kq with
      | zero => exact absurd HA.out (by simp [chalklinelaw19_live.j0])
      | succ kj7 =>
        have H := HA.out
        clear HA
        simp only [chalklinelaw19_live.j0] at H
        by_cases c58 : x82_7 = true
        · subst c58
          have H1 : (some false) = some r := by rw [if_pos rfl] at H; exact H
          clear H
          have H := H1
          clear H1
          obtain rfl := Option.some.inj H
          go_wp2
          go_ret
          exact ⟨by first | rfl | (simp [errW_none, errW_some] <;> rfl) | (simp [*, errW_none, errW_some] <;> rfl), by repeat (first | (with_reducible first | exact HB.out | apply below_alloc | apply pw_below_drewN | apply below_drew1 | refine below_set ?_ GE112.out) | exact HB.out)⟩
        · replace c58 := Bool.eq_false_iff.mpr c58
          subst c58
          have H1 : (if t154 = true then (if t119 = (-1) then (if t120 = 0 then (if t131 = 0 then (if t142 = 0 then (if t141 = 0 then (if t150 = 1 then (if 0 < (t155.length : Int) then (if (rd t155 0) = 1 then (if 2 < (t155.length : Int) then (if (rd t155 2) = 1 then ((prop_Back.f kj7 t116 0).bind fun t160 => (if (t160.length : Int) = 0 then ((prop_Back.f kj7 t116 1).bind fun t163 => (if (t163.length : Int) = 3 then ((prop_Check.f 3 y124 t116).bind fun t166 => (if t166 = 0 then ((prop_Check.f 3 y124 (([(⟨4, (-1)⟩ : S32)] : List (S32)))).bind fun t170 => (some (t170 == 1))) else (some false))) else (some false))) else (some false))) else (some false)) else (none)) else (some false)) else (none)) else (some false)) else (some false)) else (some false)) else (some false)) else (some false)) else (some false)) else (some false)) = some r := by rw [if_neg (show ¬ (false = true) by decide)] at H; exact H
          clear H
          have H := H1
          clear H1
          by_cases c59 : t154 = true
          · subst c59
            have H1 : (if t119 = (-1) then (if t120 = 0 then (if t131 = 0 then (if t142 = 0 then (if t141 = 0 then (if t150 = 1 then (if 0 < (t155.length : Int) then (if (rd t155 0) = 1 then (if 2 < (t155.length : Int) then (if (rd t155 2) = 1 then ((prop_Back.f kj7 t116 0).bind fun t160 => (if (t160.length : Int) = 0 then ((prop_Back.f kj7 t116 1).bind fun t163 => (if (t163.length : Int) = 3 then ((prop_Check.f 3 y124 t116).bind fun t166 => (if t166 = 0 then ((prop_Check.f 3 y124 (([(⟨4, (-1)⟩ : S32)] : List (S32)))).bind fun t170 => (some (t170 == 1))) else (some false))) else (some false))) else (some false))) else (some false)) else (none)) else (some false)) else (none)) else (some false)) else (some false)) else (some false)) else (some false)) else (some false)) else (some false)) = some r := by rw [if_pos rfl] at H; exact H
            clear H
            have H := H1
            clear H1
            by_cases c60 : t119 = (-1)
            · rw [if_pos c60] at H
              have c60b0 : (t119 == (-1)) = true := beq_iff_eq.mpr c60
              have c60b1 : (t119 != (-1)) = false := bne_eq_false_iff_eq.mpr c60
              clear c60
              by_cases c61 : t120 = 0
              · rw [if_pos c61] at H
                have c61b0 : (t120 == 0) = true := beq_iff_eq.mpr c61
                have c61b1 : (t120 != 0) = false := bne_eq_false_iff_eq.mpr c61
                clear c61
                by_cases c62 : t131 = 0
                · rw [if_pos c62] at H
                  have c62b0 : (t131 == 0) = true := beq_iff_eq.mpr c62
                  have c62b1 : (t131 != 0) = false := bne_eq_false_iff_eq.mpr c62
                  clear c62
                  by_cases c63 : t142 = 0
                  · rw [if_pos c63] at H
                    have c63b0 : (t142 == 0) = true := beq_iff_eq.mpr c63
                    have c63b1 : (t142 != 0) = false := bne_eq_false_iff_eq.mpr c63
                    clear c63
                    by_cases c64 : t141 = 0
                    · rw [if_pos c64] at H
                      have c64b0 : (t141 == 0) = true := beq_iff_eq.mpr c64
                      have c64b1 : (t141 != 0) = false := bne_eq_false_iff_eq.mpr c64
                      clear c64
                      by_cases c65 : t150 = 1
                      · rw [if_pos c65] at H
                        have c65b0 : (t150 == 1) = true := beq_iff_eq.mpr c65
                        have c65b1 : (t150 != 1) = false := bne_eq_false_iff_eq.mpr c65
                        clear c65
                        by_cases c66 : 0 < (t155.length : Int)
                        · rw [if_pos c66] at H
                          have c66b0 : decide (0 < (t155.length : Int)) = true := decide_eq_true c66
                          have c66b1 : decide (0 < t155.length) = true := decide_eq_true (by omega)
                          clear c66
                          by_cases c67 : (rd t155 0) = 1
                          · rw [if_pos c67] at H
                            have c67b0 : ((rd t155 0) == 1) = true := beq_iff_eq.mpr c67
                            have c67b1 : ((rd t155 0) != 1) = false := bne_eq_false_iff_eq.mpr c67
                            clear c67
                            by_cases c68 : 2 < (t155.length : Int)
                            · rw [if_pos c68] at H
                              have c68b0 : decide (2 < (t155.length : Int)) = true := decide_eq_true c68
                              have c68b1 : decide (2 < t155.length) = true := decide_eq_true (by omega)
                              clear c68
                              by_cases c69 : (rd t155 2) = 1
                              · rw [if_pos c69] at H
                                have c69b0 : ((rd t155 2) == 1) = true := beq_iff_eq.mpr c69
                                have c69b1 : ((rd t155 2) != 1) = false := bne_eq_false_iff_eq.mpr c69
                                clear c69
                                replace H := Option.bind_eq_some_iff.mp H
                                obtain ⟨t160, A700, H⟩ := H
                                replace H : (if (t160.length : Int) = 0 then ((prop_Back.f kj7 t116 1).bind fun t163 => (if (t163.length : Int) = 3 then ((prop_Check.f 3 y124 t116).bind fun t166 => (if t166 = 0 then ((prop_Check.f 3 y124 (([(⟨4, (-1)⟩ : S32)] : List (S32)))).bind fun t170 => (some (t170 == 1))) else (some false))) else (some false))) else (some false)) = some r := H
                                have A70 := Aside0.mk A700
                                clear A700
                                by_cases c71 : (t160.length : Int) = 0
                                · rw [if_pos c71] at H
                                  have c71b0 : ((t160.length : Int) == 0) = true := beq_iff_eq.mpr c71
                                  have c71b1 : ((t160.length : Int) != 0) = false := bne_eq_false_iff_eq.mpr c71
                                  clear c71
                                  replace H := Option.bind_eq_some_iff.mp H
                                  obtain ⟨t163, A720, H⟩ := H
                                  replace H : (if (t163.length : Int) = 3 then ((prop_Check.f 3 y124 t116).bind fun t166 => (if t166 = 0 then ((prop_Check.f 3 y124 (([(⟨4, (-1)⟩ : S32)] : List (S32)))).bind fun t170 => (some (t170 == 1))) else (some false))) else (some false)) = some r := H
                                  have A72 := Aside0.mk A720
                                  clear A720
                                  by_cases c73 : (t163.length : Int) = 3
                                  · rw [if_pos c73] at H
                                    have c73b0 : ((t163.length : Int) == 3) = true := beq_iff_eq.mpr c73
                                    have c73b1 : ((t163.length : Int) != 3) = false := bne_eq_false_iff_eq.mpr c73
                                    clear c73
                                    replace H := Option.bind_eq_some_iff.mp H
                                    obtain ⟨t166, A740, H⟩ := H
                                    replace H : (if t166 = 0 then ((prop_Check.f 3 y124 (([(⟨4, (-1)⟩ : S32)] : List (S32)))).bind fun t170 => (some (t170 == 1))) else (some false)) = some r := H
                                    have A74 := Aside0.mk A740
                                    clear A740
                                    by_cases c75 : t166 = 0
                                    · rw [if_pos c75] at H
                                      have c75b0 : (t166 == 0) = true := beq_iff_eq.mpr c75
                                      have c75b1 : (t166 != 0) = false := bne_eq_false_iff_eq.mpr c75
                                      clear c75
                                      obtain ⟨y167, hy167⟩ : ∃ y_ : List (S32), y_ = (([(⟨4, (-1)⟩ : S32)] : List (S32))) := ⟨_, rfl⟩
                                      replace H : ((prop_Check.f 3 y124 y167).bind fun t170 => (some (t170 == 1))) = some r := by first | (rw [hy167]; with_reducible exact H) | (have H2_ := (Option.bind_some _ _).symm.trans H; rw [hy167]; with_reducible exact H2_) | (have H2_ := (Option.bind_some _ _).symm.trans H; with_reducible exact H2_) | with_reducible exact H | (rw [hy167]; exact H) | exact H
                                      have Ny167 := Aside0.mk hy167
                                      clear hy167
                                      replace H := Option.bind_eq_some_iff.mp H
                                      obtain ⟨t170, A760, H⟩ := H
                                      replace H : (some (t170 == 1)) = some r := H
                                      have A76 := Aside0.mk A760
                                      clear A760
                                      obtain rfl := Option.some.inj H
                                      obtain ⟨Ao77, co77, eo77⟩ := Kd.R_slice HO_16.out
                                      subst eo77
                                      have p158 : 0 ≤ (0 : Int) := (by omega)
                                      have q158 : 0 < (t155.length : Int) := of_decide_eq_true (by first | (with_reducible assumption) | assumption)
                                      obtain ⟨ad158, e158, hx158_0⟩ := Kd.at_int (Kd.R_reads' HO_16.out).2.2 0 p158 q158
                                      cases e158
                                      have qi158 : (0 < t155.length) = True := eq_true (by omega)
                                      (try rw [show ((0 : Int)).toNat = 0 from rfl] at hx158_0)
                                      (try rw [Addr.add_zero'] at hx158_0)
                                      replace p158 := eq_true p158
                                      replace q158 := eq_true q158
                                      have p159 : 0 ≤ (2 : Int) := (by omega)
                                      have q159 : 2 < (t155.length : Int) := of_decide_eq_true (by first | (with_reducible assumption) | assumption)
                                      obtain ⟨ad159, e159, hx159_0⟩ := Kd.at_int (Kd.R_reads' HO_16.out).2.2 2 p159 q159
                                      obtain rfl : ad158 = ad159 := (by injection e159)
                                      (try simp only [show (2 : Int).toNat = 2 from rfl, Nat.reduceMul, Nat.reduceEqDiff, Go.Addr.add, ↓reduceIte] at hx159_0)
                                      have qi159 : (2 < t155.length) = True := eq_true (by omega)
                                      (try rw [show ((2 : Int)).toNat = 2 from rfl] at hx159_0)
                                      replace p159 := eq_true p159
                                      replace q159 := eq_true q159
                                      go_wp2_with (first | (go_at_call 20; (with_reducible refine (prop_Back.calls kj7 _ _ t116 0 t160 _ ?side1 ?side2 A70.out).mono ?_); (case side1 => repeat (first | exact (Kd.R_reads' HO_3.out).2.2 | (with_reducible refine Kd.C_alloc ?_ _) | (with_reducible refine Kd.C_drewN ?_ _) | (with_reducible refine Kd.C_drew ?_))); (case side2 => exact (Kd.R_reads' HO_3.out).2.1); rintro e w78 ⟨v161, rfl, ho0, hb⟩; have n0_ := Aside0.mk (Kd.R_elder' (by (with_reducible repeat (first | apply Kd.R_alloc | apply Kd.R_drewN | apply Kd.R_drew)); exact HO_3.out) (Kd.R_base ho0) hb); have n1_ := Aside0.mk (Kd.R_below (by (with_reducible repeat (first | apply Kd.R_alloc | apply Kd.R_drewN | apply Kd.R_drew)); exact HO_16.out) hb); have n2_ := Aside0.mk (Kd.N_elder' (by (with_reducible repeat (first | apply Kd.N_alloc | apply Kd.N_drewN | apply Kd.N_drew)); exact HO_113001.out) (Kd.R_base ho0) hb); have n3_ := Aside0.mk (Kd.R_lower (Kd.R_new' ho0 (Kd.R_lt (by (with_reducible repeat (first | apply Kd.R_alloc | apply Kd.R_drewN | apply Kd.R_drew)); exact HO_3.out))) (below_size (by repeat (first | (with_reducible first | exact HB.out | apply below_alloc | apply pw_below_drewN | apply below_drew1 | refine below_set ?_ GE112.out) | exact HB.out)))); have n4_ := Aside0.mk (blk_below (g := gb112) (o := .cells #[.int .i64 3, .slice Ao30 y124.length co30] 24 (0, 0)) (by (with_reducible repeat (first | refine blk_drewN ?_ _ | refine blk_drew ?_ | refine blk_alloc ?_ _)); exact BK112.out) hb); have n5_ := Aside0.mk (below_step (by repeat (first | (with_reducible first | exact HB.out | apply below_alloc | apply pw_below_drewN | apply below_drew1 | refine below_set ?_ GE112.out) | exact HB.out)) hb); clear HO_3; clear HO_16; clear HO_113001; clear BK112; clear HB; have HO_3 := n0_; have HO_16 := n1_; have HO_113001 := n2_; have HO162 := n3_; have BK112 := n4_; have HB := n5_; clear n0_ n1_ n2_ n3_ n4_ n5_; (try clear hb); (try clear hb2); (try clear hk); (try clear hi); (try clear ho0); obtain ⟨Ao79, co79, eo79⟩ := Kd.R_slice HO162.out; subst eo79) | (go_at_call 20; (with_reducible refine (prop_Back.calls kj7 _ _ t116 1 t163 _ ?side1 ?side2 A72.out).mono ?_); (case side1 => repeat (first | exact (Kd.R_reads' HO_3.out).2.2 | (with_reducible refine Kd.C_alloc ?_ _) | (with_reducible refine Kd.C_drewN ?_ _) | (with_reducible refine Kd.C_drew ?_))); (case side2 => exact (Kd.R_reads' HO_3.out).2.1); rintro e w80 ⟨v164, rfl, ho0, hb⟩; have n0_ := Aside0.mk (Kd.R_elder' (by (with_reducible repeat (first | apply Kd.R_alloc | apply Kd.R_drewN | apply Kd.R_drew)); exact HO_3.out) (Kd.R_base ho0) hb); have n1_ := Aside0.mk (Kd.R_below (by (with_reducible repeat (first | apply Kd.R_alloc | apply Kd.R_drewN | apply Kd.R_drew)); exact HO_16.out) hb); have n2_ := Aside0.mk (Kd.N_elder' (by (with_reducible repeat (first | apply Kd.N_alloc | apply Kd.N_drewN | apply Kd.N_drew)); exact HO_113001.out) (Kd.R_base ho0) hb); have n3_ := Aside0.mk (Kd.R_elder' (by (with_reducible repeat (first | apply Kd.R_alloc | apply Kd.R_drewN | apply Kd.R_drew)); exact HO162.out) (Kd.R_base ho0) hb); have n4_ := Aside0.mk (Kd.R_lower (Kd.R_new' (Kd.R_new' ho0 (Kd.R_lt (by (with_reducible repeat (first | apply Kd.R_alloc | apply Kd.R_drewN | apply Kd.R_drew)); exact HO_3.out))) (Kd.R_lt (by (with_reducible repeat (first | apply Kd.R_alloc | apply Kd.R_drewN | apply Kd.R_drew)); exact HO162.out))) (below_size (by repeat (first | (with_reducible first | exact HB.out | apply below_alloc | apply pw_below_drewN | apply below_drew1 | refine below_set ?_ GE112.out) | exact HB.out)))); have n5_ := Aside0.mk (blk_below (g := gb112) (o := .cells #[.int .i64 3, .slice Ao30 y124.length co30] 24 (0, 0)) (by (with_reducible repeat (first | refine blk_drewN ?_ _ | refine blk_drew ?_ | refine blk_alloc ?_ _)); exact BK112.out) hb); have n6_ := Aside0.mk (below_step (by repeat (first | (with_reducible first | exact HB.out | apply below_alloc | apply pw_below_drewN | apply below_drew1 | refine below_set ?_ GE112.out) | exact HB.out)) hb); clear HO_3; clear HO_16; clear HO_113001; clear HO162; clear BK112; clear HB; have HO_3 := n0_; have HO_16 := n1_; have HO_113001 := n2_; have HO162 := n3_; have HO165 := n4_; have BK112 := n5_; have HB := n6_; clear n0_ n1_ n2_ n3_ n4_ n5_ n6_; (try clear hb); (try clear hb2); (try clear hk); (try clear hi); (try clear ho0); obtain ⟨Ao81, co81, eo81⟩ := Kd.R_slice HO165.out; subst eo81; have hcz82_0 : w80.cell? ⟨gb112, 0, none⟩ = some (.int .i64 3) := (blk_cell BK112.out 0).trans rfl; have hcz82_1 : w80.cell? ⟨gb112, 1, none⟩ = some (.slice Ao30 y124.length co30) := (blk_cell BK112.out 1).trans rfl; have hfz82_0 := blk_frozen BK112.out 0; have hfz82_1 := blk_frozen BK112.out 1) | (go_at_call 22; (with_reducible refine (prop_Check.calls 3 _ _ y124 _ _ t116 t166 _ ?side1 ?side2 ?side3 ?side4 A74.out).mono ?_); (case side1 => repeat (first | exact (Kd.N_reads' HO_113001.out).2.2 | (with_reducible refine Kd.C_alloc ?_ _) | (with_reducible refine Kd.C_drewN ?_ _) | (with_reducible refine Kd.C_drew ?_))); (case side2 => exact (Kd.N_reads' HO_113001.out).2.1); (case side3 => repeat (first | exact (Kd.R_reads' HO_3.out).2.2 | (with_reducible refine Kd.C_alloc ?_ _) | (with_reducible refine Kd.C_drewN ?_ _) | (with_reducible refine Kd.C_drew ?_))); (case side4 => exact (Kd.R_reads' HO_3.out).2.1); rintro e w83 ⟨rfl, hb⟩; have n0_ := Aside0.mk (Kd.R_below (by (with_reducible repeat (first | apply Kd.R_alloc | apply Kd.R_drewN | apply Kd.R_drew)); exact HO_3.out) hb); have n1_ := Aside0.mk (Kd.R_below (by (with_reducible repeat (first | apply Kd.R_alloc | apply Kd.R_drewN | apply Kd.R_drew)); exact HO_16.out) hb); have n2_ := Aside0.mk (Kd.N_below (by (with_reducible repeat (first | apply Kd.N_alloc | apply Kd.N_drewN | apply Kd.N_drew)); exact HO_113001.out) hb); have n3_ := Aside0.mk (Kd.R_below (by (with_reducible repeat (first | apply Kd.R_alloc | apply Kd.R_drewN | apply Kd.R_drew)); exact HO162.out) hb); have n4_ := Aside0.mk (Kd.R_below (by (with_reducible repeat (first | apply Kd.R_alloc | apply Kd.R_drewN | apply Kd.R_drew)); exact HO165.out) hb); have n5_ := Aside0.mk (blk_below (g := gb112) (o := .cells #[.int .i64 3, .slice Ao30 y124.length co30] 24 (0, 0)) (by (with_reducible repeat (first | refine blk_drewN ?_ _ | refine blk_drew ?_ | refine blk_alloc ?_ _)); exact BK112.out) hb); have n6_ := Aside0.mk (below_step (by repeat (first | (with_reducible first | exact HB.out | apply below_alloc | apply pw_below_drewN | apply below_drew1 | refine below_set ?_ GE112.out) | exact HB.out)) hb); clear HO_3; clear HO_16; clear HO_113001; clear HO162; clear HO165; clear BK112; clear HB; have HO_3 := n0_; have HO_16 := n1_; have HO_113001 := n2_; have HO162 := n3_; have HO165 := n4_; have BK112 := n5_; have HB := n6_; clear n0_ n1_ n2_ n3_ n4_ n5_ n6_; (try clear hb); (try clear hb2); (try clear hk); (try clear hi); have hcz84_0 : w83.cell? ⟨gb112, 0, none⟩ = some (.int .i64 3) := (blk_cell BK112.out 0).trans rfl; have hcz84_1 : w83.cell? ⟨gb112, 1, none⟩ = some (.slice Ao30 y124.length co30) := (blk_cell BK112.out 1).trans rfl; have hfz84_0 := blk_frozen BK112.out 0; have hfz84_1 := blk_frozen BK112.out 1) | ((with_reducible refine gate_dst (N := 141) rfl ?_); (try (refine gate_guard (by rfl) ?_; dsimp only)); refine Kd.R_lit k32 _ 32 ?hg (N := 141) ?hd (xs := ([(⟨4, (-1)⟩ : S32)] : List (S32))) (inner := [.int .i64 4, .int .i64 (-1)]) (ok := fun _ => True) (okp := fun _ => True) ?hr ?hp (fun _ hk => hk) trivial (Below.refl _ _) (Nat.le_refl _) (by simp) ?_; (case hd => rfl); (case hg => rfl); (case hr => first | (go_simp; done) | (go_simp; rfl)); (case hp => exact (Reps.c2 (show Kd.M k32 _ _ _ (⟨4, (-1)⟩ : S32) [.int .i64 4, .int .i64 (-1)] from (k32_mkM _ _ _ (⟨4, (-1)⟩ : S32) )) (Reps.none _ _))); intro v168 w85 ho86 hb hg_ hnew_; clear hg_ hnew_; (first | rw [← Ny167.out] at ho86 | (simp only [Int.reduceToNat] at ho86; rw [← Ny167.out] at ho86)); have n0_ := Aside0.mk (Kd.R_elder' (by (with_reducible repeat (first | apply Kd.R_alloc | apply Kd.R_drewN | apply Kd.R_drew)); exact HO_3.out) (Kd.R_base ho86) hb); have n1_ := Aside0.mk (Kd.R_below (by (with_reducible repeat (first | apply Kd.R_alloc | apply Kd.R_drewN | apply Kd.R_drew)); exact HO_16.out) hb); have n2_ := Aside0.mk (Kd.N_elder' (by (with_reducible repeat (first | apply Kd.N_alloc | apply Kd.N_drewN | apply Kd.N_drew)); exact HO_113001.out) (Kd.R_base ho86) hb); have n3_ := Aside0.mk (Kd.R_elder' (by (with_reducible repeat (first | apply Kd.R_alloc | apply Kd.R_drewN | apply Kd.R_drew)); exact HO162.out) (Kd.R_base ho86) hb); have n4_ := Aside0.mk (Kd.R_elder' (by (with_reducible repeat (first | apply Kd.R_alloc | apply Kd.R_drewN | apply Kd.R_drew)); exact HO165.out) (Kd.R_base ho86) hb); have n5_ := Aside0.mk (Kd.R_lower (Kd.R_new' (Kd.R_new' (Kd.R_new' ho86 (Kd.R_lt (by (with_reducible repeat (first | apply Kd.R_alloc | apply Kd.R_drewN | apply Kd.R_drew)); exact HO_3.out))) (Kd.R_lt (by (with_reducible repeat (first | apply Kd.R_alloc | apply Kd.R_drewN | apply Kd.R_drew)); exact HO162.out))) (Kd.R_lt (by (with_reducible repeat (first | apply Kd.R_alloc | apply Kd.R_drewN | apply Kd.R_drew)); exact HO165.out))) (below_size (by repeat (first | (with_reducible first | exact HB.out | apply below_alloc | apply pw_below_drewN | apply below_drew1 | refine below_set ?_ GE112.out) | exact HB.out)))); have n6_ := Aside0.mk (blk_below (g := gb112) (o := .cells #[.int .i64 3, .slice Ao30 y124.length co30] 24 (0, 0)) (by (with_reducible repeat (first | refine blk_drewN ?_ _ | refine blk_drew ?_ | refine blk_alloc ?_ _)); exact BK112.out) hb); have n7_ := Aside0.mk (below_step (by repeat (first | (with_reducible first | exact HB.out | apply below_alloc | apply pw_below_drewN | apply below_drew1 | refine below_set ?_ GE112.out) | exact HB.out)) hb); clear HO_3; clear HO_16; clear HO_113001; clear HO162; clear HO165; clear BK112; clear HB; have HO_3 := n0_; have HO_16 := n1_; have HO_113001 := n2_; have HO162 := n3_; have HO165 := n4_; have HO169 := n5_; have BK112 := n6_; have HB := n7_; clear n0_ n1_ n2_ n3_ n4_ n5_ n6_ n7_; clear hb ho86; obtain ⟨Ao87, co87, eo87⟩ := Kd.R_slice HO169.out; subst eo87) | (go_at_call 22; (with_reducible refine (prop_Check.calls 3 _ _ y124 _ _ y167 t170 _ ?side1 ?side2 ?side3 ?side4 A76.out).mono ?_); (case side1 => repeat (first | exact (Kd.N_reads' HO_113001.out).2.2 | (with_reducible refine Kd.C_alloc ?_ _) | (with_reducible refine Kd.C_drewN ?_ _) | (with_reducible refine Kd.C_drew ?_))); (case side2 => exact (Kd.N_reads' HO_113001.out).2.1); (case side3 => repeat (first | exact (Kd.R_reads' HO169.out).2.2 | (with_reducible refine Kd.C_alloc ?_ _) | (with_reducible refine Kd.C_drewN ?_ _) | (with_reducible refine Kd.C_drew ?_))); (case side4 => exact (Kd.R_reads' HO169.out).2.1); rintro e w88 ⟨rfl, hb⟩; have n0_ := Aside0.mk (Kd.R_below (by (with_reducible repeat (first | apply Kd.R_alloc | apply Kd.R_drewN | apply Kd.R_drew)); exact HO_3.out) hb); have n1_ := Aside0.mk (Kd.R_below (by (with_reducible repeat (first | apply Kd.R_alloc | apply Kd.R_drewN | apply Kd.R_drew)); exact HO_16.out) hb); have n2_ := Aside0.mk (Kd.N_below (by (with_reducible repeat (first | apply Kd.N_alloc | apply Kd.N_drewN | apply Kd.N_drew)); exact HO_113001.out) hb); have n3_ := Aside0.mk (Kd.R_below (by (with_reducible repeat (first | apply Kd.R_alloc | apply Kd.R_drewN | apply Kd.R_drew)); exact HO162.out) hb); have n4_ := Aside0.mk (Kd.R_below (by (with_reducible repeat (first | apply Kd.R_alloc | apply Kd.R_drewN | apply Kd.R_drew)); exact HO165.out) hb); have n5_ := Aside0.mk (Kd.R_below (by (with_reducible repeat (first | apply Kd.R_alloc | apply Kd.R_drewN | apply Kd.R_drew)); exact HO169.out) hb); have n6_ := Aside0.mk (blk_below (g := gb112) (o := .cells #[.int .i64 3, .slice Ao30 y124.length co30] 24 (0, 0)) (by (with_reducible repeat (first | refine blk_drewN ?_ _ | refine blk_drew ?_ | refine blk_alloc ?_ _)); exact BK112.out) hb); have n7_ := Aside0.mk (below_step (by repeat (first | (with_reducible first | exact HB.out | apply below_alloc | apply pw_below_drewN | apply below_drew1 | refine below_set ?_ GE112.out) | exact HB.out)) hb); clear HO_3; clear HO_16; clear HO_113001; clear HO162; clear HO165; clear HO169; clear BK112; clear HB; have HO_3 := n0_; have HO_16 := n1_; have HO_113001 := n2_; have HO162 := n3_; have HO165 := n4_; have HO169 := n5_; have BK112 := n6_; have HB := n7_; clear n0_ n1_ n2_ n3_ n4_ n5_ n6_ n7_; (try clear hb); (try clear hb2); (try clear hk); (try clear hi)))
                                      go_ret
                                      exact ⟨by first | rfl | (simp [errW_none, errW_some] <;> rfl) | (simp [*, errW_none, errW_some] <;> rfl), by repeat (first | (with_reducible first | exact HB.out | apply below_alloc | apply pw_below_drewN | apply below_drew1 | refine below_set ?_ GE112.out) | exact HB.out)⟩
                                    · rw [if_neg c75] at H
                                      have c75b0 : (t166 == 0) = false := beq_eq_false_iff_ne.mpr c75
                                      have c75b1 : (t166 != 0) = true := bne_iff_ne.mpr c75
                                      obtain rfl := Option.some.inj H
                                      obtain ⟨Ao89, co89, eo89⟩ := Kd.R_slice HO_16.out
                                      subst eo89
                                      have p158 : 0 ≤ (0 : Int) := (by omega)
                                      have q158 : 0 < (t155.length : Int) := of_decide_eq_true (by first | (with_reducible assumption) | assumption)
                                      obtain ⟨ad158, e158, hx158_0⟩ := Kd.at_int (Kd.R_reads' HO_16.out).2.2 0 p158 q158
                                      cases e158
                                      have qi158 : (0 < t155.length) = True := eq_true (by omega)
                                      (try rw [show ((0 : Int)).toNat = 0 from rfl] at hx158_0)
                                      (try rw [Addr.add_zero'] at hx158_0)
                                      replace p158 := eq_true p158
                                      replace q158 := eq_true q158
                                      have p159 : 0 ≤ (2 : Int) := (by omega)
                                      have q159 : 2 < (t155.length : Int) := of_decide_eq_true (by first | (with_reducible assumption) | assumption)
                                      obtain ⟨ad159, e159, hx159_0⟩ := Kd.at_int (Kd.R_reads' HO_16.out).2.2 2 p159 q159
                                      obtain rfl : ad158 = ad159 := (by injection e159)
                                      (try simp only [show (2 : Int).toNat = 2 from rfl, Nat.reduceMul, Nat.reduceEqDiff, Go.Addr.add, ↓reduceIte] at hx159_0)
                                      have qi159 : (2 < t155.length) = True := eq_true (by omega)
                                      (try rw [show ((2 : Int)).toNat = 2 from rfl] at hx159_0)
                                      replace p159 := eq_true p159
                                      replace q159 := eq_true q159
                                      go_wp2_with (first | (go_at_call 20; (with_reducible refine (prop_Back.calls kj7 _ _ t116 0 t160 _ ?side1 ?side2 A70.out).mono ?_); (case side1 => repeat (first | exact (Kd.R_reads' HO_3.out).2.2 | (with_reducible refine Kd.C_alloc ?_ _) | (with_reducible refine Kd.C_drewN ?_ _) | (with_reducible refine Kd.C_drew ?_))); (case side2 => exact (Kd.R_reads' HO_3.out).2.1); rintro e w90 ⟨v161, rfl, ho0, hb⟩; have n0_ := Aside0.mk (Kd.R_elder' (by (with_reducible repeat (first | apply Kd.R_alloc | apply Kd.R_drewN | apply Kd.R_drew)); exact HO_3.out) (Kd.R_base ho0) hb); have n1_ := Aside0.mk (Kd.R_below (by (with_reducible repeat (first | apply Kd.R_alloc | apply Kd.R_drewN | apply Kd.R_drew)); exact HO_16.out) hb); have n2_ := Aside0.mk (Kd.N_elder' (by (with_reducible repeat (first | apply Kd.N_alloc | apply Kd.N_drewN | apply Kd.N_drew)); exact HO_113001.out) (Kd.R_base ho0) hb); have n3_ := Aside0.mk (Kd.R_lower (Kd.R_new' ho0 (Kd.R_lt (by (with_reducible repeat (first | apply Kd.R_alloc | apply Kd.R_drewN | apply Kd.R_drew)); exact HO_3.out))) (below_size (by repeat (first | (with_reducible first | exact HB.out | apply below_alloc | apply pw_below_drewN | apply below_drew1 | refine below_set ?_ GE112.out) | exact HB.out)))); have n4_ := Aside0.mk (blk_below (g := gb112) (o := .cells #[.int .i64 3, .slice Ao30 y124.length co30] 24 (0, 0)) (by (with_reducible repeat (first | refine blk_drewN ?_ _ | refine blk_drew ?_ | refine blk_alloc ?_ _)); exact BK112.out) hb); have n5_ := Aside0.mk (below_step (by repeat (first | (with_reducible first | exact HB.out | apply below_alloc | apply pw_below_drewN | apply below_drew1 | refine below_set ?_ GE112.out) | exact HB.out)) hb); clear HO_3; clear HO_16; clear HO_113001; clear BK112; clear HB; have HO_3 := n0_; have HO_16 := n1_; have HO_113001 := n2_; have HO162 := n3_; have BK112 := n4_; have HB := n5_; clear n0_ n1_ n2_ n3_ n4_ n5_; (try clear hb); (try clear hb2); (try clear hk); (try clear hi); (try clear ho0); obtain ⟨Ao91, co91, eo91⟩ := Kd.R_slice HO162.out; subst eo91) | (go_at_call 20; (with_reducible refine (prop_Back.calls kj7 _ _ t116 1 t163 _ ?side1 ?side2 A72.out).mono ?_); (case side1 => repeat (first | exact (Kd.R_reads' HO_3.out).2.2 | (with_reducible refine Kd.C_alloc ?_ _) | (with_reducible refine Kd.C_drewN ?_ _) | (with_reducible refine Kd.C_drew ?_))); (case side2 => exact (Kd.R_reads' HO_3.out).2.1); rintro e w92 ⟨v164, rfl, ho0, hb⟩; have n0_ := Aside0.mk (Kd.R_elder' (by (with_reducible repeat (first | apply Kd.R_alloc | apply Kd.R_drewN | apply Kd.R_drew)); exact HO_3.out) (Kd.R_base ho0) hb); have n1_ := Aside0.mk (Kd.R_below (by (with_reducible repeat (first | apply Kd.R_alloc | apply Kd.R_drewN | apply Kd.R_drew)); exact HO_16.out) hb); have n2_ := Aside0.mk (Kd.N_elder' (by (with_reducible repeat (first | apply Kd.N_alloc | apply Kd.N_drewN | apply Kd.N_drew)); exact HO_113001.out) (Kd.R_base ho0) hb); have n3_ := Aside0.mk (Kd.R_elder' (by (with_reducible repeat (first | apply Kd.R_alloc | apply Kd.R_drewN | apply Kd.R_drew)); exact HO162.out) (Kd.R_base ho0) hb); have n4_ := Aside0.mk (Kd.R_lower (Kd.R_new' (Kd.R_new' ho0 (Kd.R_lt (by (with_reducible repeat (first | apply Kd.R_alloc | apply Kd.R_drewN | apply Kd.R_drew)); exact HO_3.out))) (Kd.R_lt (by (with_reducible repeat (first | apply Kd.R_alloc | apply Kd.R_drewN | apply Kd.R_drew)); exact HO162.out))) (below_size (by repeat (first | (with_reducible first | exact HB.out | apply below_alloc | apply pw_below_drewN | apply below_drew1 | refine below_set ?_ GE112.out) | exact HB.out)))); have n5_ := Aside0.mk (blk_below (g := gb112) (o := .cells #[.int .i64 3, .slice Ao30 y124.length co30] 24 (0, 0)) (by (with_reducible repeat (first | refine blk_drewN ?_ _ | refine blk_drew ?_ | refine blk_alloc ?_ _)); exact BK112.out) hb); have n6_ := Aside0.mk (below_step (by repeat (first | (with_reducible first | exact HB.out | apply below_alloc | apply pw_below_drewN | apply below_drew1 | refine below_set ?_ GE112.out) | exact HB.out)) hb); clear HO_3; clear HO_16; clear HO_113001; clear HO162; clear BK112; clear HB; have HO_3 := n0_; have HO_16 := n1_; have HO_113001 := n2_; have HO162 := n3_; have HO165 := n4_; have BK112 := n5_; have HB := n6_; clear n0_ n1_ n2_ n3_ n4_ n5_ n6_; (try clear hb); (try clear hb2); (try clear hk); (try clear hi); (try clear ho0); obtain ⟨Ao93, co93, eo93⟩ := Kd.R_slice HO165.out; subst eo93; have hcz94_0 : w92.cell? ⟨gb112, 0, none⟩ = some (.int .i64 3) := (blk_cell BK112.out 0).trans rfl; have hcz94_1 : w92.cell? ⟨gb112, 1, none⟩ = some (.slice Ao30 y124.length co30) := (blk_cell BK112.out 1).trans rfl; have hfz94_0 := blk_frozen BK112.out 0; have hfz94_1 := blk_frozen BK112.out 1) | (go_at_call 22; (with_reducible refine (prop_Check.calls 3 _ _ y124 _ _ t116 t166 _ ?side1 ?side2 ?side3 ?side4 A74.out).mono ?_); (case side1 => repeat (first | exact (Kd.N_reads' HO_113001.out).2.2 | (with_reducible refine Kd.C_alloc ?_ _) | (with_reducible refine Kd.C_drewN ?_ _) | (with_reducible refine Kd.C_drew ?_))); (case side2 => exact (Kd.N_reads' HO_113001.out).2.1); (case side3 => repeat (first | exact (Kd.R_reads' HO_3.out).2.2 | (with_reducible refine Kd.C_alloc ?_ _) | (with_reducible refine Kd.C_drewN ?_ _) | (with_reducible refine Kd.C_drew ?_))); (case side4 => exact (Kd.R_reads' HO_3.out).2.1); rintro e w95 ⟨rfl, hb⟩; have n0_ := Aside0.mk (Kd.R_below (by (with_reducible repeat (first | apply Kd.R_alloc | apply Kd.R_drewN | apply Kd.R_drew)); exact HO_3.out) hb); have n1_ := Aside0.mk (Kd.R_below (by (with_reducible repeat (first | apply Kd.R_alloc | apply Kd.R_drewN | apply Kd.R_drew)); exact HO_16.out) hb); have n2_ := Aside0.mk (Kd.N_below (by (with_reducible repeat (first | apply Kd.N_alloc | apply Kd.N_drewN | apply Kd.N_drew)); exact HO_113001.out) hb); have n3_ := Aside0.mk (Kd.R_below (by (with_reducible repeat (first | apply Kd.R_alloc | apply Kd.R_drewN | apply Kd.R_drew)); exact HO162.out) hb); have n4_ := Aside0.mk (Kd.R_below (by (with_reducible repeat (first | apply Kd.R_alloc | apply Kd.R_drewN | apply Kd.R_drew)); exact HO165.out) hb); have n5_ := Aside0.mk (blk_below (g := gb112) (o := .cells #[.int .i64 3, .slice Ao30 y124.length co30] 24 (0, 0)) (by (with_reducible repeat (first | refine blk_drewN ?_ _ | refine blk_drew ?_ | refine blk_alloc ?_ _)); exact BK112.out) hb); have n6_ := Aside0.mk (below_step (by repeat (first | (with_reducible first | exact HB.out | apply below_alloc | apply pw_below_drewN | apply below_drew1 | refine below_set ?_ GE112.out) | exact HB.out)) hb); clear HO_3; clear HO_16; clear HO_113001; clear HO162; clear HO165; clear BK112; clear HB; have HO_3 := n0_; have HO_16 := n1_; have HO_113001 := n2_; have HO162 := n3_; have HO165 := n4_; have BK112 := n5_; have HB := n6_; clear n0_ n1_ n2_ n3_ n4_ n5_ n6_; (try clear hb); (try clear hb2); (try clear hk); (try clear hi)))
                                      go_ret
                                      exact ⟨by first | rfl | (simp [errW_none, errW_some] <;> rfl) | (simp [*, errW_none, errW_some] <;> rfl), by repeat (first | (with_reducible first | exact HB.out | apply below_alloc | apply pw_below_drewN | apply below_drew1 | refine below_set ?_ GE112.out) | exact HB.out)⟩
                                  · rw [if_neg c73] at H
                                    have c73b0 : ((t163.length : Int) == 3) = false := beq_eq_false_iff_ne.mpr c73
                                    have c73b1 : ((t163.length : Int) != 3) = true := bne_iff_ne.mpr c73
                                    obtain rfl := Option.some.inj H
                                    obtain ⟨Ao96, co96, eo96⟩ := Kd.R_slice HO_16.out
                                    subst eo96
                                    have p158 : 0 ≤ (0 : Int) := (by omega)
                                    have q158 : 0 < (t155.length : Int) := of_decide_eq_true (by first | (with_reducible assumption) | assumption)
                                    obtain ⟨ad158, e158, hx158_0⟩ := Kd.at_int (Kd.R_reads' HO_16.out).2.2 0 p158 q158
                                    cases e158
                                    have qi158 : (0 < t155.length) = True := eq_true (by omega)
                                    (try rw [show ((0 : Int)).toNat = 0 from rfl] at hx158_0)
                                    (try rw [Addr.add_zero'] at hx158_0)
                                    replace p158 := eq_true p158
                                    replace q158 := eq_true q158
                                    have p159 : 0 ≤ (2 : Int) := (by omega)
                                    have q159 : 2 < (t155.length : Int) := of_decide_eq_true (by first | (with_reducible assumption) | assumption)
                                    obtain ⟨ad159, e159, hx159_0⟩ := Kd.at_int (Kd.R_reads' HO_16.out).2.2 2 p159 q159
                                    obtain rfl : ad158 = ad159 := (by injection e159)
                                    (try simp only [show (2 : Int).toNat = 2 from rfl, Nat.reduceMul, Nat.reduceEqDiff, Go.Addr.add, ↓reduceIte] at hx159_0)
                                    have qi159 : (2 < t155.length) = True := eq_true (by omega)
                                    (try rw [show ((2 : Int)).toNat = 2 from rfl] at hx159_0)
                                    replace p159 := eq_true p159
                                    replace q159 := eq_true q159
                                    go_wp2_with (first | (go_at_call 20; (with_reducible refine (prop_Back.calls kj7 _ _ t116 0 t160 _ ?side1 ?side2 A70.out).mono ?_); (case side1 => repeat (first | exact (Kd.R_reads' HO_3.out).2.2 | (with_reducible refine Kd.C_alloc ?_ _) | (with_reducible refine Kd.C_drewN ?_ _) | (with_reducible refine Kd.C_drew ?_))); (case side2 => exact (Kd.R_reads' HO_3.out).2.1); rintro e w97 ⟨v161, rfl, ho0, hb⟩; have n0_ := Aside0.mk (Kd.R_elder' (by (with_reducible repeat (first | apply Kd.R_alloc | apply Kd.R_drewN | apply Kd.R_drew)); exact HO_3.out) (Kd.R_base ho0) hb); have n1_ := Aside0.mk (Kd.R_below (by (with_reducible repeat (first | apply Kd.R_alloc | apply Kd.R_drewN | apply Kd.R_drew)); exact HO_16.out) hb); have n2_ := Aside0.mk (Kd.N_elder' (by (with_reducible repeat (first | apply Kd.N_alloc | apply Kd.N_drewN | apply Kd.N_drew)); exact HO_113001.out) (Kd.R_base ho0) hb); have n3_ := Aside0.mk (Kd.R_lower (Kd.R_new' ho0 (Kd.R_lt (by (with_reducible repeat (first | apply Kd.R_alloc | apply Kd.R_drewN | apply Kd.R_drew)); exact HO_3.out))) (below_size (by repeat (first | (with_reducible first | exact HB.out | apply below_alloc | apply pw_below_drewN | apply below_drew1 | refine below_set ?_ GE112.out) | exact HB.out)))); have n4_ := Aside0.mk (blk_below (g := gb112) (o := .cells #[.int .i64 3, .slice Ao30 y124.length co30] 24 (0, 0)) (by (with_reducible repeat (first | refine blk_drewN ?_ _ | refine blk_drew ?_ | refine blk_alloc ?_ _)); exact BK112.out) hb); have n5_ := Aside0.mk (below_step (by repeat (first | (with_reducible first | exact HB.out | apply below_alloc | apply pw_below_drewN | apply below_drew1 | refine below_set ?_ GE112.out) | exact HB.out)) hb); clear HO_3; clear HO_16; clear HO_113001; clear BK112; clear HB; have HO_3 := n0_; have HO_16 := n1_; have HO_113001 := n2_; have HO162 := n3_; have BK112 := n4_; have HB := n5_; clear n0_ n1_ n2_ n3_ n4_ n5_; (try clear hb); (try clear hb2); (try clear hk); (try clear hi); (try clear ho0); obtain ⟨Ao98, co98, eo98⟩ := Kd.R_slice HO162.out; subst eo98) | (go_at_call 20; (with_reducible refine (prop_Back.calls kj7 _ _ t116 1 t163 _ ?side1 ?side2 A72.out).mono ?_); (case side1 => repeat (first | exact (Kd.R_reads' HO_3.out).2.2 | (with_reducible refine Kd.C_alloc ?_ _) | (with_reducible refine Kd.C_drewN ?_ _) | (with_reducible refine Kd.C_drew ?_))); (case side2 => exact (Kd.R_reads' HO_3.out).2.1); rintro e w99 ⟨v164, rfl, ho0, hb⟩; have n0_ := Aside0.mk (Kd.R_elder' (by (with_reducible repeat (first | apply Kd.R_alloc | apply Kd.R_drewN | apply Kd.R_drew)); exact HO_3.out) (Kd.R_base ho0) hb); have n1_ := Aside0.mk (Kd.R_below (by (with_reducible repeat (first | apply Kd.R_alloc | apply Kd.R_drewN | apply Kd.R_drew)); exact HO_16.out) hb); have n2_ := Aside0.mk (Kd.N_elder' (by (with_reducible repeat (first | apply Kd.N_alloc | apply Kd.N_drewN | apply Kd.N_drew)); exact HO_113001.out) (Kd.R_base ho0) hb); have n3_ := Aside0.mk (Kd.R_elder' (by (with_reducible repeat (first | apply Kd.R_alloc | apply Kd.R_drewN | apply Kd.R_drew)); exact HO162.out) (Kd.R_base ho0) hb); have n4_ := Aside0.mk (Kd.R_lower (Kd.R_new' (Kd.R_new' ho0 (Kd.R_lt (by (with_reducible repeat (first | apply Kd.R_alloc | apply Kd.R_drewN | apply Kd.R_drew)); exact HO_3.out))) (Kd.R_lt (by (with_reducible repeat (first | apply Kd.R_alloc | apply Kd.R_drewN | apply Kd.R_drew)); exact HO162.out))) (below_size (by repeat (first | (with_reducible first | exact HB.out | apply below_alloc | apply pw_below_drewN | apply below_drew1 | refine below_set ?_ GE112.out) | exact HB.out)))); have n5_ := Aside0.mk (blk_below (g := gb112) (o := .cells #[.int .i64 3, .slice Ao30 y124.length co30] 24 (0, 0)) (by (with_reducible repeat (first | refine blk_drewN ?_ _ | refine blk_drew ?_ | refine blk_alloc ?_ _)); exact BK112.out) hb); have n6_ := Aside0.mk (below_step (by repeat (first | (with_reducible first | exact HB.out | apply below_alloc | apply pw_below_drewN | apply below_drew1 | refine below_set ?_ GE112.out) | exact HB.out)) hb); clear HO_3; clear HO_16; clear HO_113001; clear HO162; clear BK112; clear HB; have HO_3 := n0_; have HO_16 := n1_; have HO_113001 := n2_; have HO162 := n3_; have HO165 := n4_; have BK112 := n5_; have HB := n6_; clear n0_ n1_ n2_ n3_ n4_ n5_ n6_; (try clear hb); (try clear hb2); (try clear hk); (try clear hi); (try clear ho0); obtain ⟨Ao100, co100, eo100⟩ := Kd.R_slice HO165.out; subst eo100))
                                    go_ret
                                    exact ⟨by first | rfl | (simp [errW_none, errW_some] <;> rfl) | (simp [*, errW_none, errW_some] <;> rfl), by repeat (first | (with_reducible first | exact HB.out | apply below_alloc | apply pw_below_drewN | apply below_drew1 | refine below_set ?_ GE112.out) | exact HB.out)⟩
                                · rw [if_neg c71] at H
                                  have c71b0 : ((t160.length : Int) == 0) = false := beq_eq_false_iff_ne.mpr c71
                                  have c71b1 : ((t160.length : Int) != 0) = true := bne_iff_ne.mpr c71
                                  have c71b2 : ¬ (t160 = []) := fun h_ => c71 (by rw [h_]; rfl)
                                  obtain rfl := Option.some.inj H
                                  obtain ⟨Ao101, co101, eo101⟩ := Kd.R_slice HO_16.out
                                  subst eo101
                                  have p158 : 0 ≤ (0 : Int) := (by omega)
                                  have q158 : 0 < (t155.length : Int) := of_decide_eq_true (by first | (with_reducible assumption) | assumption)
                                  obtain ⟨ad158, e158, hx158_0⟩ := Kd.at_int (Kd.R_reads' HO_16.out).2.2 0 p158 q158
                                  cases e158
                                  have qi158 : (0 < t155.length) = True := eq_true (by omega)
                                  (try rw [show ((0 : Int)).toNat = 0 from rfl] at hx158_0)
                                  (try rw [Addr.add_zero'] at hx158_0)
                                  replace p158 := eq_true p158
                                  replace q158 := eq_true q158
                                  have p159 : 0 ≤ (2 : Int) := (by omega)
                                  have q159 : 2 < (t155.length : Int) := of_decide_eq_true (by first | (with_reducible assumption) | assumption)
                                  obtain ⟨ad159, e159, hx159_0⟩ := Kd.at_int (Kd.R_reads' HO_16.out).2.2 2 p159 q159
                                  obtain rfl : ad158 = ad159 := (by injection e159)
                                  (try simp only [show (2 : Int).toNat = 2 from rfl, Nat.reduceMul, Nat.reduceEqDiff, Go.Addr.add, ↓reduceIte] at hx159_0)
                                  have qi159 : (2 < t155.length) = True := eq_true (by omega)
                                  (try rw [show ((2 : Int)).toNat = 2 from rfl] at hx159_0)
                                  replace p159 := eq_true p159
                                  replace q159 := eq_true q159
                                  go_wp2_with (first | (go_at_call 20; (with_reducible refine (prop_Back.calls kj7 _ _ t116 0 t160 _ ?side1 ?side2 A70.out).mono ?_); (case side1 => repeat (first | exact (Kd.R_reads' HO_3.out).2.2 | (with_reducible refine Kd.C_alloc ?_ _) | (with_reducible refine Kd.C_drewN ?_ _) | (with_reducible refine Kd.C_drew ?_))); (case side2 => exact (Kd.R_reads' HO_3.out).2.1); rintro e w102 ⟨v161, rfl, ho0, hb⟩; have n0_ := Aside0.mk (Kd.R_elder' (by (with_reducible repeat (first | apply Kd.R_alloc | apply Kd.R_drewN | apply Kd.R_drew)); exact HO_3.out) (Kd.R_base ho0) hb); have n1_ := Aside0.mk (Kd.R_below (by (with_reducible repeat (first | apply Kd.R_alloc | apply Kd.R_drewN | apply Kd.R_drew)); exact HO_16.out) hb); have n2_ := Aside0.mk (Kd.N_elder' (by (with_reducible repeat (first | apply Kd.N_alloc | apply Kd.N_drewN | apply Kd.N_drew)); exact HO_113001.out) (Kd.R_base ho0) hb); have n3_ := Aside0.mk (Kd.R_lower (Kd.R_new' ho0 (Kd.R_lt (by (with_reducible repeat (first | apply Kd.R_alloc | apply Kd.R_drewN | apply Kd.R_drew)); exact HO_3.out))) (below_size (by repeat (first | (with_reducible first | exact HB.out | apply below_alloc | apply pw_below_drewN | apply below_drew1 | refine below_set ?_ GE112.out) | exact HB.out)))); have n4_ := Aside0.mk (blk_below (g := gb112) (o := .cells #[.int .i64 3, .slice Ao30 y124.length co30] 24 (0, 0)) (by (with_reducible repeat (first | refine blk_drewN ?_ _ | refine blk_drew ?_ | refine blk_alloc ?_ _)); exact BK112.out) hb); have n5_ := Aside0.mk (below_step (by repeat (first | (with_reducible first | exact HB.out | apply below_alloc | apply pw_below_drewN | apply below_drew1 | refine below_set ?_ GE112.out) | exact HB.out)) hb); clear HO_3; clear HO_16; clear HO_113001; clear BK112; clear HB; have HO_3 := n0_; have HO_16 := n1_; have HO_113001 := n2_; have HO162 := n3_; have BK112 := n4_; have HB := n5_; clear n0_ n1_ n2_ n3_ n4_ n5_; (try clear hb); (try clear hb2); (try clear hk); (try clear hi); (try clear ho0); obtain ⟨Ao103, co103, eo103⟩ := Kd.R_slice HO162.out; subst eo103))
                                  go_ret
                                  exact ⟨by first | rfl | (simp [errW_none, errW_some] <;> rfl) | (simp [*, errW_none, errW_some] <;> rfl), by repeat (first | (with_reducible first | exact HB.out | apply below_alloc | apply pw_below_drewN | apply below_drew1 | refine below_set ?_ GE112.out) | exact HB.out)⟩
                              · rw [if_neg c69] at H
                                have c69b0 : ((rd t155 2) == 1) = false := beq_eq_false_iff_ne.mpr c69
                                have c69b1 : ((rd t155 2) != 1) = true := bne_iff_ne.mpr c69
                                obtain rfl := Option.some.inj H
                                obtain ⟨Ao104, co104, eo104⟩ := Kd.R_slice HO_16.out
                                subst eo104
                                have p158 : 0 ≤ (0 : Int) := (by omega)
                                have q158 : 0 < (t155.length : Int) := of_decide_eq_true (by first | (with_reducible assumption) | assumption)
                                obtain ⟨ad158, e158, hx158_0⟩ := Kd.at_int (Kd.R_reads' HO_16.out).2.2 0 p158 q158
                                cases e158
                                have qi158 : (0 < t155.length) = True := eq_true (by omega)
                                (try rw [show ((0 : Int)).toNat = 0 from rfl] at hx158_0)
                                (try rw [Addr.add_zero'] at hx158_0)
                                replace p158 := eq_true p158
                                replace q158 := eq_true q158
                                have p159 : 0 ≤ (2 : Int) := (by omega)
                                have q159 : 2 < (t155.length : Int) := of_decide_eq_true (by first | (with_reducible assumption) | assumption)
                                obtain ⟨ad159, e159, hx159_0⟩ := Kd.at_int (Kd.R_reads' HO_16.out).2.2 2 p159 q159
                                obtain rfl : ad158 = ad159 := (by injection e159)
                                (try simp only [show (2 : Int).toNat = 2 from rfl, Nat.reduceMul, Nat.reduceEqDiff, Go.Addr.add, ↓reduceIte] at hx159_0)
                                have qi159 : (2 < t155.length) = True := eq_true (by omega)
                                (try rw [show ((2 : Int)).toNat = 2 from rfl] at hx159_0)
                                replace p159 := eq_true p159
                                replace q159 := eq_true q159
                                go_wp2
                                go_ret
                                exact ⟨by first | rfl | (simp [errW_none, errW_some] <;> rfl) | (simp [*, errW_none, errW_some] <;> rfl), by repeat (first | (with_reducible first | exact HB.out | apply below_alloc | apply pw_below_drewN | apply below_drew1 | refine below_set ?_ GE112.out) | exact HB.out)⟩
                            · rw [if_neg c68] at H
                              exact absurd H (by simp)
                          · rw [if_neg c67] at H
                            have c67b0 : ((rd t155 0) == 1) = false := beq_eq_false_iff_ne.mpr c67
                            have c67b1 : ((rd t155 0) != 1) = true := bne_iff_ne.mpr c67
                            obtain rfl := Option.some.inj H
                            obtain ⟨Ao105, co105, eo105⟩ := Kd.R_slice HO_16.out
                            subst eo105
                            have p158 : 0 ≤ (0 : Int) := (by omega)
                            have q158 : 0 < (t155.length : Int) := of_decide_eq_true (by first | (with_reducible assumption) | assumption)
                            obtain ⟨ad158, e158, hx158_0⟩ := Kd.at_int (Kd.R_reads' HO_16.out).2.2 0 p158 q158
                            cases e158
                            have qi158 : (0 < t155.length) = True := eq_true (by omega)
                            (try rw [show ((0 : Int)).toNat = 0 from rfl] at hx158_0)
                            (try rw [Addr.add_zero'] at hx158_0)
                            replace p158 := eq_true p158
                            replace q158 := eq_true q158
                            go_wp2
                            go_ret
                            exact ⟨by first | rfl | (simp [errW_none, errW_some] <;> rfl) | (simp [*, errW_none, errW_some] <;> rfl), by repeat (first | (with_reducible first | exact HB.out | apply below_alloc | apply pw_below_drewN | apply below_drew1 | refine below_set ?_ GE112.out) | exact HB.out)⟩
                        · rw [if_neg c66] at H
                          exact absurd H (by simp)
                      · rw [if_neg c65] at H
                        have c65b0 : (t150 == 1) = false := beq_eq_false_iff_ne.mpr c65
                        have c65b1 : (t150 != 1) = true := bne_iff_ne.mpr c65
                        obtain rfl := Option.some.inj H
                        go_wp2
                        go_ret
                        exact ⟨by first | rfl | (simp [errW_none, errW_some] <;> rfl) | (simp [*, errW_none, errW_some] <;> rfl), by repeat (first | (with_reducible first | exact HB.out | apply below_alloc | apply pw_below_drewN | apply below_drew1 | refine below_set ?_ GE112.out) | exact HB.out)⟩
                    · rw [if_neg c64] at H
                      have c64b0 : (t141 == 0) = false := beq_eq_false_iff_ne.mpr c64
                      have c64b1 : (t141 != 0) = true := bne_iff_ne.mpr c64
                      obtain rfl := Option.some.inj H
                      go_wp2
                      go_ret
                      exact ⟨by first | rfl | (simp [errW_none, errW_some] <;> rfl) | (simp [*, errW_none, errW_some] <;> rfl), by repeat (first | (with_reducible first | exact HB.out | apply below_alloc | apply pw_below_drewN | apply below_drew1 | refine below_set ?_ GE112.out) | exact HB.out)⟩
                  · rw [if_neg c63] at H
                    have c63b0 : (t142 == 0) = false := beq_eq_false_iff_ne.mpr c63
                    have c63b1 : (t142 != 0) = true := bne_iff_ne.mpr c63
                    obtain rfl := Option.some.inj H
                    go_wp2
                    go_ret
                    exact ⟨by first | rfl | (simp [errW_none, errW_some] <;> rfl) | (simp [*, errW_none, errW_some] <;> rfl), by repeat (first | (with_reducible first | exact HB.out | apply below_alloc | apply pw_below_drewN | apply below_drew1 | refine below_set ?_ GE112.out) | exact HB.out)⟩
                · rw [if_neg c62] at H
                  have c62b0 : (t131 == 0) = false := beq_eq_false_iff_ne.mpr c62
                  have c62b1 : (t131 != 0) = true := bne_iff_ne.mpr c62
                  obtain rfl := Option.some.inj H
                  go_wp2
                  go_ret
                  exact ⟨by first | rfl | (simp [errW_none, errW_some] <;> rfl) | (simp [*, errW_none, errW_some] <;> rfl), by repeat (first | (with_reducible first | exact HB.out | apply below_alloc | apply pw_below_drewN | apply below_drew1 | refine below_set ?_ GE112.out) | exact HB.out)⟩
              · rw [if_neg c61] at H
                have c61b0 : (t120 == 0) = false := beq_eq_false_iff_ne.mpr c61
                have c61b1 : (t120 != 0) = true := bne_iff_ne.mpr c61
                obtain rfl := Option.some.inj H
                go_wp2
                go_ret
                exact ⟨by first | rfl | (simp [errW_none, errW_some] <;> rfl) | (simp [*, errW_none, errW_some] <;> rfl), by repeat (first | (with_reducible first | exact HB.out | apply below_alloc | apply pw_below_drewN | apply below_drew1 | refine below_set ?_ GE112.out) | exact HB.out)⟩
            · rw [if_neg c60] at H
              have c60b0 : (t119 == (-1)) = false := beq_eq_false_iff_ne.mpr c60
              have c60b1 : (t119 != (-1)) = true := bne_iff_ne.mpr c60
              obtain rfl := Option.some.inj H
              go_wp2
              go_ret
              exact ⟨by first | rfl | (simp [errW_none, errW_some] <;> rfl) | (simp [*, errW_none, errW_some] <;> rfl), by repeat (first | (with_reducible first | exact HB.out | apply below_alloc | apply pw_below_drewN | apply below_drew1 | refine below_set ?_ GE112.out) | exact HB.out)⟩
          · replace c59 := Bool.eq_false_iff.mpr c59
            subst c59
            have H1 : (some false) = some r := by rw [if_neg (show ¬ (false = true) by decide)] at H; exact H
            clear H
            have H := H1
            clear H1
            obtain rfl := Option.some.inj H
            go_wp2
            go_ret
            exact ⟨by first | rfl | (simp [errW_none, errW_some] <;> rfl) | (simp [*, errW_none, errW_some] <;> rfl), by repeat (first | (with_reducible first | exact HB.out | apply below_alloc | apply pw_below_drewN | apply below_drew1 | refine below_set ?_ GE112.out) | exact HB.out)⟩
  · rw [if_neg c2] at H
    exact absurd H (by simp)

/-- THE ONE PURE STATEMENT of chalklinelaw19_live: yours. -/
def chalklinelaw19_live.Pure : Prop := ∃ k, chalklinelaw19_live.f k  = some true
theorem chalklinelaw19_live.walk (P : chalklinelaw19_live.Pure)  (w : World)  :
    Calls Try.prog 11 #[] w fun e w' => e = .returned (.bool true) ∧ Below w.heap.size w w' := by
  obtain ⟨k, h⟩ := P  
  refine (chalklinelaw19_live.calls k  true w h).mono ?_
  rintro e w' ⟨rfl, hd⟩
  exact ⟨rfl, hd⟩

/-! ### chalklinelaw19_few: function 12 -/
def chalklinelaw19_few.f (k : Nat) (a0_0 : Int) (l0_1 : List (List Int)) (l1 : List (S32)) : Option (Bool) := (chalklineref14_Few.f k l0_1).bind fun t172 => (if t172 = true then (some (decide ((l1.length : Int) ≤ 60))) else (some false))
theorem chalklinelaw19_few.mono : ∀ a0 a1 a2 k, LeO (chalklinelaw19_few.f k a0 a1 a2) (chalklinelaw19_few.f (k + 1) a0 a1 a2) := by
  intro a0 a1 a2 k
  unfold chalklinelaw19_few.f
  repeat' first
      | (with_reducible exact chalklineref14_Few.mono _ _)
      | (with_reducible exact LeO.refl _)
      | (with_reducible exact LeO.none _)
      | (with_reducible refine LeO.ite ?_ ?_)
      | (with_reducible refine LeO.bind ?_ (fun _ => ?_))
      | exact chalklineref14_Few.mono _ _
      | exact LeO.none _
      | refine LeO.ite ?_ ?_
      | refine LeO.bind ?_ (fun _ => ?_)
set_option maxHeartbeats 8000000 in
set_option maxRecDepth 100000 in
theorem chalklinelaw19_few.calls (k : Nat) (a0_0 : Int) (A0_1 : Option Addr) (c0_1 : Nat) (l0_1 : List (List Int)) (A1 : Option Addr) (c1 : Nat) (l1 : List (S32)) (r : Bool) (w : World) (hr0_1 : Kd.C (Kd.slice 3 (Kd.int .i64)) w A0_1 l0_1.length l0_1) (hc0_1 : l0_1.length ≤ c0_1) (hr1 : Kd.C k32 w A1 l1.length l1) (hc1 : l1.length ≤ c1) (h : chalklinelaw19_few.f k a0_0 l0_1 l1 = some r) :
    Calls Try.prog 12 #[.agg #[.int .i64 a0_0, .slice A0_1 l0_1.length c0_1], .slice A1 l1.length c1] w fun e w' => e = .returned (.bool r) ∧ Below w.heap.size w w' := by
  have hu24 := Try.underlying24
  have HR0_1 := Aside0.mk hr0_1
  have HC0_1 := Aside0.mk hc0_1
  clear hr0_1 hc0_1
  have HR1 := Aside0.mk hr1
  have HC1 := Aside0.mk hc1
  clear hr1 hc1
  have HB := Aside0.mk (Below.refl w.heap.size w)
  have H : ((chalklineref14_Few.f k l0_1).bind fun t172 => (if t172 = true then (some (decide ((l1.length : Int) ≤ 60))) else (some false))) = some r := h
  clear h
  replace H := Option.bind_eq_some_iff.mp H
  obtain ⟨t172, A30, H⟩ := H
  replace H : (if t172 = true then (some (decide ((l1.length : Int) ≤ 60))) else (some false)) = some r := H
  have A3 := Aside0.mk A30
  clear A30
  by_cases c4 : t172 = true
  · subst c4
    have H1 : (some (decide ((l1.length : Int) ≤ 60))) = some r := by rw [if_pos rfl] at H; exact H
    clear H
    have H := H1
    clear H1
    obtain rfl := Option.some.inj H
    go_enter Try.func12, Try.ntmps12
    go_wp2_with (first | ((with_reducible refine gate_dst (N := 2) rfl ?_); (try (refine gate_guard (by rfl) ?_; dsimp only)); refine box_event ?hg (N := 2) ?hd (cs := #[.int .i64 a0_0, .slice A0_1 l0_1.length c0_1]) (t := 24) ?hr ?_; (case hd => rfl); (case hg => rfl); (case hr => first | (go_simp; done) | (go_simp; rfl)); intro gb171 hg w5 hbox hb; have n0_ := Aside0.mk (below_step (by repeat (first | (with_reducible first | exact HB.out | apply below_alloc | apply pw_below_drewN | apply below_drew1) | exact HB.out)) hb); have n1_ := Aside0.mk (hbox); have n2_ := Aside0.mk ((by rw [hg]; exact (below_size (by repeat (first | (with_reducible first | exact HB.out | apply below_alloc | apply pw_below_drewN | apply below_drew1) | exact HB.out))) : w.heap.size ≤ gb171)); have n3_ := Aside0.mk ((by rw [hg]; exact (below_size (by repeat (first | (with_reducible first | exact HB.out | apply below_alloc | apply pw_below_drewN | apply below_drew1) | exact HB.out))) : w.heap.size ≤ gb171)); clear HB; have HB := n0_; have BK171 := n1_; have GW171 := n2_; have GE171 := n3_; clear n0_ n1_ n2_ n3_; clear hb hbox hg; have hcz6_0 : w5.cell? ⟨gb171, 0, none⟩ = some (.int .i64 a0_0) := (blk_cell BK171.out 0).trans rfl; have hcz6_1 : w5.cell? ⟨gb171, 1, none⟩ = some (.slice A0_1 l0_1.length c0_1) := (blk_cell BK171.out 1).trans rfl; have hfz6_0 := blk_frozen BK171.out 0; have hfz6_1 := blk_frozen BK171.out 1) | ((with_reducible refine gate_callee (f := 29) rfl ?_); refine goesL_ (some 8) rfl rfl Try.func29 (by kernel_rfl) rfl #[.slice A0_1 l0_1.length c0_1] rfl (by (try simp only [List.map_toArray, List.map_cons, List.map_nil]); first | done | rfl | (simp only [List.length_drop, List.length_take]; rfl)) ?_; (with_reducible refine (chalklineref14_Few.calls k _ _ l0_1 true _ ?side1 ?side2 A3.out).mono ?_); (case side1 => repeat (first | exact (Kd.C_below HR0_1.out HB.out) | (with_reducible refine Kd.C_alloc ?_ _) | (with_reducible refine Kd.C_drewN ?_ _) | (with_reducible refine Kd.C_drew ?_))); (case side2 => exact HC0_1.out); rintro e w' ⟨rfl, ⟨nd, rfl⟩⟩; refine ⟨_, rfl, ?_⟩))
    go_ret
    exact ⟨by first | rfl | (simp [errW_none, errW_some] <;> rfl) | (simp [*, errW_none, errW_some] <;> rfl), by repeat (first | (with_reducible first | exact HB.out | apply below_alloc | apply pw_below_drewN | apply below_drew1 | refine below_set ?_ GE171.out) | exact HB.out)⟩
  · replace c4 := Bool.eq_false_iff.mpr c4
    subst c4
    have H1 : (some false) = some r := by rw [if_neg (show ¬ (false = true) by decide)] at H; exact H
    clear H
    have H := H1
    clear H1
    obtain rfl := Option.some.inj H
    go_enter Try.func12, Try.ntmps12
    go_wp2_with (first | ((with_reducible refine gate_dst (N := 2) rfl ?_); (try (refine gate_guard (by rfl) ?_; dsimp only)); refine box_event ?hg (N := 2) ?hd (cs := #[.int .i64 a0_0, .slice A0_1 l0_1.length c0_1]) (t := 24) ?hr ?_; (case hd => rfl); (case hg => rfl); (case hr => first | (go_simp; done) | (go_simp; rfl)); intro gb171 hg w7 hbox hb; have n0_ := Aside0.mk (below_step (by repeat (first | (with_reducible first | exact HB.out | apply below_alloc | apply pw_below_drewN | apply below_drew1) | exact HB.out)) hb); have n1_ := Aside0.mk (hbox); have n2_ := Aside0.mk ((by rw [hg]; exact (below_size (by repeat (first | (with_reducible first | exact HB.out | apply below_alloc | apply pw_below_drewN | apply below_drew1) | exact HB.out))) : w.heap.size ≤ gb171)); have n3_ := Aside0.mk ((by rw [hg]; exact (below_size (by repeat (first | (with_reducible first | exact HB.out | apply below_alloc | apply pw_below_drewN | apply below_drew1) | exact HB.out))) : w.heap.size ≤ gb171)); clear HB; have HB := n0_; have BK171 := n1_; have GW171 := n2_; have GE171 := n3_; clear n0_ n1_ n2_ n3_; clear hb hbox hg; have hcz8_0 : w7.cell? ⟨gb171, 0, none⟩ = some (.int .i64 a0_0) := (blk_cell BK171.out 0).trans rfl; have hcz8_1 : w7.cell? ⟨gb171, 1, none⟩ = some (.slice A0_1 l0_1.length c0_1) := (blk_cell BK171.out 1).trans rfl; have hfz8_0 := blk_frozen BK171.out 0; have hfz8_1 := blk_frozen BK171.out 1) | ((with_reducible refine gate_callee (f := 29) rfl ?_); refine goesL_ (some 8) rfl rfl Try.func29 (by kernel_rfl) rfl #[.slice A0_1 l0_1.length c0_1] rfl (by (try simp only [List.map_toArray, List.map_cons, List.map_nil]); first | done | rfl | (simp only [List.length_drop, List.length_take]; rfl)) ?_; (with_reducible refine (chalklineref14_Few.calls k _ _ l0_1 false _ ?side1 ?side2 A3.out).mono ?_); (case side1 => repeat (first | exact (Kd.C_below HR0_1.out HB.out) | (with_reducible refine Kd.C_alloc ?_ _) | (with_reducible refine Kd.C_drewN ?_ _) | (with_reducible refine Kd.C_drew ?_))); (case side2 => exact HC0_1.out); rintro e w' ⟨rfl, ⟨nd, rfl⟩⟩; refine ⟨_, rfl, ?_⟩))
    go_ret
    exact ⟨by first | rfl | (simp [errW_none, errW_some] <;> rfl) | (simp [*, errW_none, errW_some] <;> rfl), by repeat (first | (with_reducible first | exact HB.out | apply below_alloc | apply pw_below_drewN | apply below_drew1 | refine below_set ?_ GE171.out) | exact HB.out)⟩

end Go.Proofs.Ytidgljajegoffaa.QLv
