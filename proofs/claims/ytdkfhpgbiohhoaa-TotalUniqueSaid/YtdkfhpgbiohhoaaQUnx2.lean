-- Printed for this seat by a program of this session (wip/tools/give.py).
import Derived.Test.YtdkfhpgbiohhoaaQUnx0
import Derived.Test.YtdkfhpgbiohhoaaQUnx1
namespace Go.Proofs.Ytdkfhpgbiohhoaa.QUn
open Go.RowKit Go.Proofs.YtdkfhpgbiohhoaaW.PrintWords Go.Proofs.YtdkfhpgbiohhoaaW.PrintLast Go.Proofs.YtdkfhpgbiohhoaaW.PrintMore Go.Proofs.Ytdkfhpgbiohhoaa.G
attribute [local go_sem] max2_int min2_int max_two min_two max_three min_three max_four min_four   -- for this text's walks alone
set_option linter.unusedVariables false
set_option linter.unusedSimpArgs false

/-! ### chalklinelaw15_TotalUnique: function 6 -/
mutual
def chalklinelaw15_TotalUnique.j0 : Nat → List Int → Int → Int → List Bool → Bool → Option (Bool)
  | 0, _, _, _, _, _ => none
  | k + 1, x0, x1, x2, x3, x28 => if x28 = true then (some true) else ((total_Total.f x0 x1 x2).bind fun bt118 => (if bt118.2.2.2 = 0 then (if (wrap64 (bt118.2.2.1 - x2)) < 0 then (chalklinelaw15_TotalUnique.j1 k x0 x2 x3 bt118.1 bt118.2.1 bt118.2.2.1 (wrap64 (bt118.2.2.1 - x2)) true) else (chalklinelaw15_TotalUnique.j1 k x0 x2 x3 bt118.1 bt118.2.1 bt118.2.2.1 (wrap64 (bt118.2.2.1 - x2)) (decide ((wrap64 (bt118.2.2.1 - x2)) > 8)))) else (some true)))
def chalklinelaw15_TotalUnique.j1 : Nat → List Int → Int → List Bool → List Int → List (List Int) → Int → Int → Bool → Option (Bool)
  | 0, _, _, _, _, _, _, _, _ => none
  | k + 1, x0, x2, x3, x9, x10, x11, x13, x48 => if x48 = true then (some false) else ((chalklinelaw15_padded.f k x3 x11).bind fun t126 => (chalklinelaw15_TotalUnique.l0 k x0 x2 x9 x10 x13 t126 0 0))
def chalklinelaw15_TotalUnique.l0 : Nat → List Int → Int → List Int → List (List Int) → Int → List Bool → Int → Int → Option (Bool)
  | 0, _, _, _, _, _, _, _, _ => none
  | k + 1, x0, x2, x9, x10, x13, x14, x15, x16 => if 0 ≤ (IntKind.u64.wrap (x13)) then (if x16 < (shl .i64 1 (IntKind.u64.wrap (x13))) then (chalklinelaw15_TotalUnique.l1 k x0 x2 x9 x10 x13 x14 x15 x16 0) else (some (x15 == 1))) else (none)
def chalklinelaw15_TotalUnique.l1 : Nat → List Int → Int → List Int → List (List Int) → Int → List Bool → Int → Int → Int → Option (Bool)
  | 0, _, _, _, _, _, _, _, _, _ => none
  | k + 1, x0, x2, x9, x10, x13, x14, x15, x16, x17 => if x17 < x13 then (if 0 ≤ (IntKind.u64.wrap (x17)) then (if 0 ≤ (wrap64 (x2 + x17)) then (if (wrap64 (x2 + x17)) < (x14.length : Int) then (chalklinelaw15_TotalUnique.l1 k x0 x2 x9 x10 x13 (x14.set ((wrap64 (x2 + x17)) : Int).toNat ((Go.bits .and .i64 (shr .i64 x16 (IntKind.u64.wrap (x17))) 1) == 1)) x15 x16 (wrap64 (x17 + 1))) else (none)) else (none)) else (none)) else ((chalklinelaw15_holds.f k x10 x14).bind fun t130 => (if t130 = true then ((chalklinelaw15_many.f k x0 x14).bind fun t131 => (chalklinelaw15_TotalUnique.l2 k x0 x2 x9 x10 x13 x14 (wrap64 (x15 + 1)) x16 t131 0)) else (chalklinelaw15_TotalUnique.l0 k x0 x2 x9 x10 x13 x14 x15 (wrap64 (x16 + 1)))))
def chalklinelaw15_TotalUnique.l2 : Nat → List Int → Int → List Int → List (List Int) → Int → List Bool → Int → Int → Int → Int → Option (Bool)
  | 0, _, _, _, _, _, _, _, _, _, _ => none
  | k + 1, x0, x2, x9, x10, x13, x14, x15, x16, x18, x19 => if x19 < (x9.length : Int) then (if 0 ≤ x19 then ((chalklinelaw15_lit.f (rd x9 x19) x14).bind fun t133 => (if (t133 != (decide (x18 > x19))) = true then (some false) else (chalklinelaw15_TotalUnique.l2 k x0 x2 x9 x10 x13 x14 x15 x16 x18 (wrap64 (x19 + 1))))) else (none)) else (chalklinelaw15_TotalUnique.l0 k x0 x2 x9 x10 x13 x14 x15 (wrap64 (x16 + 1)))
end
def chalklinelaw15_TotalUnique.f (k : Nat) (l0 : List Int) (a1 : Int) (a2 : Int) (l3 : List Bool) : Option (Bool) := (chalklinelaw15_live.f).bind fun t117 => (if t117 = true then (if (l0.length : Int) > 4 then (chalklinelaw15_TotalUnique.j0 k l0 a1 a2 l3 true) else (chalklinelaw15_TotalUnique.j0 k l0 a1 a2 l3 (decide (a2 > 30)))) else (some false))
theorem chalklinelaw15_TotalUnique.mono_l : ∀ k, (∀ y0 y1 y2 y3 y4, LeO (chalklinelaw15_TotalUnique.j0 k y0 y1 y2 y3 y4) (chalklinelaw15_TotalUnique.j0 (k + 1) y0 y1 y2 y3 y4)) ∧ (∀ y0 y1 y2 y3 y4 y5 y6 y7, LeO (chalklinelaw15_TotalUnique.j1 k y0 y1 y2 y3 y4 y5 y6 y7) (chalklinelaw15_TotalUnique.j1 (k + 1) y0 y1 y2 y3 y4 y5 y6 y7)) ∧ (∀ y0 y1 y2 y3 y4 y5 y6 y7, LeO (chalklinelaw15_TotalUnique.l0 k y0 y1 y2 y3 y4 y5 y6 y7) (chalklinelaw15_TotalUnique.l0 (k + 1) y0 y1 y2 y3 y4 y5 y6 y7)) ∧ (∀ y0 y1 y2 y3 y4 y5 y6 y7 y8, LeO (chalklinelaw15_TotalUnique.l1 k y0 y1 y2 y3 y4 y5 y6 y7 y8) (chalklinelaw15_TotalUnique.l1 (k + 1) y0 y1 y2 y3 y4 y5 y6 y7 y8)) ∧ (∀ y0 y1 y2 y3 y4 y5 y6 y7 y8 y9, LeO (chalklinelaw15_TotalUnique.l2 k y0 y1 y2 y3 y4 y5 y6 y7 y8 y9) (chalklinelaw15_TotalUnique.l2 (k + 1) y0 y1 y2 y3 y4 y5 y6 y7 y8 y9))
  | 0 => ⟨fun _ _ _ _ _ r h => by simp [chalklinelaw15_TotalUnique.j0] at h, fun _ _ _ _ _ _ _ _ r h => by simp [chalklinelaw15_TotalUnique.j1] at h, fun _ _ _ _ _ _ _ _ r h => by simp [chalklinelaw15_TotalUnique.l0] at h, fun _ _ _ _ _ _ _ _ _ r h => by simp [chalklinelaw15_TotalUnique.l1] at h, fun _ _ _ _ _ _ _ _ _ _ r h => by simp [chalklinelaw15_TotalUnique.l2] at h⟩
  | k + 1 => by
    obtain ⟨ih0, ih1, ih2, ih3, ih4⟩ := chalklinelaw15_TotalUnique.mono_l k
    refine ⟨?_, ?_, ?_, ?_, ?_⟩
    · intro y0 y1 y2 y3 y4
      unfold chalklinelaw15_TotalUnique.j0
      repeat' first
      | (with_reducible exact ih0 _ _ _ _ _)
      | (with_reducible exact ih1 _ _ _ _ _ _ _ _)
      | (with_reducible exact ih2 _ _ _ _ _ _ _ _)
      | (with_reducible exact ih3 _ _ _ _ _ _ _ _ _)
      | (with_reducible exact ih4 _ _ _ _ _ _ _ _ _ _)
      | (with_reducible exact chalklinelaw15_holds.mono _ _ _)
      | (with_reducible exact chalklinelaw15_many.mono _ _ _)
      | (with_reducible exact chalklinelaw15_padded.mono _ _ _)
      | (with_reducible exact LeO.refl _)
      | (with_reducible exact LeO.none _)
      | (with_reducible refine LeO.ite ?_ ?_)
      | (with_reducible refine LeO.bind ?_ (fun _ => ?_))
      | exact ih0 _ _ _ _ _
      | exact ih1 _ _ _ _ _ _ _ _
      | exact ih2 _ _ _ _ _ _ _ _
      | exact ih3 _ _ _ _ _ _ _ _ _
      | exact ih4 _ _ _ _ _ _ _ _ _ _
      | exact chalklinelaw15_holds.mono _ _ _
      | exact chalklinelaw15_many.mono _ _ _
      | exact chalklinelaw15_padded.mono _ _ _
      | exact LeO.none _
      | refine LeO.ite ?_ ?_
      | refine LeO.bind ?_ (fun _ => ?_)
    · intro y0 y1 y2 y3 y4 y5 y6 y7
      unfold chalklinelaw15_TotalUnique.j1
      repeat' first
      | (with_reducible exact ih0 _ _ _ _ _)
      | (with_reducible exact ih1 _ _ _ _ _ _ _ _)
      | (with_reducible exact ih2 _ _ _ _ _ _ _ _)
      | (with_reducible exact ih3 _ _ _ _ _ _ _ _ _)
      | (with_reducible exact ih4 _ _ _ _ _ _ _ _ _ _)
      | (with_reducible exact chalklinelaw15_holds.mono _ _ _)
      | (with_reducible exact chalklinelaw15_many.mono _ _ _)
      | (with_reducible exact chalklinelaw15_padded.mono _ _ _)
      | (with_reducible exact LeO.refl _)
      | (with_reducible exact LeO.none _)
      | (with_reducible refine LeO.ite ?_ ?_)
      | (with_reducible refine LeO.bind ?_ (fun _ => ?_))
      | exact ih0 _ _ _ _ _
      | exact ih1 _ _ _ _ _ _ _ _
      | exact ih2 _ _ _ _ _ _ _ _
      | exact ih3 _ _ _ _ _ _ _ _ _
      | exact ih4 _ _ _ _ _ _ _ _ _ _
      | exact chalklinelaw15_holds.mono _ _ _
      | exact chalklinelaw15_many.mono _ _ _
      | exact chalklinelaw15_padded.mono _ _ _
      | exact LeO.none _
      | refine LeO.ite ?_ ?_
      | refine LeO.bind ?_ (fun _ => ?_)
    · intro y0 y1 y2 y3 y4 y5 y6 y7
      unfold chalklinelaw15_TotalUnique.l0
      repeat' first
      | (with_reducible exact ih0 _ _ _ _ _)
      | (with_reducible exact ih1 _ _ _ _ _ _ _ _)
      | (with_reducible exact ih2 _ _ _ _ _ _ _ _)
      | (with_reducible exact ih3 _ _ _ _ _ _ _ _ _)
      | (with_reducible exact ih4 _ _ _ _ _ _ _ _ _ _)
      | (with_reducible exact chalklinelaw15_holds.mono _ _ _)
      | (with_reducible exact chalklinelaw15_many.mono _ _ _)
      | (with_reducible exact chalklinelaw15_padded.mono _ _ _)
      | (with_reducible exact LeO.refl _)
      | (with_reducible exact LeO.none _)
      | (with_reducible refine LeO.ite ?_ ?_)
      | (with_reducible refine LeO.bind ?_ (fun _ => ?_))
      | exact ih0 _ _ _ _ _
      | exact ih1 _ _ _ _ _ _ _ _
      | exact ih2 _ _ _ _ _ _ _ _
      | exact ih3 _ _ _ _ _ _ _ _ _
      | exact ih4 _ _ _ _ _ _ _ _ _ _
      | exact chalklinelaw15_holds.mono _ _ _
      | exact chalklinelaw15_many.mono _ _ _
      | exact chalklinelaw15_padded.mono _ _ _
      | exact LeO.none _
      | refine LeO.ite ?_ ?_
      | refine LeO.bind ?_ (fun _ => ?_)
    · intro y0 y1 y2 y3 y4 y5 y6 y7 y8
      unfold chalklinelaw15_TotalUnique.l1
      repeat' first
      | (with_reducible exact ih0 _ _ _ _ _)
      | (with_reducible exact ih1 _ _ _ _ _ _ _ _)
      | (with_reducible exact ih2 _ _ _ _ _ _ _ _)
      | (with_reducible exact ih3 _ _ _ _ _ _ _ _ _)
      | (with_reducible exact ih4 _ _ _ _ _ _ _ _ _ _)
      | (with_reducible exact chalklinelaw15_holds.mono _ _ _)
      | (with_reducible exact chalklinelaw15_many.mono _ _ _)
      | (with_reducible exact chalklinelaw15_padded.mono _ _ _)
      | (with_reducible exact LeO.refl _)
      | (with_reducible exact LeO.none _)
      | (with_reducible refine LeO.ite ?_ ?_)
      | (with_reducible refine LeO.bind ?_ (fun _ => ?_))
      | exact ih0 _ _ _ _ _
      | exact ih1 _ _ _ _ _ _ _ _
      | exact ih2 _ _ _ _ _ _ _ _
      | exact ih3 _ _ _ _ _ _ _ _ _
      | exact ih4 _ _ _ _ _ _ _ _ _ _
      | exact chalklinelaw15_holds.mono _ _ _
      | exact chalklinelaw15_many.mono _ _ _
      | exact chalklinelaw15_padded.mono _ _ _
      | exact LeO.none _
      | refine LeO.ite ?_ ?_
      | refine LeO.bind ?_ (fun _ => ?_)
    · intro y0 y1 y2 y3 y4 y5 y6 y7 y8 y9
      unfold chalklinelaw15_TotalUnique.l2
      repeat' first
      | (with_reducible exact ih0 _ _ _ _ _)
      | (with_reducible exact ih1 _ _ _ _ _ _ _ _)
      | (with_reducible exact ih2 _ _ _ _ _ _ _ _)
      | (with_reducible exact ih3 _ _ _ _ _ _ _ _ _)
      | (with_reducible exact ih4 _ _ _ _ _ _ _ _ _ _)
      | (with_reducible exact chalklinelaw15_holds.mono _ _ _)
      | (with_reducible exact chalklinelaw15_many.mono _ _ _)
      | (with_reducible exact chalklinelaw15_padded.mono _ _ _)
      | (with_reducible exact LeO.refl _)
      | (with_reducible exact LeO.none _)
      | (with_reducible refine LeO.ite ?_ ?_)
      | (with_reducible refine LeO.bind ?_ (fun _ => ?_))
      | exact ih0 _ _ _ _ _
      | exact ih1 _ _ _ _ _ _ _ _
      | exact ih2 _ _ _ _ _ _ _ _
      | exact ih3 _ _ _ _ _ _ _ _ _
      | exact ih4 _ _ _ _ _ _ _ _ _ _
      | exact chalklinelaw15_holds.mono _ _ _
      | exact chalklinelaw15_many.mono _ _ _
      | exact chalklinelaw15_padded.mono _ _ _
      | exact LeO.none _
      | refine LeO.ite ?_ ?_
      | refine LeO.bind ?_ (fun _ => ?_)
theorem chalklinelaw15_TotalUnique.mono : ∀ a0 a1 a2 a3 k, LeO (chalklinelaw15_TotalUnique.f k a0 a1 a2 a3) (chalklinelaw15_TotalUnique.f (k + 1) a0 a1 a2 a3) := by
  intro a0 a1 a2 a3 k
  obtain ⟨ih0, ih1, ih2, ih3, ih4⟩ := chalklinelaw15_TotalUnique.mono_l k
  unfold chalklinelaw15_TotalUnique.f
  repeat' first
      | (with_reducible exact ih0 _ _ _ _ _)
      | (with_reducible exact ih1 _ _ _ _ _ _ _ _)
      | (with_reducible exact ih2 _ _ _ _ _ _ _ _)
      | (with_reducible exact ih3 _ _ _ _ _ _ _ _ _)
      | (with_reducible exact ih4 _ _ _ _ _ _ _ _ _ _)
      | (with_reducible exact chalklinelaw15_holds.mono _ _ _)
      | (with_reducible exact chalklinelaw15_many.mono _ _ _)
      | (with_reducible exact chalklinelaw15_padded.mono _ _ _)
      | (with_reducible exact LeO.refl _)
      | (with_reducible exact LeO.none _)
      | (with_reducible refine LeO.ite ?_ ?_)
      | (with_reducible refine LeO.bind ?_ (fun _ => ?_))
      | exact ih0 _ _ _ _ _
      | exact ih1 _ _ _ _ _ _ _ _
      | exact ih2 _ _ _ _ _ _ _ _
      | exact ih3 _ _ _ _ _ _ _ _ _
      | exact ih4 _ _ _ _ _ _ _ _ _ _
      | exact chalklinelaw15_holds.mono _ _ _
      | exact chalklinelaw15_many.mono _ _ _
      | exact chalklinelaw15_padded.mono _ _ _
      | exact LeO.none _
      | refine LeO.ite ?_ ?_
      | refine LeO.bind ?_ (fun _ => ?_)
set_option maxHeartbeats 8000000 in
set_option maxRecDepth 100000 in
theorem chalklinelaw15_TotalUnique.calls (k : Nat) (A0 : Option Addr) (c0 : Nat) (l0 : List Int) (a1 : Int) (a2 : Int) (A3 : Option Addr) (c3 : Nat) (l3 : List Bool) (r : Bool) (w : World) (hr0 : Kd.C (Kd.int .i64) w A0 l0.length l0) (hc0 : l0.length ≤ c0) (hr3 : Kd.C Kd.bool w A3 l3.length l3) (hc3 : l3.length ≤ c3) (h : chalklinelaw15_TotalUnique.f k l0 a1 a2 l3 = some r) :
    Calls Try.prog 6 #[.slice A0 l0.length c0, .int .i64 a1, .int .i64 a2, .slice A3 l3.length c3] w fun e w' => e = .returned (.bool r) ∧ Below w.heap.size w w' := by
  have HR0 := Aside0.mk hr0
  have HC0 := Aside0.mk hc0
  clear hr0 hc0
  have HR3 := Aside0.mk hr3
  have HC3 := Aside0.mk hc3
  clear hr3 hc3
  have HB := Aside0.mk (Below.refl w.heap.size w)
  have H : ((chalklinelaw15_live.f).bind fun t117 => (if t117 = true then (if (l0.length : Int) > 4 then (chalklinelaw15_TotalUnique.j0 k l0 a1 a2 l3 true) else (chalklinelaw15_TotalUnique.j0 k l0 a1 a2 l3 (decide (a2 > 30)))) else (some false))) = some r := h
  clear h
  replace H := Option.bind_eq_some_iff.mp H
  obtain ⟨t117, A50, H⟩ := H
  replace H : (if t117 = true then (if (l0.length : Int) > 4 then (chalklinelaw15_TotalUnique.j0 k l0 a1 a2 l3 true) else (chalklinelaw15_TotalUnique.j0 k l0 a1 a2 l3 (decide (a2 > 30)))) else (some false)) = some r := H
  have A5 := Aside0.mk A50
  clear A50
  by_cases c6 : t117 = true
  · subst c6
    have H1 : (if (l0.length : Int) > 4 then (chalklinelaw15_TotalUnique.j0 k l0 a1 a2 l3 true) else (chalklinelaw15_TotalUnique.j0 k l0 a1 a2 l3 (decide (a2 > 30)))) = some r := by rw [if_pos rfl] at H; exact H
    clear H
    have H := H1
    clear H1
    have HC7 := Aside0.mk H
    clear H
    go_enter Try.func6, Try.ntmps6
    go_upto_region 3 with (first | ((with_reducible refine gate_callee (f := 10) rfl ?_); refine goesL_ (some 20) rfl rfl Try.func10 (by kernel_rfl) rfl #[] rfl (by (try simp only [List.map_toArray, List.map_cons, List.map_nil]); first | done | rfl | (simp only [List.length_drop, List.length_take]; rfl)) ?_; (with_reducible refine (chalklinelaw15_live.calls  true _ A5.out).mono ?_); rintro e w8 ⟨rfl, hb⟩; refine ⟨_, rfl, ?_⟩; have n0_ := Aside0.mk (below_step (by repeat (first | (with_reducible first | exact HB.out | apply below_alloc | apply pw_below_drewN | apply below_drew1) | exact HB.out)) hb); clear HB; have HB := n0_; clear n0_; (try clear hb); (try clear hb2); (try clear hk); (try clear hi)))
    (try simp only [Act.put, List.setIfInBounds_toArray, List.set_cons_zero, List.set_cons_succ])
    go_cut [28] (fun v28 wc => ∃ (kq : Nat) (x28_6 : Bool), v28 = .bool x28_6 ∧ Aside0 (chalklinelaw15_TotalUnique.j0 kq l0 a1 a2 l3 x28_6 = some r) ∧ Aside0 (kq ≤ k) ∧ Aside0 (Below w.heap.size w wc))
    case first =>
      have H := HC7.out
      clear HC7
      by_cases c9 : (l0.length : Int) > 4
      · rw [if_pos c9] at H
        have c9b0 : decide (4 < (l0.length : Int)) = true := decide_eq_true c9
        have c9b1 : decide (4 < l0.length) = true := decide_eq_true (by omega)
        clear c9
        (first | rw [c9b0] | (simp only [i64_w, i32_w]; rw [c9b0]) | skip)
        have H' := Aside0.mk H
        clear H
        go_wp2
        go_meet
        case rel => exact ⟨_, (true), (by first | rfl | (simp; done) | (simp [*]; done)), H', ⟨by first | omega | exact Nat.le_refl _⟩, ⟨by repeat (first | (with_reducible first | exact HB.out | apply below_alloc | apply pw_below_drewN | apply below_drew1) | exact HB.out)⟩⟩
      · rw [if_neg c9] at H
        have c9b0 : decide (4 < (l0.length : Int)) = false := decide_eq_false c9
        have c9b1 : decide (4 < l0.length) = false := decide_eq_false (by omega)
        clear c9
        (first | rw [c9b0] | (simp only [i64_w, i32_w]; rw [c9b0]) | skip)
        have H' := Aside0.mk H
        clear H
        go_wp2
        go_meet
        case rel => exact ⟨_, (decide (a2 > 30)), (by first | rfl | (simp; done) | (simp [*]; done)), H', ⟨by first | omega | exact Nat.le_refl _⟩, ⟨by repeat (first | (with_reducible first | exact HB.out | apply below_alloc | apply pw_below_drewN | apply below_drew1) | exact HB.out)⟩⟩
    case rest =>
      clear HC7
      try clear c1
      try clear p2
      try clear c3
      try clear c6
      try clear c9
      try clear c9b0
      try clear c9b1
      obtain ⟨kq, x28_6, rfl, HA, HJ6, HB⟩ := hcut
      cases kq with
      | zero => exact absurd HA.out (by simp [chalklinelaw15_TotalUnique.j0])
      | succ kj6 =>
        have H := HA.out
        clear HA
        simp only [chalklinelaw15_TotalUnique.j0] at H
        by_cases c10 : x28_6 = true
        · subst c10
          have H1 : (some true) = some r := by rw [if_pos rfl] at H; exact H
          clear H
          have H := H1
          clear H1
          obtain rfl := Option.some.inj H
          go_wp2
          go_ret
          exact ⟨by first | rfl | (simp [errW_none, errW_some] <;> rfl) | (simp [*, errW_none, errW_some] <;> rfl), by repeat (first | (with_reducible first | exact HB.out | apply below_alloc | apply pw_below_drewN | apply below_drew1) | exact HB.out)⟩
        · replace c10 := Bool.eq_false_iff.mpr c10
          subst c10
          have H1 : ((total_Total.f l0 a1 a2).bind fun bt118 => (if bt118.2.2.2 = 0 then (if (wrap64 (bt118.2.2.1 - a2)) < 0 then (chalklinelaw15_TotalUnique.j1 kj6 l0 a2 l3 bt118.1 bt118.2.1 bt118.2.2.1 (wrap64 (bt118.2.2.1 - a2)) true) else (chalklinelaw15_TotalUnique.j1 kj6 l0 a2 l3 bt118.1 bt118.2.1 bt118.2.2.1 (wrap64 (bt118.2.2.1 - a2)) (decide ((wrap64 (bt118.2.2.1 - a2)) > 8)))) else (some true))) = some r := by rw [if_neg (show ¬ (false = true) by decide)] at H; exact H
          clear H
          have H := H1
          clear H1
          replace H := Option.bind_eq_some_iff.mp H
          obtain ⟨⟨t118, t121, t124, t125⟩, A110, H⟩ := H
          replace H : (if t125 = 0 then (if (wrap64 (t124 - a2)) < 0 then (chalklinelaw15_TotalUnique.j1 kj6 l0 a2 l3 t118 t121 t124 (wrap64 (t124 - a2)) true) else (chalklinelaw15_TotalUnique.j1 kj6 l0 a2 l3 t118 t121 t124 (wrap64 (t124 - a2)) (decide ((wrap64 (t124 - a2)) > 8)))) else (some true)) = some r := H
          have A11 := Aside0.mk A110
          clear A110
          by_cases c12 : t125 = 0
          · rw [if_pos c12] at H
            have c12b0 : (t125 == 0) = true := beq_iff_eq.mpr c12
            have c12b1 : (t125 != 0) = false := bne_eq_false_iff_eq.mpr c12
            clear c12
            have HC13 := Aside0.mk H
            clear H
            go_upto_region 9 with (first | ((with_reducible refine gate_callee (f := 11) rfl ?_); refine goesL_ (some 33) rfl rfl Try.func11 (by kernel_rfl) rfl #[.slice A0 l0.length c0, .int .i64 a1, .int .i64 a2] rfl (by (try simp only [List.map_toArray, List.map_cons, List.map_nil]); first | done | rfl | (simp only [List.length_drop, List.length_take]; rfl)) ?_; (with_reducible refine (total_Total.calls _ _ l0 a1 a2 t118 t121 t124 t125 _ ?side1 ?side2 A11.out).mono ?_); (case side1 => repeat (first | exact (Kd.C_below HR0.out HB.out) | (with_reducible refine Kd.C_alloc ?_ _) | (with_reducible refine Kd.C_drewN ?_ _) | (with_reducible refine Kd.C_drew ?_))); (case side2 => exact HC0.out); rintro e w14 ⟨v119, v122, rfl, ho0, ho1, hb⟩; refine ⟨_, rfl, ?_⟩; have n0_ := Aside0.mk (Kd.R_lower (Kd.R_mono (ok' := fun k_ => True) ho0 (fun _ hk_ => trivial)) (below_size (by repeat (first | (with_reducible first | exact HB.out | apply below_alloc | apply pw_below_drewN | apply below_drew1) | exact HB.out)))); have n1_ := Aside0.mk (Kd.N_lower (Kd.N_mono (ok' := fun k_ => some k_ ≠ (v119 : Value).ownBlock) ho1 (fun k_ hk_ => hk_.2)) (below_size (by repeat (first | (with_reducible first | exact HB.out | apply below_alloc | apply pw_below_drewN | apply below_drew1) | exact HB.out)))); have n2_ := Aside0.mk (below_step (by repeat (first | (with_reducible first | exact HB.out | apply below_alloc | apply pw_below_drewN | apply below_drew1) | exact HB.out)) hb); clear HB; have HO120 := n0_; have HO123 := n1_; have HB := n2_; clear n0_ n1_ n2_; (try clear hb); (try clear hb2); (try clear hk); (try clear hi); (try clear ho0); (try clear ho1)))
            (try simp only [Act.put, List.setIfInBounds_toArray, List.set_cons_zero, List.set_cons_succ])
            go_cut [48] (fun v48 wc => ∃ (kq : Nat) (x48_12 : Bool), v48 = .bool x48_12 ∧ Aside0 (chalklinelaw15_TotalUnique.j1 kq l0 a2 l3 t118 t121 t124 (wrap64 (t124 - a2)) x48_12 = some r) ∧ Aside0 (kq ≤ kj6) ∧ Aside0 (Kd.R (Kd.int .i64) 3 wc w.heap.size (fun _ => True) v119 t118) ∧ Aside0 (Kd.N (Kd.slice 3 (Kd.int .i64)) 22 wc w.heap.size (fun k_ => some k_ ≠ (v119 : Value).ownBlock) v122 t121) ∧ Aside0 (Below w.heap.size w wc))
            case first =>
              have H := HC13.out
              clear HC13
              by_cases c15 : (wrap64 (t124 - a2)) < 0
              · rw [if_pos c15] at H
                have c15b0 : decide ((wrap64 (t124 - a2)) < 0) = true := decide_eq_true c15
                clear c15
                (first | rw [c15b0] | (simp only [i64_w, i32_w]; rw [c15b0]) | skip)
                have H' := Aside0.mk H
                clear H
                go_wp2
                go_meet
                case rel => exact ⟨_, (true), (by first | rfl | (simp; done) | (simp [*]; done)), H', ⟨by have := HJ6.out; first | omega | exact Nat.le_refl _⟩, ⟨by (with_reducible repeat (first | apply Kd.R_alloc | apply Kd.R_drewN | apply Kd.R_drew)); exact HO120.out⟩, ⟨by (with_reducible repeat (first | apply Kd.N_alloc | apply Kd.N_drewN | apply Kd.N_drew)); exact HO123.out⟩, ⟨by repeat (first | (with_reducible first | exact HB.out | apply below_alloc | apply pw_below_drewN | apply below_drew1) | exact HB.out)⟩⟩
              · rw [if_neg c15] at H
                have c15b0 : decide ((wrap64 (t124 - a2)) < 0) = false := decide_eq_false c15
                clear c15
                (first | rw [c15b0] | (simp only [i64_w, i32_w]; rw [c15b0]) | skip)
                have H' := Aside0.mk H
                clear H
                go_wp2
                go_meet
                case rel => exact ⟨_, (decide ((wrap64 (t124 - a2)) > 8)), (by first | rfl | (simp; done) | (simp [*]; done)), H', ⟨by have := HJ6.out; first | omega | exact Nat.le_refl _⟩, ⟨by (with_reducible repeat (first | apply Kd.R_alloc | apply Kd.R_drewN | apply Kd.R_drew)); exact HO120.out⟩, ⟨by (with_reducible repeat (first | apply Kd.N_alloc | apply Kd.N_drewN | apply Kd.N_drew)); exact HO123.out⟩, ⟨by repeat (first | (with_reducible first | exact HB.out | apply below_alloc | apply pw_below_drewN | apply below_drew1) | exact HB.out)⟩⟩
            case rest =>
              clear HC13
              try clear c1
              try clear p2
              try clear c3
              try clear c6
              try clear p6
              try clear c9
              try clear c9b0
              try clear c9b1
              try clear c10
              try clear c11
              try clear c12
              try clear c12b0
              try clear c12b1
              try clear c15
              try clear c15b0
              try clear p2
              obtain ⟨kq, x48_12, rfl, HA, HJ12, HO_9, HO_10, HB⟩ := hcut
              cases kq with
              | zero => exact absurd HA.out (by simp [chalklinelaw15_TotalUnique.j1])
              | succ kj12 =>
                have H := HA.out
                clear HA
                simp only [chalklinelaw15_TotalUnique.j1] at H
                by_cases c16 : x48_12 = true
                · subst c16
                  have H1 : (some false) = some r := by rw [if_pos rfl] at H; exact H
                  clear H
                  have H := H1
                  clear H1
                  obtain rfl := Option.some.inj H
                  go_wp2
                  go_ret
                  exact ⟨by first | rfl | (simp [errW_none, errW_some] <;> rfl) | (simp [*, errW_none, errW_some] <;> rfl), by repeat (first | (with_reducible first | exact HB.out | apply below_alloc | apply pw_below_drewN | apply below_drew1) | exact HB.out)⟩
                · replace c16 := Bool.eq_false_iff.mpr c16
                  subst c16
                  have H1 : ((chalklinelaw15_padded.f kj12 l3 t124).bind fun t126 => (chalklinelaw15_TotalUnique.l0 kj12 l0 a2 t118 t121 (wrap64 (t124 - a2)) t126 0 0)) = some r := by rw [if_neg (show ¬ (false = true) by decide)] at H; exact H
                  clear H
                  have H := H1
                  clear H1
                  replace H := Option.bind_eq_some_iff.mp H
                  obtain ⟨t126, A170, H⟩ := H
                  replace H : (chalklinelaw15_TotalUnique.l0 kj12 l0 a2 t118 t121 (wrap64 (t124 - a2)) t126 0 0) = some r := H
                  have A17 := Aside0.mk A170
                  clear A170
                  have H' := Aside0.mk H
                  clear H
                  go_wp2_with (first | ((with_reducible refine gate_callee (f := 16) rfl ?_); refine goesL_ (some 51) rfl rfl Try.func16 (by kernel_rfl) rfl #[.slice A3 l3.length c3, .int .i64 t124] rfl (by (try simp only [List.map_toArray, List.map_cons, List.map_nil]); first | done | rfl | (simp only [List.length_drop, List.length_take]; rfl)) ?_; (with_reducible refine (chalklinelaw15_padded.calls kj12 _ _ l3 t124 t126 _ ?side1 ?side2 A17.out).mono ?_); (case side1 => repeat (first | exact (Kd.C_below HR3.out HB.out) | (with_reducible refine Kd.C_alloc ?_ _) | (with_reducible refine Kd.C_drewN ?_ _) | (with_reducible refine Kd.C_drew ?_))); (case side2 => exact HC3.out); rintro e w18 ⟨v127, rfl, ho0, hb⟩; refine ⟨_, rfl, ?_⟩; have n0_ := Aside0.mk (Kd.R_below (by (with_reducible repeat (first | apply Kd.R_alloc | apply Kd.R_drewN | apply Kd.R_drew)); exact HO_9.out) hb); have n1_ := Aside0.mk (Kd.N_elder' (by (with_reducible repeat (first | apply Kd.N_alloc | apply Kd.N_drewN | apply Kd.N_drew)); exact HO_10.out) (Kd.R_base ho0) hb); have n2_ := Aside0.mk (Kd.R_lower ho0 (below_size (by repeat (first | (with_reducible first | exact HB.out | apply below_alloc | apply pw_below_drewN | apply below_drew1) | exact HB.out)))); have n3_ := Aside0.mk (below_step (by repeat (first | (with_reducible first | exact HB.out | apply below_alloc | apply pw_below_drewN | apply below_drew1) | exact HB.out)) hb); clear HO_9; clear HO_10; clear HB; have HO_9 := n0_; have HO_10 := n1_; have HO128 := n2_; have HB := n3_; clear n0_ n1_ n2_ n3_; (try clear hb); (try clear hb2); (try clear hk); (try clear hi); (try clear ho0)))
                  go_loopg [15, 16] kj12 (fun kq v15 v16 w' => ∃ (x14_3 : List Bool) (x15_3 : Int) (x16_3 : Int), v15 = .int .i64 x15_3 ∧ v16 = .int .i64 x16_3 ∧ Aside0 (chalklinelaw15_TotalUnique.l0 kq l0 a2 t118 t121 (wrap64 (t124 - a2)) x14_3 x15_3 x16_3 = some r) ∧ Aside0 (kq ≤ kj12) ∧ Aside0 (Kd.R (Kd.int .i64) 3 w' w.heap.size (fun _ => True) v119 t118) ∧ Aside0 (Kd.N (Kd.slice 3 (Kd.int .i64)) 22 w' w.heap.size (fun k_ => some k_ ≠ (v119 : Value).ownBlock ∧ some k_ ≠ (v127 : Value).ownBlock) v122 t121) ∧ Aside0 (Kd.R Kd.bool 4 w' w.heap.size (fun _ => True) v127 x14_3) ∧ Aside0 (Below w.heap.size w w'))
                  case atStart => exact ⟨(t126), (0), (0), (by first | rfl | (simp; done) | (simp [*]; done)), (by first | rfl | (simp; done) | (simp [*]; done)), H', ⟨Nat.le_refl _⟩, ⟨by (with_reducible repeat (first | apply Kd.R_alloc | apply Kd.R_drewN | apply Kd.R_drew)); exact HO_9.out⟩, ⟨by (with_reducible repeat (first | apply Kd.N_alloc | apply Kd.N_drewN | apply Kd.N_drew)); exact HO_10.out⟩, ⟨by (with_reducible repeat (first | apply Kd.R_alloc | apply Kd.R_drewN | apply Kd.R_drew)); exact HO128.out⟩, ⟨by repeat (first | (with_reducible first | exact HB.out | apply below_alloc | apply pw_below_drewN | apply below_drew1) | exact HB.out)⟩⟩
                  case round =>
                    clear H'
                    try clear c1
                    try clear p2
                    try clear c3
                    try clear c6
                    try clear p6
                    try clear c9
                    try clear c9b0
                    try clear c9b1
                    try clear c10
                    try clear c11
                    try clear c12
                    try clear c12b0
                    try clear c12b1
                    try clear c15
                    try clear c15b0
                    try clear c16
                    try clear p2
                    try clear p6
                    obtain ⟨x14_3, x15_3, x16_3, rfl, rfl, HA, HK3, HO_9, HO_10, HO_14, HB⟩ := hrel
                    cases gk with
                    | zero => exact absurd HA.out (by simp [chalklinelaw15_TotalUnique.l0])
                    | succ k3 =>
                      have H := HA.out
                      clear HA
                      simp only [chalklinelaw15_TotalUnique.l0] at H
                      obtain ⟨ji19, hji19⟩ : ∃ j_ : Int, (IntKind.u64.wrap ((wrap64 (t124 - a2)))) = j_ := ⟨_, rfl⟩
                      replace H : (if 0 ≤ (ji19) then (if x16_3 < (shl .i64 1 (ji19)) then (chalklinelaw15_TotalUnique.l1 k3 l0 a2 t118 t121 (wrap64 (t124 - a2)) x14_3 x15_3 x16_3 0) else (some (x15_3 == 1))) else (none)) = some r := by first | (rw [hji19] at H; exact H) | (simp only [hji19] at H ⊢; exact H)
                      by_cases c20 : 0 ≤ (ji19)
                      · rw [if_pos c20] at H
                        have c20b0 := eq_true c20
                        have c20b1 : decide (0 ≤ (ji19)) = true := decide_eq_true c20
                        clear c20
                        obtain ⟨ji21, hji21⟩ : ∃ j_ : Int, (shl .i64 1 (ji19)) = j_ := ⟨_, rfl⟩
                        replace H : (if x16_3 < (ji21) then (chalklinelaw15_TotalUnique.l1 k3 l0 a2 t118 t121 (wrap64 (t124 - a2)) x14_3 x15_3 x16_3 0) else (some (x15_3 == 1))) = some r := by first | (rw [hji21] at H; exact H) | (simp only [hji21] at H ⊢; exact H)
                        have hji21_ : (IntKind.i64.wrap (1 * 2 ^ min (ji19).toNat 64)) = ji21 := hji21
                        have hji21z : (ji19) ≤ 64 → (IntKind.i64.wrap (1 * 2 ^ (ji19).toNat)) = ji21 := shl_small hji21
                        have hji21u : (IntKind.i64.wrap (2 ^ min (ji19).toNat 64)) = ji21 := by have h_ := hji21_; rw [Int.one_mul] at h_; exact h_
                        have hji21v : (ji19) ≤ 64 → (IntKind.i64.wrap (2 ^ (ji19).toNat)) = ji21 := fun hle_ => by have h_ := hji21z hle_; rw [Int.one_mul] at h_; exact h_
                        have hji21y : (wrap64 (1 * 2 ^ min (ji19).toNat 64)) = ji21 := (i64_w _).symm.trans hji21_
                        have hji21x : (ji19) ≤ 64 → (wrap64 (1 * 2 ^ (ji19).toNat)) = ji21 := fun h_ => (i64_w _).symm.trans (hji21z h_)
                        by_cases c22 : x16_3 < (ji21)
                        · rw [if_pos c22] at H
                          have c22b0 : decide (x16_3 < (ji21)) = true := decide_eq_true c22
                          clear c22
                          have H' := Aside0.mk H
                          clear H
                          go_wp2
                          go_loopg [17] k3 (fun kq v17 w' => ∃ (x14_4 : List Bool) (x17_4 : Int), v17 = .int .i64 x17_4 ∧ Aside0 (chalklinelaw15_TotalUnique.l1 kq l0 a2 t118 t121 (wrap64 (t124 - a2)) x14_4 x15_3 x16_3 x17_4 = some r) ∧ Aside0 (kq ≤ k3) ∧ Aside0 (Kd.R (Kd.int .i64) 3 w' w.heap.size (fun _ => True) v119 t118) ∧ Aside0 (Kd.N (Kd.slice 3 (Kd.int .i64)) 22 w' w.heap.size (fun k_ => some k_ ≠ (v119 : Value).ownBlock ∧ some k_ ≠ (v127 : Value).ownBlock) v122 t121) ∧ Aside0 (Kd.R Kd.bool 4 w' w.heap.size (fun _ => True) v127 x14_4) ∧ Aside0 (Below w.heap.size w w'))
                          case atStart => exact ⟨(x14_3), (0), (by first | rfl | (simp; done) | (simp [*]; done)), H', ⟨Nat.le_refl _⟩, ⟨by (with_reducible repeat (first | apply Kd.R_alloc | apply Kd.R_drewN | apply Kd.R_drew)); exact HO_9.out⟩, ⟨by (with_reducible repeat (first | apply Kd.N_alloc | apply Kd.N_drewN | apply Kd.N_drew)); exact HO_10.out⟩, ⟨by (with_reducible repeat (first | apply Kd.R_alloc | apply Kd.R_drewN | apply Kd.R_drew)); exact HO_14.out⟩, ⟨by repeat (first | (with_reducible first | exact HB.out | apply below_alloc | apply pw_below_drewN | apply below_drew1) | exact HB.out)⟩⟩
                          case round =>
                            clear H'
                            try clear c1
                            try clear c2
                            try clear p2
                            try clear c3
                            try clear c6
                            try clear p6
                            try clear c9
                            try clear c9b0
                            try clear c9b1
                            try clear c10
                            try clear c11
                            try clear c12
                            try clear c12b0
                            try clear c12b1
                            try clear c15
                            try clear c15b0
                            try clear c16
                            try clear c20
                            try clear c20b0
                            try clear c20b1
                            try clear c22
                            try clear c22b0
                            try clear p2
                            try clear p6
                            obtain ⟨x14_4, x17_4, rfl, HA, HK4, HO_9, HO_10, HO_14, HB⟩ := hrel
                            cases gk with
                            | zero => exact absurd HA.out (by simp [chalklinelaw15_TotalUnique.l1])
                            | succ k4 =>
                              have H := HA.out
                              clear HA
                              simp only [chalklinelaw15_TotalUnique.l1] at H
                              by_cases c23 : x17_4 < (wrap64 (t124 - a2))
                              · rw [if_pos c23] at H
                                have c23b0 : decide (x17_4 < (wrap64 (t124 - a2))) = true := decide_eq_true c23
                                clear c23
                                obtain ⟨ji24, hji24⟩ : ∃ j_ : Int, (IntKind.u64.wrap (x17_4)) = j_ := ⟨_, rfl⟩
                                replace H : (if 0 ≤ (ji24) then (if 0 ≤ (wrap64 (a2 + x17_4)) then (if (wrap64 (a2 + x17_4)) < (x14_4.length : Int) then (chalklinelaw15_TotalUnique.l1 k4 l0 a2 t118 t121 (wrap64 (t124 - a2)) (x14_4.set ((wrap64 (a2 + x17_4)) : Int).toNat ((Go.bits .and .i64 (shr .i64 x16_3 (ji24)) 1) == 1)) x15_3 x16_3 (wrap64 (x17_4 + 1))) else (none)) else (none)) else (none)) = some r := by first | (rw [hji24] at H; exact H) | (simp only [hji24] at H ⊢; exact H)
                                by_cases c25 : 0 ≤ (ji24)
                                · rw [if_pos c25] at H
                                  have c25b0 := eq_true c25
                                  have c25b1 : decide (0 ≤ (ji24)) = true := decide_eq_true c25
                                  clear c25
                                  obtain ⟨ji26, hji26⟩ : ∃ j_ : Int, (shr .i64 x16_3 (ji24)) = j_ := ⟨_, rfl⟩
                                  replace H : (if 0 ≤ (wrap64 (a2 + x17_4)) then (if (wrap64 (a2 + x17_4)) < (x14_4.length : Int) then (chalklinelaw15_TotalUnique.l1 k4 l0 a2 t118 t121 (wrap64 (t124 - a2)) (x14_4.set ((wrap64 (a2 + x17_4)) : Int).toNat ((Go.bits .and .i64 (ji26) 1) == 1)) x15_3 x16_3 (wrap64 (x17_4 + 1))) else (none)) else (none)) = some r := by first | (rw [hji26] at H; exact H) | (simp only [hji26] at H ⊢; exact H)
                                  have hji26_ : (x16_3 / 2 ^ min (ji24).toNat 64) = ji26 := hji26
                                  have hji26z : (ji24) ≤ 64 → (x16_3 / 2 ^ (ji24).toNat) = ji26 := shr_small hji26
                                  obtain ⟨ji27, hji27⟩ : ∃ j_ : Int, (wrap64 (a2 + x17_4)) = j_ := ⟨_, rfl⟩
                                  replace H : (if 0 ≤ (ji27) then (if (ji27) < (x14_4.length : Int) then (chalklinelaw15_TotalUnique.l1 k4 l0 a2 t118 t121 (wrap64 (t124 - a2)) (x14_4.set ((ji27) : Int).toNat ((Go.bits .and .i64 (ji26) 1) == 1)) x15_3 x16_3 (wrap64 (x17_4 + 1))) else (none)) else (none)) = some r := by first | (rw [hji27] at H; exact H) | (simp only [hji27] at H ⊢; exact H)
                                  have hji27w : (IntKind.i64.wrap (a2 + x17_4)) = ji27 := (i64_w _).trans hji27
                                  by_cases c28 : 0 ≤ (ji27)
                                  · rw [if_pos c28] at H
                                    have c28b0 : decide (0 ≤ (ji27)) = true := decide_eq_true c28
                                    clear c28
                                    by_cases c29 : (ji27) < (x14_4.length : Int)
                                    · rw [if_pos c29] at H
                                      have c29b0 : decide ((ji27) < (x14_4.length : Int)) = true := decide_eq_true c29
                                      clear c29
                                      obtain ⟨y129, hy129⟩ : ∃ y_ : List Bool, y_ = (x14_4.set ((ji27) : Int).toNat ((Go.bits .and .i64 (ji26) 1) == 1)) := ⟨_, rfl⟩
                                      replace H : (chalklinelaw15_TotalUnique.l1 k4 l0 a2 t118 t121 (wrap64 (t124 - a2)) y129 x15_3 x16_3 (wrap64 (x17_4 + 1))) = some r := by first | (rw [hy129]; with_reducible exact H) | (have H2_ := (Option.bind_some _ _).symm.trans H; rw [hy129]; with_reducible exact H2_) | (have H2_ := (Option.bind_some _ _).symm.trans H; with_reducible exact H2_) | with_reducible exact H | (rw [hy129]; exact H) | exact H
                                      have Ny129 := Aside0.mk hy129
                                      clear hy129
                                      have H' := Aside0.mk H
                                      clear H
                                      have p30 : 0 ≤ ((ji27) : Int) := of_decide_eq_true (by first | (with_reducible assumption) | assumption)
                                      have q30 : ((ji27) : Int) < ((x14_4.length : Int) : Int) := of_decide_eq_true (by first | (with_reducible assumption) | assumption)
                                      obtain ⟨go30, co30, eo30, gb30, gl30, cl30, HG30⟩ := Kd.R_form HO_14.out (by omega)
                                      (first | cases eo30 | (injection eo30 with ea_ en_ ec_; (first | subst ea_ | (injection ea_ with ea_; subst ea_)); subst ec_; clear en_))
                                      have GB30 := Aside0.mk gb30
                                      have GG30 := Aside0.mk HG30
                                      clear gb30 gl30 HG30
                                      obtain ⟨hx30_0, hf30_0⟩ := Kd.R_celln false HO_14.out ((ji27) : Int) p30 q30
                                      replace p30 := eq_true p30
                                      replace q30 := eq_true q30
                                      have HP31 := Kd.R_putg HO_14.out ((ji27) : Int) ((Go.bits .and .i64 (ji26) 1) == 1)
                                      go_wp2_with (first | ((with_reducible refine gate_store (t := 4) (p := 74) rfl ?_); refine store_event (t := 4) (p := 74) (v := ?vo_w32) (w1 := (wr.setCell ⟨go30, ((ji27) : Int).toNat, none⟩ (.bool ((Go.bits .and .i64 (ji26) 1) == 1)))) ?hg ?ho ?hn ?hr ?_; (case ho => rfl); (case hg => rfl); (case hn => rfl); (case hr => first | (go_simp; done) | (go_simp; rfl)); intro w32 hw; have hg : wr.grownBy w32 (some go30) := (by rw [hw]; exact HP31.2); have hp_ : Kd.R Kd.bool 4 w32 w.heap.size (fun _ => True) (.slice (some ⟨go30, 0, none⟩) x14_4.length co30) y129 := (by rw [hw, Ny129.out]; exact HP31.1); clear HP31; have n0_ := Aside0.mk (Kd.R_over' (v := (.slice (some ⟨go30, 0, none⟩) x14_4.length co30)) (by (with_reducible repeat (first | apply Kd.R_alloc | apply Kd.R_drewN | apply Kd.R_drew)); exact HO_9.out) (Kd.R_typed HO_14.out) (by decide) hg); have n1_ := Aside0.mk (Kd.N_afterv (v := (.slice (some ⟨go30, 0, none⟩) x14_4.length co30)) (v1 := (.slice (some ⟨go30, 0, none⟩) x14_4.length co30)) (ok := (fun k_ => some k_ ≠ (v119 : Value).ownBlock)) (by (with_reducible repeat (first | apply Kd.N_alloc | apply Kd.N_drewN | apply Kd.N_drew)); exact HO_10.out) hg (.inl rfl)); have n2_ := Aside0.mk (hp_); have n3_ := Aside0.mk ((by rw [hw]; exact below_set (HB.out) GB30.out : Below w.heap.size w w32)); clear HO_9; clear HO_10; clear HO_14; clear HB; have HO_9 := n0_; have HO_10 := n1_; have HO_14 := n2_; have HB := n3_; clear n0_ n1_ n2_ n3_; clear hg hw hp_))
                                      go_roundg k4
                                      case measure => have := HJ6.out; have := HJ12.out; have := HK3.out; have := HK4.out; omega
                                      case rel => exact ⟨(y129), (wrap64 (x17_4 + 1)), (by first | rfl | (simp; done) | (simp [*]; done)), H', ⟨by have := HJ6.out; have := HJ12.out; have := HK3.out; have := HK4.out; omega⟩, ⟨by (with_reducible repeat (first | apply Kd.R_alloc | apply Kd.R_drewN | apply Kd.R_drew)); exact HO_9.out⟩, ⟨by (with_reducible repeat (first | apply Kd.N_alloc | apply Kd.N_drewN | apply Kd.N_drew)); exact HO_10.out⟩, ⟨by (with_reducible repeat (first | apply Kd.R_alloc | apply Kd.R_drewN | apply Kd.R_drew)); exact HO_14.out⟩, ⟨by repeat (first | (with_reducible first | exact HB.out | apply below_alloc | apply pw_below_drewN | apply below_drew1) | exact HB.out)⟩⟩
                                    · rw [if_neg c29] at H
                                      exact absurd H (by simp)
                                  · rw [if_neg c28] at H
                                    exact absurd H (by simp)
                                · rw [if_neg c25] at H
                                  exact absurd H (by simp)
                              · rw [if_neg c23] at H
                                have c23b0 : decide (x17_4 < (wrap64 (t124 - a2))) = false := decide_eq_false c23
                                clear c23
                                replace H := Option.bind_eq_some_iff.mp H
                                obtain ⟨t130, A330, H⟩ := H
                                replace H : (if t130 = true then ((chalklinelaw15_many.f k4 l0 x14_4).bind fun t131 => (chalklinelaw15_TotalUnique.l2 k4 l0 a2 t118 t121 (wrap64 (t124 - a2)) x14_4 (wrap64 (x15_3 + 1)) x16_3 t131 0)) else (chalklinelaw15_TotalUnique.l0 k4 l0 a2 t118 t121 (wrap64 (t124 - a2)) x14_4 x15_3 (wrap64 (x16_3 + 1)))) = some r := H
                                have A33 := Aside0.mk A330
                                clear A330
                                by_cases c34 : t130 = true
                                · subst c34
                                  have H1 : ((chalklinelaw15_many.f k4 l0 x14_4).bind fun t131 => (chalklinelaw15_TotalUnique.l2 k4 l0 a2 t118 t121 (wrap64 (t124 - a2)) x14_4 (wrap64 (x15_3 + 1)) x16_3 t131 0)) = some r := by rw [if_pos rfl] at H; exact H
                                  clear H
                                  have H := H1
                                  clear H1
                                  replace H := Option.bind_eq_some_iff.mp H
                                  obtain ⟨t131, A350, H⟩ := H
                                  replace H : (chalklinelaw15_TotalUnique.l2 k4 l0 a2 t118 t121 (wrap64 (t124 - a2)) x14_4 (wrap64 (x15_3 + 1)) x16_3 t131 0) = some r := H
                                  have A35 := Aside0.mk A350
                                  clear A350
                                  have H' := Aside0.mk H
                                  clear H
                                  obtain ⟨Ao36, co36, eo36⟩ := Kd.N_slice HO_10.out
                                  subst eo36
                                  obtain ⟨Ao37, co37, eo37⟩ := Kd.R_slice HO_14.out
                                  subst eo37
                                  go_wp2_with (first | ((with_reducible refine gate_callee (f := 17) rfl ?_); refine goesL_ (some 77) rfl rfl Try.func17 (by kernel_rfl) rfl #[.slice Ao36 t121.length co36, .slice Ao37 x14_4.length co37] rfl (by (try simp only [List.map_toArray, List.map_cons, List.map_nil]); first | done | rfl | (simp only [List.length_drop, List.length_take]; rfl)) ?_; (with_reducible refine (chalklinelaw15_holds.calls k4 _ _ t121 _ _ x14_4 true _ ?side1 ?side2 ?side3 ?side4 A33.out).mono ?_); (case side1 => repeat (first | exact (Kd.N_reads' HO_10.out).2.2 | (with_reducible refine Kd.C_alloc ?_ _) | (with_reducible refine Kd.C_drewN ?_ _) | (with_reducible refine Kd.C_drew ?_))); (case side2 => exact (Kd.N_reads' HO_10.out).2.1); (case side3 => repeat (first | exact (Kd.R_reads' HO_14.out).2.2 | (with_reducible refine Kd.C_alloc ?_ _) | (with_reducible refine Kd.C_drewN ?_ _) | (with_reducible refine Kd.C_drew ?_))); (case side4 => exact (Kd.R_reads' HO_14.out).2.1); rintro e w38 ⟨rfl, hb⟩; refine ⟨_, rfl, ?_⟩; have n0_ := Aside0.mk (Kd.R_below (by (with_reducible repeat (first | apply Kd.R_alloc | apply Kd.R_drewN | apply Kd.R_drew)); exact HO_9.out) hb); have n1_ := Aside0.mk (Kd.N_below (by (with_reducible repeat (first | apply Kd.N_alloc | apply Kd.N_drewN | apply Kd.N_drew)); exact HO_10.out) hb); have n2_ := Aside0.mk (Kd.R_below (by (with_reducible repeat (first | apply Kd.R_alloc | apply Kd.R_drewN | apply Kd.R_drew)); exact HO_14.out) hb); have n3_ := Aside0.mk (below_step (by repeat (first | (with_reducible first | exact HB.out | apply below_alloc | apply pw_below_drewN | apply below_drew1) | exact HB.out)) hb); clear HO_9; clear HO_10; clear HO_14; clear HB; have HO_9 := n0_; have HO_10 := n1_; have HO_14 := n2_; have HB := n3_; clear n0_ n1_ n2_ n3_; (try clear hb); (try clear hb2); (try clear hk); (try clear hi)) | ((with_reducible refine gate_callee (f := 18) rfl ?_); refine goesL_ (some 83) rfl rfl Try.func18 (by kernel_rfl) rfl #[.slice A0 l0.length c0, .slice Ao37 x14_4.length co37] rfl (by (try simp only [List.map_toArray, List.map_cons, List.map_nil]); first | done | rfl | (simp only [List.length_drop, List.length_take]; rfl)) ?_; (with_reducible refine (chalklinelaw15_many.calls k4 _ _ l0 _ _ x14_4 t131 _ ?side1 ?side2 ?side3 ?side4 A35.out).mono ?_); (case side1 => repeat (first | exact (Kd.C_below HR0.out HB.out) | (with_reducible refine Kd.C_alloc ?_ _) | (with_reducible refine Kd.C_drewN ?_ _) | (with_reducible refine Kd.C_drew ?_))); (case side2 => exact HC0.out); (case side3 => repeat (first | exact (Kd.R_reads' HO_14.out).2.2 | (with_reducible refine Kd.C_alloc ?_ _) | (with_reducible refine Kd.C_drewN ?_ _) | (with_reducible refine Kd.C_drew ?_))); (case side4 => exact (Kd.R_reads' HO_14.out).2.1); rintro e w' ⟨rfl, ⟨nd, rfl⟩⟩; refine ⟨_, rfl, ?_⟩))
                                  go_loopg [19] k4 (fun kq v19 w' => ∃ (x19_5 : Int), v19 = .int .i64 x19_5 ∧ Aside0 (chalklinelaw15_TotalUnique.l2 kq l0 a2 t118 t121 (wrap64 (t124 - a2)) x14_4 (wrap64 (x15_3 + 1)) x16_3 t131 x19_5 = some r) ∧ Aside0 (kq ≤ k4) ∧ Aside0 (Kd.R (Kd.int .i64) 3 w' w.heap.size (fun _ => True) v119 t118) ∧ Aside0 (Kd.N (Kd.slice 3 (Kd.int .i64)) 22 w' w.heap.size (fun k_ => some k_ ≠ (v119 : Value).ownBlock ∧ some k_ ≠ ((.slice Ao37 x14_4.length co37) : Value).ownBlock) (.slice Ao36 t121.length co36) t121) ∧ Aside0 (Kd.R Kd.bool 4 w' w.heap.size (fun _ => True) (.slice Ao37 x14_4.length co37) x14_4) ∧ Aside0 (Below w.heap.size w w'))
                                  case atStart => exact ⟨(0), (by first | rfl | (simp; done) | (simp [*]; done)), H', ⟨Nat.le_refl _⟩, ⟨by (with_reducible repeat (first | apply Kd.R_alloc | apply Kd.R_drewN | apply Kd.R_drew)); exact HO_9.out⟩, ⟨by (with_reducible repeat (first | apply Kd.N_alloc | apply Kd.N_drewN | apply Kd.N_drew)); exact HO_10.out⟩, ⟨by (with_reducible repeat (first | apply Kd.R_alloc | apply Kd.R_drewN | apply Kd.R_drew)); exact HO_14.out⟩, ⟨by repeat (first | (with_reducible first | exact HB.out | apply below_alloc | apply pw_below_drewN | apply below_drew1) | exact HB.out)⟩⟩
                                  case round =>
                                    clear H'
                                    try clear c1
                                    try clear c2
                                    try clear p2
                                    try clear c3
                                    try clear p3
                                    try clear q3
                                    try clear hx3
                                    try clear c6
                                    try clear p6
                                    try clear c9
                                    try clear c9b0
                                    try clear c9b1
                                    try clear c10
                                    try clear c11
                                    try clear c12
                                    try clear c12b0
                                    try clear c12b1
                                    try clear c15
                                    try clear c15b0
                                    try clear c16
                                    try clear c17
                                    try clear c18
                                    try clear c20
                                    try clear c20b0
                                    try clear c20b1
                                    try clear c22
                                    try clear c22b0
                                    try clear c23
                                    try clear c23b0
                                    try clear c25
                                    try clear c25b0
                                    try clear c25b1
                                    try clear c28
                                    try clear c28b0
                                    try clear c29
                                    try clear c29b0
                                    try clear p30
                                    try clear q30
                                    try clear hx30
                                    try clear hf30
                                    try clear c34
                                    try clear hx30_0
                                    try clear p2
                                    try clear p30
                                    try clear p6
                                    try clear q30
                                    obtain ⟨x19_5, rfl, HA, HK5, HO_9, HO_10, HO_14, HB⟩ := hrel
                                    cases gk with
                                    | zero => exact absurd HA.out (by simp [chalklinelaw15_TotalUnique.l2])
                                    | succ k5 =>
                                      have H := HA.out
                                      clear HA
                                      simp only [chalklinelaw15_TotalUnique.l2] at H
                                      by_cases c39 : x19_5 < (t118.length : Int)
                                      · rw [if_pos c39] at H
                                        have c39b0 : decide (x19_5 < (t118.length : Int)) = true := decide_eq_true c39
                                        clear c39
                                        by_cases c40 : 0 ≤ x19_5
                                        · rw [if_pos c40] at H
                                          have c40b0 : decide (0 ≤ x19_5) = true := decide_eq_true c40
                                          clear c40
                                          replace H := Option.bind_eq_some_iff.mp H
                                          obtain ⟨t133, A410, H⟩ := H
                                          replace H : (if (t133 != (decide (t131 > x19_5))) = true then (some false) else (chalklinelaw15_TotalUnique.l2 k5 l0 a2 t118 t121 (wrap64 (t124 - a2)) x14_4 (wrap64 (x15_3 + 1)) x16_3 t131 (wrap64 (x19_5 + 1)))) = some r := H
                                          have A41 := Aside0.mk A410
                                          clear A410
                                          by_cases c42 : (t133 != (decide (t131 > x19_5))) = true
                                          · rw [if_pos c42] at H
                                            have c42b0 : (t133 != (decide (t131 > x19_5))) = true := c42
                                            (try (have c42b1 : decide (t133 = (decide (t131 > x19_5))) = false := by simpa using c42))
                                            (try (have c42b2 : (t133 == (decide (t131 > x19_5))) = false := by simpa using c42))
                                            (try (have c42b3 : ¬ (t133 = (decide (t131 > x19_5))) := by simpa using c42))
                                            clear c42
                                            obtain rfl := Option.some.inj H
                                            obtain ⟨Ao43, co43, eo43⟩ := Kd.R_slice HO_9.out
                                            subst eo43
                                            have p132 : 0 ≤ (x19_5 : Int) := of_decide_eq_true (by first | (with_reducible assumption) | assumption)
                                            have q132 : x19_5 < (t118.length : Int) := of_decide_eq_true (by first | (with_reducible assumption) | assumption)
                                            obtain ⟨ad132, e132, hx132_0⟩ := Kd.at_int (Kd.R_reads' HO_9.out).2.2 x19_5 p132 q132
                                            cases e132
                                            replace p132 := eq_true p132
                                            replace q132 := eq_true q132
                                            go_wp2_with (first | ((with_reducible refine gate_callee (f := 19) rfl ?_); refine goesL_ (some 95) rfl rfl Try.func19 (by kernel_rfl) rfl #[.int .i64 (rd t118 x19_5), .slice Ao37 x14_4.length co37] rfl (by (try simp only [List.map_toArray, List.map_cons, List.map_nil]); first | done | rfl | (simp only [List.length_drop, List.length_take]; rfl)) ?_; (with_reducible refine (chalklinelaw15_lit.calls (rd t118 x19_5) _ _ x14_4 t133 _ ?side1 ?side2 A41.out).mono ?_); (case side1 => repeat (first | exact (Kd.R_reads' HO_14.out).2.2 | (with_reducible refine Kd.C_alloc ?_ _) | (with_reducible refine Kd.C_drewN ?_ _) | (with_reducible refine Kd.C_drew ?_))); (case side2 => exact (Kd.R_reads' HO_14.out).2.1); rintro e w' ⟨rfl, ⟨nd, rfl⟩⟩; refine ⟨_, rfl, ?_⟩))
                                            go_ret
                                            exact ⟨by first | rfl | (simp [errW_none, errW_some] <;> rfl) | (simp only [← hji19, ← hji21]; first | rfl | (simp [errW_none, errW_some] <;> rfl)) | (simp [*, errW_none, errW_some] <;> rfl), by repeat (first | (with_reducible first | exact HB.out | apply below_alloc | apply pw_below_drewN | apply below_drew1) | exact HB.out)⟩
                                          · rw [if_neg c42] at H
                                            have c42b0 : (t133 != (decide (t131 > x19_5))) = false := by simpa using c42
                                            (try (have c42b1 : decide (t133 = (decide (t131 > x19_5))) = true := by simpa using c42))
                                            (try (have c42b2 : (t133 == (decide (t131 > x19_5))) = true := by simpa using c42))
                                            clear c42
                                            have H' := Aside0.mk H
                                            clear H
                                            obtain ⟨Ao44, co44, eo44⟩ := Kd.R_slice HO_9.out
                                            subst eo44
                                            have p132 : 0 ≤ (x19_5 : Int) := of_decide_eq_true (by first | (with_reducible assumption) | assumption)
                                            have q132 : x19_5 < (t118.length : Int) := of_decide_eq_true (by first | (with_reducible assumption) | assumption)
                                            obtain ⟨ad132, e132, hx132_0⟩ := Kd.at_int (Kd.R_reads' HO_9.out).2.2 x19_5 p132 q132
                                            cases e132
                                            replace p132 := eq_true p132
                                            replace q132 := eq_true q132
                                            go_wp2_with (first | ((with_reducible refine gate_callee (f := 19) rfl ?_); refine goesL_ (some 95) rfl rfl Try.func19 (by kernel_rfl) rfl #[.int .i64 (rd t118 x19_5), .slice Ao37 x14_4.length co37] rfl (by (try simp only [List.map_toArray, List.map_cons, List.map_nil]); first | done | rfl | (simp only [List.length_drop, List.length_take]; rfl)) ?_; (with_reducible refine (chalklinelaw15_lit.calls (rd t118 x19_5) _ _ x14_4 t133 _ ?side1 ?side2 A41.out).mono ?_); (case side1 => repeat (first | exact (Kd.R_reads' HO_14.out).2.2 | (with_reducible refine Kd.C_alloc ?_ _) | (with_reducible refine Kd.C_drewN ?_ _) | (with_reducible refine Kd.C_drew ?_))); (case side2 => exact (Kd.R_reads' HO_14.out).2.1); rintro e w' ⟨rfl, ⟨nd, rfl⟩⟩; refine ⟨_, rfl, ?_⟩))
                                            go_roundg k5
                                            case measure => have := HJ6.out; have := HJ12.out; have := HK3.out; have := HK4.out; have := HK5.out; omega
                                            case rel => exact ⟨(wrap64 (x19_5 + 1)), (by first | rfl | (simp; done) | (simp [*]; done)), H', ⟨by have := HJ6.out; have := HJ12.out; have := HK3.out; have := HK4.out; have := HK5.out; omega⟩, ⟨by (with_reducible repeat (first | apply Kd.R_alloc | apply Kd.R_drewN | apply Kd.R_drew)); exact HO_9.out⟩, ⟨by (with_reducible repeat (first | apply Kd.N_alloc | apply Kd.N_drewN | apply Kd.N_drew)); exact HO_10.out⟩, ⟨by (with_reducible repeat (first | apply Kd.R_alloc | apply Kd.R_drewN | apply Kd.R_drew)); exact HO_14.out⟩, ⟨by repeat (first | (with_reducible first | exact HB.out | apply below_alloc | apply pw_below_drewN | apply below_drew1) | exact HB.out)⟩⟩
                                        · rw [if_neg c40] at H
                                          exact absurd H (by simp)
                                      · rw [if_neg c39] at H
                                        have c39b0 : decide (x19_5 < (t118.length : Int)) = false := decide_eq_false c39
                                        clear c39
                                        have H' := Aside0.mk H
                                        clear H
                                        obtain ⟨Ao45, co45, eo45⟩ := Kd.R_slice HO_9.out
                                        subst eo45
                                        go_wp2
                                        go_roundg k5
                                        case measure => have := HJ6.out; have := HJ12.out; have := HK3.out; have := HK4.out; have := HK5.out; omega
                                        case rel => exact ⟨(x14_4), ((wrap64 (x15_3 + 1))), (wrap64 (x16_3 + 1)), (by first | rfl | (simp; done) | (simp [*]; done)), (by first | rfl | (simp; done) | (simp [*]; done)), H', ⟨by have := HJ6.out; have := HJ12.out; have := HK3.out; have := HK4.out; have := HK5.out; omega⟩, ⟨by (with_reducible repeat (first | apply Kd.R_alloc | apply Kd.R_drewN | apply Kd.R_drew)); exact HO_9.out⟩, ⟨by (with_reducible repeat (first | apply Kd.N_alloc | apply Kd.N_drewN | apply Kd.N_drew)); exact HO_10.out⟩, ⟨by (with_reducible repeat (first | apply Kd.R_alloc | apply Kd.R_drewN | apply Kd.R_drew)); exact HO_14.out⟩, ⟨by repeat (first | (with_reducible first | exact HB.out | apply below_alloc | apply pw_below_drewN | apply below_drew1) | exact HB.out)⟩⟩
                                · replace c34 := Bool.eq_false_iff.mpr c34
                                  subst c34
                                  have H1 : (chalklinelaw15_TotalUnique.l0 k4 l0 a2 t118 t121 (wrap64 (t124 - a2)) x14_4 x15_3 (wrap64 (x16_3 + 1))) = some r := by rw [if_neg (show ¬ (false = true) by decide)] at H; exact H
                                  clear H
                                  have H := H1
                                  clear H1
                                  have H' := Aside0.mk H
                                  clear H
                                  obtain ⟨Ao46, co46, eo46⟩ := Kd.N_slice HO_10.out
                                  subst eo46
                                  obtain ⟨Ao47, co47, eo47⟩ := Kd.R_slice HO_14.out
                                  subst eo47
                                  go_wp2_with (first | ((with_reducible refine gate_callee (f := 17) rfl ?_); refine goesL_ (some 77) rfl rfl Try.func17 (by kernel_rfl) rfl #[.slice Ao46 t121.length co46, .slice Ao47 x14_4.length co47] rfl (by (try simp only [List.map_toArray, List.map_cons, List.map_nil]); first | done | rfl | (simp only [List.length_drop, List.length_take]; rfl)) ?_; (with_reducible refine (chalklinelaw15_holds.calls k4 _ _ t121 _ _ x14_4 false _ ?side1 ?side2 ?side3 ?side4 A33.out).mono ?_); (case side1 => repeat (first | exact (Kd.N_reads' HO_10.out).2.2 | (with_reducible refine Kd.C_alloc ?_ _) | (with_reducible refine Kd.C_drewN ?_ _) | (with_reducible refine Kd.C_drew ?_))); (case side2 => exact (Kd.N_reads' HO_10.out).2.1); (case side3 => repeat (first | exact (Kd.R_reads' HO_14.out).2.2 | (with_reducible refine Kd.C_alloc ?_ _) | (with_reducible refine Kd.C_drewN ?_ _) | (with_reducible refine Kd.C_drew ?_))); (case side4 => exact (Kd.R_reads' HO_14.out).2.1); rintro e w48 ⟨rfl, hb⟩; refine ⟨_, rfl, ?_⟩; have n0_ := Aside0.mk (Kd.R_below (by (with_reducible repeat (first | apply Kd.R_alloc | apply Kd.R_drewN | apply Kd.R_drew)); exact HO_9.out) hb); have n1_ := Aside0.mk (Kd.N_below (by (with_reducible repeat (first | apply Kd.N_alloc | apply Kd.N_drewN | apply Kd.N_drew)); exact HO_10.out) hb); have n2_ := Aside0.mk (Kd.R_below (by (with_reducible repeat (first | apply Kd.R_alloc | apply Kd.R_drewN | apply Kd.R_drew)); exact HO_14.out) hb); have n3_ := Aside0.mk (below_step (by repeat (first | (with_reducible first | exact HB.out | apply below_alloc | apply pw_below_drewN | apply below_drew1) | exact HB.out)) hb); clear HO_9; clear HO_10; clear HO_14; clear HB; have HO_9 := n0_; have HO_10 := n1_; have HO_14 := n2_; have HB := n3_; clear n0_ n1_ n2_ n3_; (try clear hb); (try clear hb2); (try clear hk); (try clear hi)))
                                  go_roundg k4
                                  case measure => have := HJ6.out; have := HJ12.out; have := HK3.out; have := HK4.out; omega
                                  case rel => exact ⟨(x14_4), (x15_3), (wrap64 (x16_3 + 1)), (by first | rfl | (simp; done) | (simp [*]; done)), (by first | rfl | (simp; done) | (simp [*]; done)), H', ⟨by have := HJ6.out; have := HJ12.out; have := HK3.out; have := HK4.out; omega⟩, ⟨by (with_reducible repeat (first | apply Kd.R_alloc | apply Kd.R_drewN | apply Kd.R_drew)); exact HO_9.out⟩, ⟨by (with_reducible repeat (first | apply Kd.N_alloc | apply Kd.N_drewN | apply Kd.N_drew)); exact HO_10.out⟩, ⟨by (with_reducible repeat (first | apply Kd.R_alloc | apply Kd.R_drewN | apply Kd.R_drew)); exact HO_14.out⟩, ⟨by repeat (first | (with_reducible first | exact HB.out | apply below_alloc | apply pw_below_drewN | apply below_drew1) | exact HB.out)⟩⟩
                        · rw [if_neg c22] at H
                          have c22b0 : decide (x16_3 < (ji21)) = false := decide_eq_false c22
                          clear c22
                          obtain rfl := Option.some.inj H
                          go_wp2
                          go_ret
                          exact ⟨by first | rfl | (simp [errW_none, errW_some] <;> rfl) | (simp only [← hji19, ← hji21]; first | rfl | (simp [errW_none, errW_some] <;> rfl)) | (simp [*, errW_none, errW_some] <;> rfl), by repeat (first | (with_reducible first | exact HB.out | apply below_alloc | apply pw_below_drewN | apply below_drew1) | exact HB.out)⟩
                      · rw [if_neg c20] at H
                        exact absurd H (by simp)
          · rw [if_neg c12] at H
            have c12b0 : (t125 == 0) = false := beq_eq_false_iff_ne.mpr c12
            have c12b1 : (t125 != 0) = true := bne_iff_ne.mpr c12
            obtain rfl := Option.some.inj H
            go_wp2_with (first | ((with_reducible refine gate_callee (f := 11) rfl ?_); refine goesL_ (some 33) rfl rfl Try.func11 (by kernel_rfl) rfl #[.slice A0 l0.length c0, .int .i64 a1, .int .i64 a2] rfl (by (try simp only [List.map_toArray, List.map_cons, List.map_nil]); first | done | rfl | (simp only [List.length_drop, List.length_take]; rfl)) ?_; (with_reducible refine (total_Total.calls _ _ l0 a1 a2 t118 t121 t124 t125 _ ?side1 ?side2 A11.out).mono ?_); (case side1 => repeat (first | exact (Kd.C_below HR0.out HB.out) | (with_reducible refine Kd.C_alloc ?_ _) | (with_reducible refine Kd.C_drewN ?_ _) | (with_reducible refine Kd.C_drew ?_))); (case side2 => exact HC0.out); rintro e w49 ⟨v119, v122, rfl, ho0, ho1, hb⟩; refine ⟨_, rfl, ?_⟩; have n0_ := Aside0.mk (Kd.R_lower (Kd.R_mono (ok' := fun k_ => True) ho0 (fun _ hk_ => trivial)) (below_size (by repeat (first | (with_reducible first | exact HB.out | apply below_alloc | apply pw_below_drewN | apply below_drew1) | exact HB.out)))); have n1_ := Aside0.mk (Kd.N_lower (Kd.N_mono (ok' := fun k_ => some k_ ≠ (v119 : Value).ownBlock) ho1 (fun k_ hk_ => hk_.2)) (below_size (by repeat (first | (with_reducible first | exact HB.out | apply below_alloc | apply pw_below_drewN | apply below_drew1) | exact HB.out)))); have n2_ := Aside0.mk (below_step (by repeat (first | (with_reducible first | exact HB.out | apply below_alloc | apply pw_below_drewN | apply below_drew1) | exact HB.out)) hb); clear HB; have HO120 := n0_; have HO123 := n1_; have HB := n2_; clear n0_ n1_ n2_; (try clear hb); (try clear hb2); (try clear hk); (try clear hi); (try clear ho0); (try clear ho1)))
            go_ret
            exact ⟨by first | rfl | (simp [errW_none, errW_some] <;> rfl) | (simp [*, errW_none, errW_some] <;> rfl), by repeat (first | (with_reducible first | exact HB.out | apply below_alloc | apply pw_below_drewN | apply below_drew1) | exact HB.out)⟩
  · replace c6 := Bool.eq_false_iff.mpr c6
    subst c6
    have H1 : (some false) = some r := by rw [if_neg (show ¬ (false = true) by decide)] at H; exact H
    clear H
    have H := H1
    clear H1
    obtain rfl := Option.some.inj H
    go_enter Try.func6, Try.ntmps6
    go_wp2_with (first | ((with_reducible refine gate_callee (f := 10) rfl ?_); refine goesL_ (some 20) rfl rfl Try.func10 (by kernel_rfl) rfl #[] rfl (by (try simp only [List.map_toArray, List.map_cons, List.map_nil]); first | done | rfl | (simp only [List.length_drop, List.length_take]; rfl)) ?_; (with_reducible refine (chalklinelaw15_live.calls  false _ A5.out).mono ?_); rintro e w50 ⟨rfl, hb⟩; refine ⟨_, rfl, ?_⟩; have n0_ := Aside0.mk (below_step (by repeat (first | (with_reducible first | exact HB.out | apply below_alloc | apply pw_below_drewN | apply below_drew1) | exact HB.out)) hb); clear HB; have HB := n0_; clear n0_; (try clear hb); (try clear hb2); (try clear hk); (try clear hi)))
    go_ret
    exact ⟨by first | rfl | (simp [errW_none, errW_some] <;> rfl) | (simp [*, errW_none, errW_some] <;> rfl), by repeat (first | (with_reducible first | exact HB.out | apply below_alloc | apply pw_below_drewN | apply below_drew1) | exact HB.out)⟩

end Go.Proofs.Ytdkfhpgbiohhoaa.QUn
