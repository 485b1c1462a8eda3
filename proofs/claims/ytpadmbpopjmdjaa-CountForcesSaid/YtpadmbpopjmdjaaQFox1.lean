-- Printed for this seat by a program of this session (wip/tools/give.py).
import Derived.Test.YtpadmbpopjmdjaaQFox0
namespace Go.Proofs.Ytpadmbpopjmdjaa.QFo
open Go.RowKit Go.Proofs.YtpadmbpopjmdjaaW.PrintWords Go.Proofs.YtpadmbpopjmdjaaW.PrintLast Go.Proofs.YtpadmbpopjmdjaaW.PrintMore Go.Proofs.Ytpadmbpopjmdjaa.G Go.Proofs.Ytpadmbpopjmdjaa.QRef Go.Proofs.Ytpadmbpopjmdjaa.QCan
attribute [local go_sem] max2_int min2_int max_two min_two max_three min_three max_four min_four   -- for this text's walks alone
set_option linter.unusedVariables false
set_option linter.unusedSimpArgs false

-- NOT PRINTED: function 27 (count_right)

-- NOT PRINTED: function 29 (count_row)

-- NOT PRINTED: function 31 (slices_Clone_int_int)

/-! ### chalklinelaw16_forced: function 20 -/
mutual
def chalklinelaw16_forced.l0 : Nat → List (List Int) → List Int → Int → Int → Option (Bool × List Int)
  | 0, _, _, _, _ => none
  | k + 1, x0, x1, x17, x18 => if x18 < x17 then (chalklinelaw16_forced.l1 k x0 x1 false x17 x18 x0 (x0.length : Int) 0) else (some (false, x1))
def chalklinelaw16_forced.l1 : Nat → List (List Int) → List Int → Bool → Int → Int → List (List Int) → Int → Int → Option (Bool × List Int)
  | 0, _, _, _, _, _, _, _, _ => none
  | k + 1, x0, x1, x5, x17, x18, x20, x21, x22 => if x22 < x21 then (if 0 ≤ x22 then (if x22 < (x20.length : Int) then (chalklinelaw16_forced.l2 k x0 x1 x5 0 0 false x17 x18 x20 x21 x22 (rd_L1 x20 x22) ((rd_L1 x20 x22).length : Int) 0) else (none)) else (none)) else (if x5 = true then (chalklinelaw16_forced.l0 k x0 x1 x17 (wrap64 (x18 + 1))) else (some (false, x1)))
def chalklinelaw16_forced.l2 : Nat → List (List Int) → List Int → Bool → Int → Int → Bool → Int → Int → List (List Int) → Int → Int → List Int → Int → Int → Option (Bool × List Int)
  | 0, _, _, _, _, _, _, _, _, _, _, _, _, _, _ => none
  | k + 1, x0, x1, x5, x8, x9, x10, x17, x18, x20, x21, x22, x26, x27, x28 => if x28 < x27 then (if 0 ≤ x28 then (if x28 < (x26.length : Int) then (if (mx (rd x26 x28) (wrap64 (-(rd x26 x28)))) ≥ (x1.length : Int) then (some (false, x1)) else (if 0 ≤ (mx (rd x26 x28) (wrap64 (-(rd x26 x28)))) then (if (mx (rd x26 x28) (wrap64 (-(rd x26 x28)))) < (x1.length : Int) then (if (rd x26 x28) < 0 then (if x10 = true then (if (wrap64 (-(rd x1 (mx (rd x26 x28) (wrap64 (-(rd x26 x28))))))) = 0 then (chalklinelaw16_forced.l2 k x0 x1 x5 (wrap64 (x8 + 1)) (rd x26 x28) true x17 x18 x20 x21 x22 x26 x27 (wrap64 (x28 + 1))) else (chalklinelaw16_forced.l2 k x0 x1 x5 x8 x9 true x17 x18 x20 x21 x22 x26 x27 (wrap64 (x28 + 1)))) else (if (wrap64 (-(rd x1 (mx (rd x26 x28) (wrap64 (-(rd x26 x28))))))) = 0 then (chalklinelaw16_forced.l2 k x0 x1 x5 (wrap64 (x8 + 1)) (rd x26 x28) ((wrap64 (-(rd x1 (mx (rd x26 x28) (wrap64 (-(rd x26 x28))))))) == 1) x17 x18 x20 x21 x22 x26 x27 (wrap64 (x28 + 1))) else (chalklinelaw16_forced.l2 k x0 x1 x5 x8 x9 ((wrap64 (-(rd x1 (mx (rd x26 x28) (wrap64 (-(rd x26 x28))))))) == 1) x17 x18 x20 x21 x22 x26 x27 (wrap64 (x28 + 1))))) else (if x10 = true then (if (rd x1 (mx (rd x26 x28) (wrap64 (-(rd x26 x28))))) = 0 then (chalklinelaw16_forced.l2 k x0 x1 x5 (wrap64 (x8 + 1)) (rd x26 x28) true x17 x18 x20 x21 x22 x26 x27 (wrap64 (x28 + 1))) else (chalklinelaw16_forced.l2 k x0 x1 x5 x8 x9 true x17 x18 x20 x21 x22 x26 x27 (wrap64 (x28 + 1)))) else (if (rd x1 (mx (rd x26 x28) (wrap64 (-(rd x26 x28))))) = 0 then (chalklinelaw16_forced.l2 k x0 x1 x5 (wrap64 (x8 + 1)) (rd x26 x28) ((rd x1 (mx (rd x26 x28) (wrap64 (-(rd x26 x28))))) == 1) x17 x18 x20 x21 x22 x26 x27 (wrap64 (x28 + 1))) else (chalklinelaw16_forced.l2 k x0 x1 x5 x8 x9 ((rd x1 (mx (rd x26 x28) (wrap64 (-(rd x26 x28))))) == 1) x17 x18 x20 x21 x22 x26 x27 (wrap64 (x28 + 1)))))) else (none)) else (none))) else (none)) else (none)) else (if x10 = true then (chalklinelaw16_forced.l1 k x0 x1 x5 x17 x18 x20 x21 (wrap64 (x22 + 1))) else (if x8 = 0 then (some (true, x1)) else (if x8 = 1 then (if x9 > 0 then (if 0 ≤ x9 then (if x9 < (x1.length : Int) then (chalklinelaw16_forced.l1 k x0 (x1.set (x9 : Int).toNat 1) true x17 x18 x20 x21 (wrap64 (x22 + 1))) else (none)) else (none)) else (if 0 ≤ (wrap64 (-x9)) then (if (wrap64 (-x9)) < (x1.length : Int) then (chalklinelaw16_forced.l1 k x0 (x1.set ((wrap64 (-x9)) : Int).toNat (-1)) true x17 x18 x20 x21 (wrap64 (x22 + 1))) else (none)) else (none))) else (chalklinelaw16_forced.l1 k x0 x1 x5 x17 x18 x20 x21 (wrap64 (x22 + 1))))))
end
def chalklinelaw16_forced.f (k : Nat) (l0 : List (List Int)) (l1 : List Int) : Option (Bool × List Int) := chalklinelaw16_forced.l0 k l0 l1 (wrap64 ((l1.length : Int) + 1)) 0
theorem chalklinelaw16_forced.mono_l : ∀ k, (∀ y0 y1 y2 y3, LeO (chalklinelaw16_forced.l0 k y0 y1 y2 y3) (chalklinelaw16_forced.l0 (k + 1) y0 y1 y2 y3)) ∧ (∀ y0 y1 y2 y3 y4 y5 y6 y7, LeO (chalklinelaw16_forced.l1 k y0 y1 y2 y3 y4 y5 y6 y7) (chalklinelaw16_forced.l1 (k + 1) y0 y1 y2 y3 y4 y5 y6 y7)) ∧ (∀ y0 y1 y2 y3 y4 y5 y6 y7 y8 y9 y10 y11 y12 y13, LeO (chalklinelaw16_forced.l2 k y0 y1 y2 y3 y4 y5 y6 y7 y8 y9 y10 y11 y12 y13) (chalklinelaw16_forced.l2 (k + 1) y0 y1 y2 y3 y4 y5 y6 y7 y8 y9 y10 y11 y12 y13))
  | 0 => ⟨fun _ _ _ _ r h => by simp [chalklinelaw16_forced.l0] at h, fun _ _ _ _ _ _ _ _ r h => by simp [chalklinelaw16_forced.l1] at h, fun _ _ _ _ _ _ _ _ _ _ _ _ _ _ r h => by simp [chalklinelaw16_forced.l2] at h⟩
  | k + 1 => by
    obtain ⟨ih0, ih1, ih2⟩ := chalklinelaw16_forced.mono_l k
    refine ⟨?_, ?_, ?_⟩
    · intro y0 y1 y2 y3
      unfold chalklinelaw16_forced.l0
      repeat' first
      | (with_reducible exact ih0 _ _ _ _)
      | (with_reducible exact ih1 _ _ _ _ _ _ _ _)
      | (with_reducible exact ih2 _ _ _ _ _ _ _ _ _ _ _ _ _ _)
      | (with_reducible exact LeO.refl _)
      | (with_reducible exact LeO.none _)
      | (with_reducible refine LeO.ite ?_ ?_)
      | (with_reducible refine LeO.bind ?_ (fun _ => ?_))
      | exact ih0 _ _ _ _
      | exact ih1 _ _ _ _ _ _ _ _
      | exact ih2 _ _ _ _ _ _ _ _ _ _ _ _ _ _
      | exact LeO.none _
      | refine LeO.ite ?_ ?_
      | refine LeO.bind ?_ (fun _ => ?_)
    · intro y0 y1 y2 y3 y4 y5 y6 y7
      unfold chalklinelaw16_forced.l1
      repeat' first
      | (with_reducible exact ih0 _ _ _ _)
      | (with_reducible exact ih1 _ _ _ _ _ _ _ _)
      | (with_reducible exact ih2 _ _ _ _ _ _ _ _ _ _ _ _ _ _)
      | (with_reducible exact LeO.refl _)
      | (with_reducible exact LeO.none _)
      | (with_reducible refine LeO.ite ?_ ?_)
      | (with_reducible refine LeO.bind ?_ (fun _ => ?_))
      | exact ih0 _ _ _ _
      | exact ih1 _ _ _ _ _ _ _ _
      | exact ih2 _ _ _ _ _ _ _ _ _ _ _ _ _ _
      | exact LeO.none _
      | refine LeO.ite ?_ ?_
      | refine LeO.bind ?_ (fun _ => ?_)
    · intro y0 y1 y2 y3 y4 y5 y6 y7 y8 y9 y10 y11 y12 y13
      unfold chalklinelaw16_forced.l2
      repeat' first
      | (with_reducible exact ih0 _ _ _ _)
      | (with_reducible exact ih1 _ _ _ _ _ _ _ _)
      | (with_reducible exact ih2 _ _ _ _ _ _ _ _ _ _ _ _ _ _)
      | (with_reducible exact LeO.refl _)
      | (with_reducible exact LeO.none _)
      | (with_reducible refine LeO.ite ?_ ?_)
      | (with_reducible refine LeO.bind ?_ (fun _ => ?_))
      | exact ih0 _ _ _ _
      | exact ih1 _ _ _ _ _ _ _ _
      | exact ih2 _ _ _ _ _ _ _ _ _ _ _ _ _ _
      | exact LeO.none _
      | refine LeO.ite ?_ ?_
      | refine LeO.bind ?_ (fun _ => ?_)
theorem chalklinelaw16_forced.mono : ∀ a0 a1 k, LeO (chalklinelaw16_forced.f k a0 a1) (chalklinelaw16_forced.f (k + 1) a0 a1) := by
  intro a0 a1 k
  obtain ⟨ih0, ih1, ih2⟩ := chalklinelaw16_forced.mono_l k
  unfold chalklinelaw16_forced.f
  repeat' first
      | (with_reducible exact ih0 _ _ _ _)
      | (with_reducible exact ih1 _ _ _ _ _ _ _ _)
      | (with_reducible exact ih2 _ _ _ _ _ _ _ _ _ _ _ _ _ _)
      | (with_reducible exact LeO.refl _)
      | (with_reducible exact LeO.none _)
      | (with_reducible refine LeO.ite ?_ ?_)
      | (with_reducible refine LeO.bind ?_ (fun _ => ?_))
      | exact ih0 _ _ _ _
      | exact ih1 _ _ _ _ _ _ _ _
      | exact ih2 _ _ _ _ _ _ _ _ _ _ _ _ _ _
      | exact LeO.none _
      | refine LeO.ite ?_ ?_
      | refine LeO.bind ?_ (fun _ => ?_)
set_option maxHeartbeats 8000000 in
set_option maxRecDepth 100000 in
theorem chalklinelaw16_forced.calls (k : Nat) (A0 : Option Addr) (c0 : Nat) (l0 : List (List Int)) (P1_ : Nat → Prop) (u9000_ : Value) (l1 : List Int) (r1 : Bool) (r2 : List Int) (w0 w : World) (hB : Below w0.heap.size w0 w) (hr0 : ∀ W_, Kept w W_ (fun k_ => P1_ k_) → Kd.C (Kd.slice 3 (Kd.int .i64)) W_ A0 l0.length l0) (hc0 : l0.length ≤ c0) (ho1 : Kd.R (Kd.int .i64) 3 w w0.heap.size P1_ u9000_ l1) (h : chalklinelaw16_forced.f k l0 l1 = some (r1, r2)) :
    Calls Try.prog 20 #[.slice A0 l0.length c0, u9000_] w fun e w' => e = .returned (.bool r1) ∧ Kd.R (Kd.int .i64) 3 w' w0.heap.size (fun k_ => (P1_ k_ ∨ w.heap.size ≤ k_)) u9000_ r2 ∧ Below w0.heap.size w0 w' ∧ Kept w w' (fun k_ => P1_ k_) := by
  have HR0 := Aside0.mk hr0
  have HC0 := Aside0.mk hc0
  clear hr0 hc0
  have HO1 := Aside0.mk (show Kd.R (Kd.int .i64) 3 w w0.heap.size (fun k_ => (P1_ k_ ∨ w.heap.size ≤ k_)) u9000_ l1 from Kd.R_mono ho1 (fun k_ hk => (.inl hk)))
  have HK := Aside0.mk (Kept.refl w (fun k_ => P1_ k_))
  have HW0 := Aside0.mk hB.size
  have HB := Aside0.mk hB
  clear hB
  have H : (chalklinelaw16_forced.l0 k l0 l1 (wrap64 ((l1.length : Int) + 1)) 0) = some (r1, r2) := h
  clear h
  obtain ⟨N_, hN_⟩ : ∃ N_ : Int, wrap64 ((l1.length : Int) + 1) = N_ := ⟨_, rfl⟩
  rw [hN_] at H
  have H' := Aside0.mk H
  clear H
  obtain ⟨Ao3, co3, eo3⟩ := Kd.R_slice HO1.out
  subst eo3
  go_enter Try.func20, Try.ntmps20
  go_wp2
  (try rw [hN_])
  clear hN_
  go_loopg [18] k (fun kq v18 w' => ∃ (x1_1 : List Int) (x18_1 : Int), v18 = .int .i64 x18_1 ∧ Aside0 (chalklinelaw16_forced.l0 kq l0 x1_1 N_ x18_1 = some (r1, r2)) ∧ Aside0 (kq ≤ k) ∧ Aside0 (Kd.R (Kd.int .i64) 3 w' w0.heap.size (fun k_ => (P1_ k_ ∨ w.heap.size ≤ k_)) (.slice Ao3 l1.length co3) x1_1) ∧ Aside0 (Kept w w' (fun k_ => P1_ k_)) ∧ Aside0 (Below w0.heap.size w0 w'))
  case atStart => exact ⟨(l1), (0), (by first | rfl | (simp; done) | (simp [*]; done)), H', ⟨Nat.le_refl _⟩, ⟨by (with_reducible repeat (first | apply Kd.R_alloc | apply Kd.R_drewN | apply Kd.R_drew)); exact HO1.out⟩, ⟨by repeat (first | (with_reducible first | exact HK.out | apply Kept.alloc | apply Kept.drewN | apply Kept.drew) | exact HK.out)⟩, ⟨by repeat (first | (with_reducible first | exact HB.out | apply below_alloc | apply pw_below_drewN | apply below_drew1) | exact HB.out)⟩⟩
  case round =>
    clear H'
    try clear c2
    try clear p2
    obtain ⟨x1_1, x18_1, rfl, HA, HK1, HO_1, HK, HB⟩ := hrel
    have hl1_1 := (Kd.R_reads' HO_1.out).1
    rw [hl1_1] at HO_1
    (try simp only [hl1_1])
    cases gk with
    | zero => exact absurd HA.out (by simp [chalklinelaw16_forced.l0])
    | succ k1 =>
      have H := HA.out
      clear HA
      simp only [chalklinelaw16_forced.l0] at H
      by_cases c4 : x18_1 < N_
      · rw [if_pos c4] at H
        have c4b0 : decide (x18_1 < N_) = true := decide_eq_true c4
        clear c4
        have H' := Aside0.mk H
        clear H
        go_wp2
        go_loopg [5, 22] k1 (fun kq v5 v22 w' => ∃ (x1_2 : List Int) (x5_2 : Bool) (x22_2 : Int), v5 = .bool x5_2 ∧ v22 = .int .i64 x22_2 ∧ Aside0 (chalklinelaw16_forced.l1 kq l0 x1_2 x5_2 N_ x18_1 l0 (l0.length : Int) x22_2 = some (r1, r2)) ∧ Aside0 (kq ≤ k1) ∧ Aside0 (Kd.R (Kd.int .i64) 3 w' w0.heap.size (fun k_ => (P1_ k_ ∨ w.heap.size ≤ k_)) (.slice Ao3 x1_1.length co3) x1_2) ∧ Aside0 (Kept w w' (fun k_ => P1_ k_)) ∧ Aside0 (Below w0.heap.size w0 w'))
        case atStart => exact ⟨(x1_1), (false), (0), (by first | rfl | (simp; done) | (simp [*]; done)), (by first | rfl | (simp; done) | (simp [*]; done)), H', ⟨Nat.le_refl _⟩, ⟨by (try simp only [hl1_1]); (with_reducible repeat (first | apply Kd.R_alloc | apply Kd.R_drewN | apply Kd.R_drew)); exact HO_1.out⟩, ⟨by repeat (first | (with_reducible first | exact HK.out | apply Kept.alloc | apply Kept.drewN | apply Kept.drew) | exact HK.out)⟩, ⟨by repeat (first | (with_reducible first | exact HB.out | apply below_alloc | apply pw_below_drewN | apply below_drew1) | exact HB.out)⟩⟩
        case round =>
          clear H'
          try clear c2
          try clear p2
          try clear c4
          try clear c4b0
          try clear p2
          obtain ⟨x1_2, x5_2, x22_2, rfl, rfl, HA, HK2, HO_1, HK, HB⟩ := hrel
          have hl1_2 := (Kd.R_reads' HO_1.out).1
          rw [hl1_2] at HO_1
          (try simp only [hl1_2])
          cases gk with
          | zero => exact absurd HA.out (by simp [chalklinelaw16_forced.l1])
          | succ k2 =>
            have H := HA.out
            clear HA
            simp only [chalklinelaw16_forced.l1] at H
            by_cases c5 : x22_2 < (l0.length : Int)
            · rw [if_pos c5] at H
              have c5b0 : decide (x22_2 < (l0.length : Int)) = true := decide_eq_true c5
              clear c5
              by_cases c6 : 0 ≤ x22_2
              · rw [if_pos c6] at H
                have c6b0 : decide (0 ≤ x22_2) = true := decide_eq_true c6
                clear c6
                by_cases c7 : x22_2 < (l0.length : Int)
                · rw [if_pos c7] at H
                  have c7b0 : decide (x22_2 < (l0.length : Int)) = true := decide_eq_true c7
                  clear c7
                  have H' := Aside0.mk H
                  clear H
                  have p101 : 0 ≤ (x22_2 : Int) := of_decide_eq_true (by first | (with_reducible assumption) | assumption)
                  have q101 : x22_2 < (l0.length : Int) := of_decide_eq_true (by first | (with_reducible assumption) | assumption)
                  obtain ⟨ad101, A101_0, c101_0, e101, hx101_0, hl101_0, hi101_0⟩ := at_L1 (Kd.C_kept_now HR0.out HK.out) x22_2 p101 q101
                  cases e101
                  have HR101_0 := Aside0.mk hi101_0
                  have HC101_0 := Aside0.mk hl101_0
                  clear hi101_0 hl101_0
                  replace p101 := eq_true p101
                  replace q101 := eq_true q101
                  go_wp2
                  go_loopg [8, 9, 10, 28] k2 (fun kq v8 v9 v10 v28 w' => ∃ (x8_3 : Int) (x9_3 : Int) (x10_3 : Bool) (x28_3 : Int), v8 = .int .i64 x8_3 ∧ v9 = .int .i64 x9_3 ∧ v10 = .bool x10_3 ∧ v28 = .int .i64 x28_3 ∧ Aside0 (chalklinelaw16_forced.l2 kq l0 x1_2 x5_2 x8_3 x9_3 x10_3 N_ x18_1 l0 (l0.length : Int) x22_2 (rd_L1 l0 x22_2) ((rd_L1 l0 x22_2).length : Int) x28_3 = some (r1, r2)) ∧ Aside0 (kq ≤ k2) ∧ Aside0 (Kd.R (Kd.int .i64) 3 w' w0.heap.size (fun k_ => (P1_ k_ ∨ w.heap.size ≤ k_)) (.slice Ao3 x1_2.length co3) x1_2) ∧ Aside0 (Kd.C (Kd.int .i64) w' A101_0 (rd_L1 l0 x22_2).length (rd_L1 l0 x22_2)) ∧ Aside0 (Kept w w' (fun k_ => P1_ k_)) ∧ Aside0 (Below w0.heap.size w0 w'))
                  case atStart => exact ⟨(0), (0), (false), (0), (by first | rfl | (simp; done) | (simp [*]; done)), (by first | rfl | (simp; done) | (simp [*]; done)), (by first | rfl | (simp; done) | (simp [*]; done)), (by first | rfl | (simp; done) | (simp [*]; done)), H', ⟨Nat.le_refl _⟩, ⟨by (try simp only [hl1_1]); (try simp only [hl1_2]); (with_reducible repeat (first | apply Kd.R_alloc | apply Kd.R_drewN | apply Kd.R_drew)); exact HO_1.out⟩, ⟨by repeat (first | (with_reducible exact HR101_0.out) | (with_reducible refine Kd.C_alloc ?_ _) | (with_reducible refine Kd.C_drewN ?_ _) | (with_reducible refine Kd.C_drew ?_) | exact HR101_0.out)⟩, ⟨by repeat (first | (with_reducible first | exact HK.out | apply Kept.alloc | apply Kept.drewN | apply Kept.drew) | exact HK.out)⟩, ⟨by repeat (first | (with_reducible first | exact HB.out | apply below_alloc | apply pw_below_drewN | apply below_drew1) | exact HB.out)⟩⟩
                  case round =>
                    clear H'
                    try clear c1
                    try clear p1
                    try clear q1
                    try clear hx1
                    try clear c2
                    try clear p2
                    try clear c4
                    try clear c4b0
                    try clear c5
                    try clear c5b0
                    try clear c6
                    try clear c6b0
                    try clear p6
                    try clear c7
                    try clear c7b0
                    try clear hx101_0
                    try clear p101
                    try clear p2
                    try clear q101
                    obtain ⟨x8_3, x9_3, x10_3, x28_3, rfl, rfl, rfl, rfl, HA, HK3, HO_1, HR101_0, HK, HB⟩ := hrel
                    cases gk with
                    | zero => exact absurd HA.out (by simp [chalklinelaw16_forced.l2])
                    | succ k3 =>
                      have H := HA.out
                      clear HA
                      simp only [chalklinelaw16_forced.l2] at H
                      by_cases c8 : x28_3 < ((rd_L1 l0 x22_2).length : Int)
                      · rw [if_pos c8] at H
                        have c8b0 : decide (x28_3 < ((rd_L1 l0 x22_2).length : Int)) = true := decide_eq_true c8
                        clear c8
                        by_cases c9 : 0 ≤ x28_3
                        · rw [if_pos c9] at H
                          have c9b0 : decide (0 ≤ x28_3) = true := decide_eq_true c9
                          clear c9
                          by_cases c10 : x28_3 < ((rd_L1 l0 x22_2).length : Int)
                          · rw [if_pos c10] at H
                            have c10b0 : decide (x28_3 < ((rd_L1 l0 x22_2).length : Int)) = true := decide_eq_true c10
                            clear c10
                            obtain ⟨ji11, hji11⟩ : ∃ j_ : Int, (mx (rd (rd_L1 l0 x22_2) x28_3) (wrap64 (-(rd (rd_L1 l0 x22_2) x28_3)))) = j_ := ⟨_, rfl⟩
                            replace H : (if (ji11) ≥ (x1_2.length : Int) then (some (false, x1_2)) else (if 0 ≤ (ji11) then (if (ji11) < (x1_2.length : Int) then (if (rd (rd_L1 l0 x22_2) x28_3) < 0 then (if x10_3 = true then (if (wrap64 (-(rd x1_2 (ji11)))) = 0 then (chalklinelaw16_forced.l2 k3 l0 x1_2 x5_2 (wrap64 (x8_3 + 1)) (rd (rd_L1 l0 x22_2) x28_3) true N_ x18_1 l0 (l0.length : Int) x22_2 (rd_L1 l0 x22_2) ((rd_L1 l0 x22_2).length : Int) (wrap64 (x28_3 + 1))) else (chalklinelaw16_forced.l2 k3 l0 x1_2 x5_2 x8_3 x9_3 true N_ x18_1 l0 (l0.length : Int) x22_2 (rd_L1 l0 x22_2) ((rd_L1 l0 x22_2).length : Int) (wrap64 (x28_3 + 1)))) else (if (wrap64 (-(rd x1_2 (ji11)))) = 0 then (chalklinelaw16_forced.l2 k3 l0 x1_2 x5_2 (wrap64 (x8_3 + 1)) (rd (rd_L1 l0 x22_2) x28_3) ((wrap64 (-(rd x1_2 (ji11)))) == 1) N_ x18_1 l0 (l0.length : Int) x22_2 (rd_L1 l0 x22_2) ((rd_L1 l0 x22_2).length : Int) (wrap64 (x28_3 + 1))) else (chalklinelaw16_forced.l2 k3 l0 x1_2 x5_2 x8_3 x9_3 ((wrap64 (-(rd x1_2 (ji11)))) == 1) N_ x18_1 l0 (l0.length : Int) x22_2 (rd_L1 l0 x22_2) ((rd_L1 l0 x22_2).length : Int) (wrap64 (x28_3 + 1))))) else (if x10_3 = true then (if (rd x1_2 (ji11)) = 0 then (chalklinelaw16_forced.l2 k3 l0 x1_2 x5_2 (wrap64 (x8_3 + 1)) (rd (rd_L1 l0 x22_2) x28_3) true N_ x18_1 l0 (l0.length : Int) x22_2 (rd_L1 l0 x22_2) ((rd_L1 l0 x22_2).length : Int) (wrap64 (x28_3 + 1))) else (chalklinelaw16_forced.l2 k3 l0 x1_2 x5_2 x8_3 x9_3 true N_ x18_1 l0 (l0.length : Int) x22_2 (rd_L1 l0 x22_2) ((rd_L1 l0 x22_2).length : Int) (wrap64 (x28_3 + 1)))) else (if (rd x1_2 (ji11)) = 0 then (chalklinelaw16_forced.l2 k3 l0 x1_2 x5_2 (wrap64 (x8_3 + 1)) (rd (rd_L1 l0 x22_2) x28_3) ((rd x1_2 (ji11)) == 1) N_ x18_1 l0 (l0.length : Int) x22_2 (rd_L1 l0 x22_2) ((rd_L1 l0 x22_2).length : Int) (wrap64 (x28_3 + 1))) else (chalklinelaw16_forced.l2 k3 l0 x1_2 x5_2 x8_3 x9_3 ((rd x1_2 (ji11)) == 1) N_ x18_1 l0 (l0.length : Int) x22_2 (rd_L1 l0 x22_2) ((rd_L1 l0 x22_2).length : Int) (wrap64 (x28_3 + 1)))))) else (none)) else (none))) = some (r1, r2) := by first | (rw [hji11] at H; exact H) | (simp only [hji11] at H ⊢; exact H)
                            have hji11_ : (if (rd (rd_L1 l0 x22_2) x28_3) < (wrap64 (-(rd (rd_L1 l0 x22_2) x28_3))) then (wrap64 (-(rd (rd_L1 l0 x22_2) x28_3))) else (rd (rd_L1 l0 x22_2) x28_3)) = ji11 := hji11
                            by_cases c12 : (ji11) ≥ (x1_2.length : Int)
                            · rw [if_pos c12] at H
                              have c12b0 : decide ((x1_2.length : Int) ≤ (ji11)) = true := decide_eq_true c12
                              clear c12
                              simp only [Option.some.injEq, Prod.mk.injEq] at H
                              obtain ⟨rfl, rfl⟩ := H
                              have p102 : 0 ≤ (x28_3 : Int) := of_decide_eq_true (by first | (with_reducible assumption) | assumption)
                              have q102 : x28_3 < ((rd_L1 l0 x22_2).length : Int) := of_decide_eq_true (by first | (with_reducible assumption) | assumption)
                              obtain ⟨ad102, e102, hx102_0⟩ := Kd.at_int HR101_0.out x28_3 p102 q102
                              cases e102
                              replace p102 := eq_true p102
                              replace q102 := eq_true q102
                              go_wp2
                              go_ret
                              exact ⟨by first | rfl | (simp [errW_none, errW_some] <;> rfl) | (simp only [← hji11]; first | rfl | (simp [errW_none, errW_some] <;> rfl)) | (simp [*, errW_none, errW_some] <;> rfl), (by first | exact (by (with_reducible repeat (first | apply Kd.R_alloc | apply Kd.R_drewN | apply Kd.R_drew)); exact HO_1.out) | (simp only [hl1_1, hl1_2]; exact (by (with_reducible repeat (first | apply Kd.R_alloc | apply Kd.R_drewN | apply Kd.R_drew)); exact HO_1.out))), by repeat (first | (with_reducible first | exact HB.out | apply below_alloc | apply pw_below_drewN | apply below_drew1) | exact HB.out), by repeat (first | (with_reducible first | exact HK.out | apply Kept.alloc | apply Kept.drewN | apply Kept.drew) | exact HK.out)⟩
                            · rw [if_neg c12] at H
                              have c12b0 : decide ((x1_2.length : Int) ≤ (ji11)) = false := decide_eq_false c12
                              clear c12
                              by_cases c13 : 0 ≤ (ji11)
                              · rw [if_pos c13] at H
                                have c13b0 : decide (0 ≤ (ji11)) = true := decide_eq_true c13
                                clear c13
                                by_cases c14 : (ji11) < (x1_2.length : Int)
                                · rw [if_pos c14] at H
                                  have c14b0 : decide ((ji11) < (x1_2.length : Int)) = true := decide_eq_true c14
                                  clear c14
                                  by_cases c15 : (rd (rd_L1 l0 x22_2) x28_3) < 0
                                  · rw [if_pos c15] at H
                                    have c15b0 : decide ((rd (rd_L1 l0 x22_2) x28_3) < 0) = true := decide_eq_true c15
                                    clear c15
                                    by_cases c16 : x10_3 = true
                                    · subst c16
                                      have H1 : (if (wrap64 (-(rd x1_2 (ji11)))) = 0 then (chalklinelaw16_forced.l2 k3 l0 x1_2 x5_2 (wrap64 (x8_3 + 1)) (rd (rd_L1 l0 x22_2) x28_3) true N_ x18_1 l0 (l0.length : Int) x22_2 (rd_L1 l0 x22_2) ((rd_L1 l0 x22_2).length : Int) (wrap64 (x28_3 + 1))) else (chalklinelaw16_forced.l2 k3 l0 x1_2 x5_2 x8_3 x9_3 true N_ x18_1 l0 (l0.length : Int) x22_2 (rd_L1 l0 x22_2) ((rd_L1 l0 x22_2).length : Int) (wrap64 (x28_3 + 1)))) = some (r1, r2) := by rw [if_pos rfl] at H; exact H
                                      clear H
                                      have H := H1
                                      clear H1
                                      by_cases c17 : (wrap64 (-(rd x1_2 (ji11)))) = 0
                                      · rw [if_pos c17] at H
                                        have c17b0 : ((wrap64 (-(rd x1_2 (ji11)))) == 0) = true := beq_iff_eq.mpr c17
                                        have c17b1 : ((wrap64 (-(rd x1_2 (ji11)))) != 0) = false := bne_eq_false_iff_eq.mpr c17
                                        clear c17
                                        have H' := Aside0.mk H
                                        clear H
                                        have p102 : 0 ≤ (x28_3 : Int) := of_decide_eq_true (by first | (with_reducible assumption) | assumption)
                                        have q102 : x28_3 < ((rd_L1 l0 x22_2).length : Int) := of_decide_eq_true (by first | (with_reducible assumption) | assumption)
                                        obtain ⟨ad102, e102, hx102_0⟩ := Kd.at_int HR101_0.out x28_3 p102 q102
                                        cases e102
                                        replace p102 := eq_true p102
                                        replace q102 := eq_true q102
                                        have p103 : 0 ≤ ((ji11) : Int) := of_decide_eq_true (by first | (with_reducible assumption) | assumption)
                                        have q103 : (ji11) < (x1_2.length : Int) := of_decide_eq_true (by first | (with_reducible assumption) | assumption)
                                        obtain ⟨ad103, e103, hx103_0⟩ := Kd.at_int (Kd.R_reads' HO_1.out).2.2 (ji11) p103 q103
                                        cases e103
                                        replace p103 := eq_true p103
                                        replace q103 := eq_true q103
                                        go_wp2
                                        go_roundg k3
                                        case measure => have := HK1.out; have := HK2.out; have := HK3.out; omega
                                        case rel => exact ⟨(wrap64 (x8_3 + 1)), (rd (rd_L1 l0 x22_2) x28_3), (true), (wrap64 (x28_3 + 1)), (by first | rfl | (simp; done) | (simp [*]; done)), (by first | rfl | (simp; done) | (simp [*]; done)), (by first | rfl | (simp; done) | (simp [*]; done)), (by first | rfl | (simp; done) | (simp [*]; done)), H', ⟨by have := HK1.out; have := HK2.out; have := HK3.out; omega⟩, ⟨by (try simp only [hl1_1]); (try simp only [hl1_2]); (with_reducible repeat (first | apply Kd.R_alloc | apply Kd.R_drewN | apply Kd.R_drew)); exact HO_1.out⟩, ⟨by repeat (first | (with_reducible exact HR101_0.out) | (with_reducible refine Kd.C_alloc ?_ _) | (with_reducible refine Kd.C_drewN ?_ _) | (with_reducible refine Kd.C_drew ?_) | exact HR101_0.out)⟩, ⟨by repeat (first | (with_reducible first | exact HK.out | apply Kept.alloc | apply Kept.drewN | apply Kept.drew) | exact HK.out)⟩, ⟨by repeat (first | (with_reducible first | exact HB.out | apply below_alloc | apply pw_below_drewN | apply below_drew1) | exact HB.out)⟩⟩
                                      · rw [if_neg c17] at H
                                        have c17b0 : ((wrap64 (-(rd x1_2 (ji11)))) == 0) = false := beq_eq_false_iff_ne.mpr c17
                                        have c17b1 : ((wrap64 (-(rd x1_2 (ji11)))) != 0) = true := bne_iff_ne.mpr c17
                                        have H' := Aside0.mk H
                                        clear H
                                        have p102 : 0 ≤ (x28_3 : Int) := of_decide_eq_true (by first | (with_reducible assumption) | assumption)
                                        have q102 : x28_3 < ((rd_L1 l0 x22_2).length : Int) := of_decide_eq_true (by first | (with_reducible assumption) | assumption)
                                        obtain ⟨ad102, e102, hx102_0⟩ := Kd.at_int HR101_0.out x28_3 p102 q102
                                        cases e102
                                        replace p102 := eq_true p102
                                        replace q102 := eq_true q102
                                        have p103 : 0 ≤ ((ji11) : Int) := of_decide_eq_true (by first | (with_reducible assumption) | assumption)
                                        have q103 : (ji11) < (x1_2.length : Int) := of_decide_eq_true (by first | (with_reducible assumption) | assumption)
                                        obtain ⟨ad103, e103, hx103_0⟩ := Kd.at_int (Kd.R_reads' HO_1.out).2.2 (ji11) p103 q103
                                        cases e103
                                        replace p103 := eq_true p103
                                        replace q103 := eq_true q103
                                        go_wp2
                                        go_roundg k3
                                        case measure => have := HK1.out; have := HK2.out; have := HK3.out; omega
                                        case rel => exact ⟨(x8_3), (x9_3), (true), (wrap64 (x28_3 + 1)), (by first | rfl | (simp; done) | (simp [*]; done)), (by first | rfl | (simp; done) | (simp [*]; done)), (by first | rfl | (simp; done) | (simp [*]; done)), (by first | rfl | (simp; done) | (simp [*]; done)), H', ⟨by have := HK1.out; have := HK2.out; have := HK3.out; omega⟩, ⟨by (try simp only [hl1_1]); (try simp only [hl1_2]); (with_reducible repeat (first | apply Kd.R_alloc | apply Kd.R_drewN | apply Kd.R_drew)); exact HO_1.out⟩, ⟨by repeat (first | (with_reducible exact HR101_0.out) | (with_reducible refine Kd.C_alloc ?_ _) | (with_reducible refine Kd.C_drewN ?_ _) | (with_reducible refine Kd.C_drew ?_) | exact HR101_0.out)⟩, ⟨by repeat (first | (with_reducible first | exact HK.out | apply Kept.alloc | apply Kept.drewN | apply Kept.drew) | exact HK.out)⟩, ⟨by repeat (first | (with_reducible first | exact HB.out | apply below_alloc | apply pw_below_drewN | apply below_drew1) | exact HB.out)⟩⟩
                                    · replace c16 := Bool.eq_false_iff.mpr c16
                                      subst c16
                                      have H1 : (if (wrap64 (-(rd x1_2 (ji11)))) = 0 then (chalklinelaw16_forced.l2 k3 l0 x1_2 x5_2 (wrap64 (x8_3 + 1)) (rd (rd_L1 l0 x22_2) x28_3) ((wrap64 (-(rd x1_2 (ji11)))) == 1) N_ x18_1 l0 (l0.length : Int) x22_2 (rd_L1 l0 x22_2) ((rd_L1 l0 x22_2).length : Int) (wrap64 (x28_3 + 1))) else (chalklinelaw16_forced.l2 k3 l0 x1_2 x5_2 x8_3 x9_3 ((wrap64 (-(rd x1_2 (ji11)))) == 1) N_ x18_1 l0 (l0.length : Int) x22_2 (rd_L1 l0 x22_2) ((rd_L1 l0 x22_2).length : Int) (wrap64 (x28_3 + 1)))) = some (r1, r2) := by rw [if_neg (show ¬ (false = true) by decide)] at H; exact H
                                      clear H
                                      have H := H1
                                      clear H1
                                      by_cases c18 : (wrap64 (-(rd x1_2 (ji11)))) = 0
                                      · rw [if_pos c18] at H
                                        have c18b0 : ((wrap64 (-(rd x1_2 (ji11)))) == 0) = true := beq_iff_eq.mpr c18
                                        have c18b1 : ((wrap64 (-(rd x1_2 (ji11)))) != 0) = false := bne_eq_false_iff_eq.mpr c18
                                        clear c18
                                        have H' := Aside0.mk H
                                        clear H
                                        have p102 : 0 ≤ (x28_3 : Int) := of_decide_eq_true (by first | (with_reducible assumption) | assumption)
                                        have q102 : x28_3 < ((rd_L1 l0 x22_2).length : Int) := of_decide_eq_true (by first | (with_reducible assumption) | assumption)
                                        obtain ⟨ad102, e102, hx102_0⟩ := Kd.at_int HR101_0.out x28_3 p102 q102
                                        cases e102
                                        replace p102 := eq_true p102
                                        replace q102 := eq_true q102
                                        have p103 : 0 ≤ ((ji11) : Int) := of_decide_eq_true (by first | (with_reducible assumption) | assumption)
                                        have q103 : (ji11) < (x1_2.length : Int) := of_decide_eq_true (by first | (with_reducible assumption) | assumption)
                                        obtain ⟨ad103, e103, hx103_0⟩ := Kd.at_int (Kd.R_reads' HO_1.out).2.2 (ji11) p103 q103
                                        cases e103
                                        replace p103 := eq_true p103
                                        replace q103 := eq_true q103
                                        go_wp2
                                        go_roundg k3
                                        case measure => have := HK1.out; have := HK2.out; have := HK3.out; omega
                                        case rel => exact ⟨(wrap64 (x8_3 + 1)), (rd (rd_L1 l0 x22_2) x28_3), (((wrap64 (-(rd x1_2 (ji11)))) == 1)), (wrap64 (x28_3 + 1)), (by first | rfl | (simp; done) | (simp [*]; done)), (by first | rfl | (simp; done) | (simp [*]; done)), (by first | rfl | (simp; done) | (simp only [← hji11] <;> (first | rfl | simp)) | (simp [*]; done)), (by first | rfl | (simp; done) | (simp [*]; done)), H', ⟨by have := HK1.out; have := HK2.out; have := HK3.out; omega⟩, ⟨by (try simp only [hl1_1]); (try simp only [hl1_2]); (with_reducible repeat (first | apply Kd.R_alloc | apply Kd.R_drewN | apply Kd.R_drew)); exact HO_1.out⟩, ⟨by repeat (first | (with_reducible exact HR101_0.out) | (with_reducible refine Kd.C_alloc ?_ _) | (with_reducible refine Kd.C_drewN ?_ _) | (with_reducible refine Kd.C_drew ?_) | exact HR101_0.out)⟩, ⟨by repeat (first | (with_reducible first | exact HK.out | apply Kept.alloc | apply Kept.drewN | apply Kept.drew) | exact HK.out)⟩, ⟨by repeat (first | (with_reducible first | exact HB.out | apply below_alloc | apply pw_below_drewN | apply below_drew1) | exact HB.out)⟩⟩
                                      · rw [if_neg c18] at H
                                        have c18b0 : ((wrap64 (-(rd x1_2 (ji11)))) == 0) = false := beq_eq_false_iff_ne.mpr c18
                                        have c18b1 : ((wrap64 (-(rd x1_2 (ji11)))) != 0) = true := bne_iff_ne.mpr c18
                                        have H' := Aside0.mk H
                                        clear H
                                        have p102 : 0 ≤ (x28_3 : Int) := of_decide_eq_true (by first | (with_reducible assumption) | assumption)
                                        have q102 : x28_3 < ((rd_L1 l0 x22_2).length : Int) := of_decide_eq_true (by first | (with_reducible assumption) | assumption)
                                        obtain ⟨ad102, e102, hx102_0⟩ := Kd.at_int HR101_0.out x28_3 p102 q102
                                        cases e102
                                        replace p102 := eq_true p102
                                        replace q102 := eq_true q102
                                        have p103 : 0 ≤ ((ji11) : Int) := of_decide_eq_true (by first | (with_reducible assumption) | assumption)
                                        have q103 : (ji11) < (x1_2.length : Int) := of_decide_eq_true (by first | (with_reducible assumption) | assumption)
                                        obtain ⟨ad103, e103, hx103_0⟩ := Kd.at_int (Kd.R_reads' HO_1.out).2.2 (ji11) p103 q103
                                        cases e103
                                        replace p103 := eq_true p103
                                        replace q103 := eq_true q103
                                        go_wp2
                                        go_roundg k3
                                        case measure => have := HK1.out; have := HK2.out; have := HK3.out; omega
                                        case rel => exact ⟨(x8_3), (x9_3), (((wrap64 (-(rd x1_2 (ji11)))) == 1)), (wrap64 (x28_3 + 1)), (by first | rfl | (simp; done) | (simp [*]; done)), (by first | rfl | (simp; done) | (simp [*]; done)), (by first | rfl | (simp; done) | (simp only [← hji11] <;> (first | rfl | simp)) | (simp [*]; done)), (by first | rfl | (simp; done) | (simp [*]; done)), H', ⟨by have := HK1.out; have := HK2.out; have := HK3.out; omega⟩, ⟨by (try simp only [hl1_1]); (try simp only [hl1_2]); (with_reducible repeat (first | apply Kd.R_alloc | apply Kd.R_drewN | apply Kd.R_drew)); exact HO_1.out⟩, ⟨by repeat (first | (with_reducible exact HR101_0.out) | (with_reducible refine Kd.C_alloc ?_ _) | (with_reducible refine Kd.C_drewN ?_ _) | (with_reducible refine Kd.C_drew ?_) | exact HR101_0.out)⟩, ⟨by repeat (first | (with_reducible first | exact HK.out | apply Kept.alloc | apply Kept.drewN | apply Kept.drew) | exact HK.out)⟩, ⟨by repeat (first | (with_reducible first | exact HB.out | apply below_alloc | apply pw_below_drewN | apply below_drew1) | exact HB.out)⟩⟩
                                  · rw [if_neg c15] at H
                                    have c15b0 : decide ((rd (rd_L1 l0 x22_2) x28_3) < 0) = false := decide_eq_false c15
                                    clear c15
                                    by_cases c19 : x10_3 = true
                                    · subst c19
                                      have H1 : (if (rd x1_2 (ji11)) = 0 then (chalklinelaw16_forced.l2 k3 l0 x1_2 x5_2 (wrap64 (x8_3 + 1)) (rd (rd_L1 l0 x22_2) x28_3) true N_ x18_1 l0 (l0.length : Int) x22_2 (rd_L1 l0 x22_2) ((rd_L1 l0 x22_2).length : Int) (wrap64 (x28_3 + 1))) else (chalklinelaw16_forced.l2 k3 l0 x1_2 x5_2 x8_3 x9_3 true N_ x18_1 l0 (l0.length : Int) x22_2 (rd_L1 l0 x22_2) ((rd_L1 l0 x22_2).length : Int) (wrap64 (x28_3 + 1)))) = some (r1, r2) := by rw [if_pos rfl] at H; exact H
                                      clear H
                                      have H := H1
                                      clear H1
                                      by_cases c20 : (rd x1_2 (ji11)) = 0
                                      · rw [if_pos c20] at H
                                        have c20b0 : ((rd x1_2 (ji11)) == 0) = true := beq_iff_eq.mpr c20
                                        have c20b1 : ((rd x1_2 (ji11)) != 0) = false := bne_eq_false_iff_eq.mpr c20
                                        clear c20
                                        have H' := Aside0.mk H
                                        clear H
                                        have p102 : 0 ≤ (x28_3 : Int) := of_decide_eq_true (by first | (with_reducible assumption) | assumption)
                                        have q102 : x28_3 < ((rd_L1 l0 x22_2).length : Int) := of_decide_eq_true (by first | (with_reducible assumption) | assumption)
                                        obtain ⟨ad102, e102, hx102_0⟩ := Kd.at_int HR101_0.out x28_3 p102 q102
                                        cases e102
                                        replace p102 := eq_true p102
                                        replace q102 := eq_true q102
                                        have p103 : 0 ≤ ((ji11) : Int) := of_decide_eq_true (by first | (with_reducible assumption) | assumption)
                                        have q103 : (ji11) < (x1_2.length : Int) := of_decide_eq_true (by first | (with_reducible assumption) | assumption)
                                        obtain ⟨ad103, e103, hx103_0⟩ := Kd.at_int (Kd.R_reads' HO_1.out).2.2 (ji11) p103 q103
                                        cases e103
                                        replace p103 := eq_true p103
                                        replace q103 := eq_true q103
                                        go_wp2
                                        go_roundg k3
                                        case measure => have := HK1.out; have := HK2.out; have := HK3.out; omega
                                        case rel => exact ⟨(wrap64 (x8_3 + 1)), (rd (rd_L1 l0 x22_2) x28_3), (true), (wrap64 (x28_3 + 1)), (by first | rfl | (simp; done) | (simp [*]; done)), (by first | rfl | (simp; done) | (simp [*]; done)), (by first | rfl | (simp; done) | (simp [*]; done)), (by first | rfl | (simp; done) | (simp [*]; done)), H', ⟨by have := HK1.out; have := HK2.out; have := HK3.out; omega⟩, ⟨by (try simp only [hl1_1]); (try simp only [hl1_2]); (with_reducible repeat (first | apply Kd.R_alloc | apply Kd.R_drewN | apply Kd.R_drew)); exact HO_1.out⟩, ⟨by repeat (first | (with_reducible exact HR101_0.out) | (with_reducible refine Kd.C_alloc ?_ _) | (with_reducible refine Kd.C_drewN ?_ _) | (with_reducible refine Kd.C_drew ?_) | exact HR101_0.out)⟩, ⟨by repeat (first | (with_reducible first | exact HK.out | apply Kept.alloc | apply Kept.drewN | apply Kept.drew) | exact HK.out)⟩, ⟨by repeat (first | (with_reducible first | exact HB.out | apply below_alloc | apply pw_below_drewN | apply below_drew1) | exact HB.out)⟩⟩
                                      · rw [if_neg c20] at H
                                        have c20b0 : ((rd x1_2 (ji11)) == 0) = false := beq_eq_false_iff_ne.mpr c20
                                        have c20b1 : ((rd x1_2 (ji11)) != 0) = true := bne_iff_ne.mpr c20
                                        have H' := Aside0.mk H
                                        clear H
                                        have p102 : 0 ≤ (x28_3 : Int) := of_decide_eq_true (by first | (with_reducible assumption) | assumption)
                                        have q102 : x28_3 < ((rd_L1 l0 x22_2).length : Int) := of_decide_eq_true (by first | (with_reducible assumption) | assumption)
                                        obtain ⟨ad102, e102, hx102_0⟩ := Kd.at_int HR101_0.out x28_3 p102 q102
                                        cases e102
                                        replace p102 := eq_true p102
                                        replace q102 := eq_true q102
                                        have p103 : 0 ≤ ((ji11) : Int) := of_decide_eq_true (by first | (with_reducible assumption) | assumption)
                                        have q103 : (ji11) < (x1_2.length : Int) := of_decide_eq_true (by first | (with_reducible assumption) | assumption)
                                        obtain ⟨ad103, e103, hx103_0⟩ := Kd.at_int (Kd.R_reads' HO_1.out).2.2 (ji11) p103 q103
                                        cases e103
                                        replace p103 := eq_true p103
                                        replace q103 := eq_true q103
                                        go_wp2
                                        go_roundg k3
                                        case measure => have := HK1.out; have := HK2.out; have := HK3.out; omega
                                        case rel => exact ⟨(x8_3), (x9_3), (true), (wrap64 (x28_3 + 1)), (by first | rfl | (simp; done) | (simp [*]; done)), (by first | rfl | (simp; done) | (simp [*]; done)), (by first | rfl | (simp; done) | (simp [*]; done)), (by first | rfl | (simp; done) | (simp [*]; done)), H', ⟨by have := HK1.out; have := HK2.out; have := HK3.out; omega⟩, ⟨by (try simp only [hl1_1]); (try simp only [hl1_2]); (with_reducible repeat (first | apply Kd.R_alloc | apply Kd.R_drewN | apply Kd.R_drew)); exact HO_1.out⟩, ⟨by repeat (first | (with_reducible exact HR101_0.out) | (with_reducible refine Kd.C_alloc ?_ _) | (with_reducible refine Kd.C_drewN ?_ _) | (with_reducible refine Kd.C_drew ?_) | exact HR101_0.out)⟩, ⟨by repeat (first | (with_reducible first | exact HK.out | apply Kept.alloc | apply Kept.drewN | apply Kept.drew) | exact HK.out)⟩, ⟨by repeat (first | (with_reducible first | exact HB.out | apply below_alloc | apply pw_below_drewN | apply below_drew1) | exact HB.out)⟩⟩
                                    · replace c19 := Bool.eq_false_iff.mpr c19
                                      subst c19
                                      have H1 : (if (rd x1_2 (ji11)) = 0 then (chalklinelaw16_forced.l2 k3 l0 x1_2 x5_2 (wrap64 (x8_3 + 1)) (rd (rd_L1 l0 x22_2) x28_3) ((rd x1_2 (ji11)) == 1) N_ x18_1 l0 (l0.length : Int) x22_2 (rd_L1 l0 x22_2) ((rd_L1 l0 x22_2).length : Int) (wrap64 (x28_3 + 1))) else (chalklinelaw16_forced.l2 k3 l0 x1_2 x5_2 x8_3 x9_3 ((rd x1_2 (ji11)) == 1) N_ x18_1 l0 (l0.length : Int) x22_2 (rd_L1 l0 x22_2) ((rd_L1 l0 x22_2).length : Int) (wrap64 (x28_3 + 1)))) = some (r1, r2) := by rw [if_neg (show ¬ (false = true) by decide)] at H; exact H
                                      clear H
                                      have H := H1
                                      clear H1
                                      by_cases c21 : (rd x1_2 (ji11)) = 0
                                      · rw [if_pos c21] at H
                                        have c21b0 : ((rd x1_2 (ji11)) == 0) = true := beq_iff_eq.mpr c21
                                        have c21b1 : ((rd x1_2 (ji11)) != 0) = false := bne_eq_false_iff_eq.mpr c21
                                        clear c21
                                        have H' := Aside0.mk H
                                        clear H
                                        have p102 : 0 ≤ (x28_3 : Int) := of_decide_eq_true (by first | (with_reducible assumption) | assumption)
                                        have q102 : x28_3 < ((rd_L1 l0 x22_2).length : Int) := of_decide_eq_true (by first | (with_reducible assumption) | assumption)
                                        obtain ⟨ad102, e102, hx102_0⟩ := Kd.at_int HR101_0.out x28_3 p102 q102
                                        cases e102
                                        replace p102 := eq_true p102
                                        replace q102 := eq_true q102
                                        have p103 : 0 ≤ ((ji11) : Int) := of_decide_eq_true (by first | (with_reducible assumption) | assumption)
                                        have q103 : (ji11) < (x1_2.length : Int) := of_decide_eq_true (by first | (with_reducible assumption) | assumption)
                                        obtain ⟨ad103, e103, hx103_0⟩ := Kd.at_int (Kd.R_reads' HO_1.out).2.2 (ji11) p103 q103
                                        cases e103
                                        replace p103 := eq_true p103
                                        replace q103 := eq_true q103
                                        go_wp2
                                        go_roundg k3
                                        case measure => have := HK1.out; have := HK2.out; have := HK3.out; omega
                                        case rel => exact ⟨(wrap64 (x8_3 + 1)), (rd (rd_L1 l0 x22_2) x28_3), (((rd x1_2 (ji11)) == 1)), (wrap64 (x28_3 + 1)), (by first | rfl | (simp; done) | (simp [*]; done)), (by first | rfl | (simp; done) | (simp [*]; done)), (by first | rfl | (simp; done) | (simp only [← hji11] <;> (first | rfl | simp)) | (simp [*]; done)), (by first | rfl | (simp; done) | (simp [*]; done)), H', ⟨by have := HK1.out; have := HK2.out; have := HK3.out; omega⟩, ⟨by (try simp only [hl1_1]); (try simp only [hl1_2]); (with_reducible repeat (first | apply Kd.R_alloc | apply Kd.R_drewN | apply Kd.R_drew)); exact HO_1.out⟩, ⟨by repeat (first | (with_reducible exact HR101_0.out) | (with_reducible refine Kd.C_alloc ?_ _) | (with_reducible refine Kd.C_drewN ?_ _) | (with_reducible refine Kd.C_drew ?_) | exact HR101_0.out)⟩, ⟨by repeat (first | (with_reducible first | exact HK.out | apply Kept.alloc | apply Kept.drewN | apply Kept.drew) | exact HK.out)⟩, ⟨by repeat (first | (with_reducible first | exact HB.out | apply below_alloc | apply pw_below_drewN | apply below_drew1) | exact HB.out)⟩⟩
                                      · rw [if_neg c21] at H
                                        have c21b0 : ((rd x1_2 (ji11)) == 0) = false := beq_eq_false_iff_ne.mpr c21
                                        have c21b1 : ((rd x1_2 (ji11)) != 0) = true := bne_iff_ne.mpr c21
                                        have H' := Aside0.mk H
                                        clear H
                                        have p102 : 0 ≤ (x28_3 : Int) := of_decide_eq_true (by first | (with_reducible assumption) | assumption)
                                        have q102 : x28_3 < ((rd_L1 l0 x22_2).length : Int) := of_decide_eq_true (by first | (with_reducible assumption) | assumption)
                                        obtain ⟨ad102, e102, hx102_0⟩ := Kd.at_int HR101_0.out x28_3 p102 q102
                                        cases e102
                                        replace p102 := eq_true p102
                                        replace q102 := eq_true q102
                                        have p103 : 0 ≤ ((ji11) : Int) := of_decide_eq_true (by first | (with_reducible assumption) | assumption)
                                        have q103 : (ji11) < (x1_2.length : Int) := of_decide_eq_true (by first | (with_reducible assumption) | assumption)
                                        obtain ⟨ad103, e103, hx103_0⟩ := Kd.at_int (Kd.R_reads' HO_1.out).2.2 (ji11) p103 q103
                                        cases e103
                                        replace p103 := eq_true p103
                                        replace q103 := eq_true q103
                                        go_wp2
                                        go_roundg k3
                                        case measure => have := HK1.out; have := HK2.out; have := HK3.out; omega
                                        case rel => exact ⟨(x8_3), (x9_3), (((rd x1_2 (ji11)) == 1)), (wrap64 (x28_3 + 1)), (by first | rfl | (simp; done) | (simp [*]; done)), (by first | rfl | (simp; done) | (simp [*]; done)), (by first | rfl | (simp; done) | (simp only [← hji11] <;> (first | rfl | simp)) | (simp [*]; done)), (by first | rfl | (simp; done) | (simp [*]; done)), H', ⟨by have := HK1.out; have := HK2.out; have := HK3.out; omega⟩, ⟨by (try simp only [hl1_1]); (try simp only [hl1_2]); (with_reducible repeat (first | apply Kd.R_alloc | apply Kd.R_drewN | apply Kd.R_drew)); exact HO_1.out⟩, ⟨by repeat (first | (with_reducible exact HR101_0.out) | (with_reducible refine Kd.C_alloc ?_ _) | (with_reducible refine Kd.C_drewN ?_ _) | (with_reducible refine Kd.C_drew ?_) | exact HR101_0.out)⟩, ⟨by repeat (first | (with_reducible first | exact HK.out | apply Kept.alloc | apply Kept.drewN | apply Kept.drew) | exact HK.out)⟩, ⟨by repeat (first | (with_reducible first | exact HB.out | apply below_alloc | apply pw_below_drewN | apply below_drew1) | exact HB.out)⟩⟩
                                · rw [if_neg c14] at H
                                  exact absurd H (by simp)
                              · rw [if_neg c13] at H
                                exact absurd H (by simp)
                          · rw [if_neg c10] at H
                            exact absurd H (by simp)
                        · rw [if_neg c9] at H
                          exact absurd H (by simp)
                      · rw [if_neg c8] at H
                        have c8b0 : decide (x28_3 < ((rd_L1 l0 x22_2).length : Int)) = false := decide_eq_false c8
                        clear c8
                        by_cases c22 : x10_3 = true
                        · subst c22
                          have H1 : (chalklinelaw16_forced.l1 k3 l0 x1_2 x5_2 N_ x18_1 l0 (l0.length : Int) (wrap64 (x22_2 + 1))) = some (r1, r2) := by rw [if_pos rfl] at H; exact H
                          clear H
                          have H := H1
                          clear H1
                          have H' := Aside0.mk H
                          clear H
                          go_wp2
                          (try simp only [← hl1_2])
                          go_roundg k3
                          case measure => have := HK1.out; have := HK2.out; have := HK3.out; omega
                          case rel => exact ⟨(x1_2), (x5_2), (wrap64 (x22_2 + 1)), (by first | rfl | (simp; done) | (simp [*]; done)), (by first | rfl | (simp; done) | (simp [*]; done)), H', ⟨by have := HK1.out; have := HK2.out; have := HK3.out; omega⟩, ⟨by (try simp only [hl1_1]); (try simp only [hl1_2]); (with_reducible repeat (first | apply Kd.R_alloc | apply Kd.R_drewN | apply Kd.R_drew)); exact HO_1.out⟩, ⟨by repeat (first | (with_reducible first | exact HK.out | apply Kept.alloc | apply Kept.drewN | apply Kept.drew) | exact HK.out)⟩, ⟨by repeat (first | (with_reducible first | exact HB.out | apply below_alloc | apply pw_below_drewN | apply below_drew1) | exact HB.out)⟩⟩
                        · replace c22 := Bool.eq_false_iff.mpr c22
                          subst c22
                          have H1 : (if x8_3 = 0 then (some (true, x1_2)) else (if x8_3 = 1 then (if x9_3 > 0 then (if 0 ≤ x9_3 then (if x9_3 < (x1_2.length : Int) then (chalklinelaw16_forced.l1 k3 l0 (x1_2.set (x9_3 : Int).toNat 1) true N_ x18_1 l0 (l0.length : Int) (wrap64 (x22_2 + 1))) else (none)) else (none)) else (if 0 ≤ (wrap64 (-x9_3)) then (if (wrap64 (-x9_3)) < (x1_2.length : Int) then (chalklinelaw16_forced.l1 k3 l0 (x1_2.set ((wrap64 (-x9_3)) : Int).toNat (-1)) true N_ x18_1 l0 (l0.length : Int) (wrap64 (x22_2 + 1))) else (none)) else (none))) else (chalklinelaw16_forced.l1 k3 l0 x1_2 x5_2 N_ x18_1 l0 (l0.length : Int) (wrap64 (x22_2 + 1))))) = some (r1, r2) := by rw [if_neg (show ¬ (false = true) by decide)] at H; exact H
                          clear H
                          have H := H1
                          clear H1
                          by_cases c23 : x8_3 = 0
                          · rw [if_pos c23] at H
                            have c23b0 : (x8_3 == 0) = true := beq_iff_eq.mpr c23
                            have c23b1 : (x8_3 != 0) = false := bne_eq_false_iff_eq.mpr c23
                            clear c23
                            simp only [Option.some.injEq, Prod.mk.injEq] at H
                            obtain ⟨rfl, rfl⟩ := H
                            go_wp2
                            go_ret
                            exact ⟨by first | rfl | (simp [errW_none, errW_some] <;> rfl) | (simp [*, errW_none, errW_some] <;> rfl), (by first | exact (by (with_reducible repeat (first | apply Kd.R_alloc | apply Kd.R_drewN | apply Kd.R_drew)); exact HO_1.out) | (simp only [hl1_1, hl1_2]; exact (by (with_reducible repeat (first | apply Kd.R_alloc | apply Kd.R_drewN | apply Kd.R_drew)); exact HO_1.out))), by repeat (first | (with_reducible first | exact HB.out | apply below_alloc | apply pw_below_drewN | apply below_drew1) | exact HB.out), by repeat (first | (with_reducible first | exact HK.out | apply Kept.alloc | apply Kept.drewN | apply Kept.drew) | exact HK.out)⟩
                          · rw [if_neg c23] at H
                            have c23b0 : (x8_3 == 0) = false := beq_eq_false_iff_ne.mpr c23
                            have c23b1 : (x8_3 != 0) = true := bne_iff_ne.mpr c23
                            by_cases c24 : x8_3 = 1
                            · rw [if_pos c24] at H
                              have c24b0 : (x8_3 == 1) = true := beq_iff_eq.mpr c24
                              have c24b1 : (x8_3 != 1) = false := bne_eq_false_iff_eq.mpr c24
                              clear c24
                              by_cases c25 : x9_3 > 0
                              · rw [if_pos c25] at H
                                have c25b0 : decide (0 < x9_3) = true := decide_eq_true c25
                                clear c25
                                by_cases c26 : 0 ≤ x9_3
                                · rw [if_pos c26] at H
                                  have c26b0 : decide (0 ≤ x9_3) = true := decide_eq_true c26
                                  clear c26
                                  by_cases c27 : x9_3 < (x1_2.length : Int)
                                  · rw [if_pos c27] at H
                                    have c27b0 : decide (x9_3 < (x1_2.length : Int)) = true := decide_eq_true c27
                                    clear c27
                                    obtain ⟨y104, hy104⟩ : ∃ y_ : List Int, y_ = (x1_2.set (x9_3 : Int).toNat 1) := ⟨_, rfl⟩
                                    replace H : (chalklinelaw16_forced.l1 k3 l0 y104 true N_ x18_1 l0 (l0.length : Int) (wrap64 (x22_2 + 1))) = some (r1, r2) := by first | (rw [hy104]; with_reducible exact H) | (have H2_ := (Option.bind_some _ _).symm.trans H; rw [hy104]; with_reducible exact H2_) | (have H2_ := (Option.bind_some _ _).symm.trans H; with_reducible exact H2_) | with_reducible exact H | (rw [hy104]; exact H) | exact H
                                    have Ny104 := Aside0.mk hy104
                                    clear hy104
                                    have H' := Aside0.mk H
                                    clear H
                                    have p28 : 0 ≤ (x9_3 : Int) := of_decide_eq_true (by first | (with_reducible assumption) | assumption)
                                    have q28 : (x9_3 : Int) < ((x1_2.length : Int) : Int) := of_decide_eq_true (by first | (with_reducible assumption) | assumption)
                                    obtain ⟨go28, co28, eo28, gb28, gl28, cl28, HG28⟩ := Kd.R_form HO_1.out (by omega)
                                    (first | cases eo28 | (injection eo28 with ea_ en_ ec_; (first | subst ea_ | (injection ea_ with ea_; subst ea_)); subst ec_; clear en_))
                                    have GB28 := Aside0.mk gb28
                                    have GG28 := Aside0.mk HG28
                                    clear gb28 gl28 HG28
                                    have HMgo28 := Aside0.mk (show (P1_ go28 ∨ w.heap.size ≤ go28) from (HO_1.out.1 _ rfl))
                                    obtain ⟨hx28_0, hf28_0⟩ := Kd.R_celln 0 HO_1.out (x9_3 : Int) p28 q28
                                    replace p28 := eq_true p28
                                    replace q28 := eq_true q28
                                    have HP29 := Kd.R_putg HO_1.out (x9_3 : Int) 1
                                    go_wp2_with (first | ((with_reducible refine gate_store (t := 3) (p := 68) rfl ?_); refine store_event (t := 3) (p := 68) (v := ?vo_w30) (w1 := (wr.setCell ⟨go28, (x9_3 : Int).toNat, none⟩ (.int .i64 1))) ?hg ?ho ?hn ?hr ?_; (case ho => rfl); (case hg => rfl); (case hn => rfl); (case hr => first | (go_simp; done) | (go_simp; rfl)); intro w30 hw; have hg : wr.grownBy w30 (some go28) := (by rw [hw]; exact HP29.2); have hp_ : Kd.R (Kd.int .i64) 3 w30 w0.heap.size (fun k_ => (P1_ k_ ∨ w.heap.size ≤ k_)) (.slice (some ⟨go28, 0, none⟩) x1_2.length co3) y104 := (by rw [hw, Ny104.out]; exact HP29.1); clear HP29; have n0_ := Aside0.mk (hp_); have n1_ := Aside0.mk ((by rw [hw]; exact below_set (HB.out) GB28.out : Below w0.heap.size w0 w30)); have n2_ := Aside0.mk (Kept.of_grown (S := (fun k_ => P1_ k_)) hg (by repeat (first | (with_reducible first | exact HK.out | apply Kept.alloc | apply Kept.drewN | apply Kept.drew) | exact HK.out)) (fun k_ e_ => (HO_1.out.1 k_ e_))); clear HO_1; clear HB; clear HK; have HO_1 := n0_; have HB := n1_; have HK := n2_; clear n0_ n1_ n2_; clear hg hw hp_))
                                    (try simp only [← hl1_2])
                                    go_roundg k3
                                    case measure => have := HK1.out; have := HK2.out; have := HK3.out; omega
                                    case rel => exact ⟨(y104), (true), (wrap64 (x22_2 + 1)), (by first | rfl | (simp; done) | (simp [*]; done)), (by first | rfl | (simp; done) | (simp [*]; done)), H', ⟨by have := HK1.out; have := HK2.out; have := HK3.out; omega⟩, ⟨by (try simp only [hl1_1]); (try simp only [hl1_2]); (with_reducible repeat (first | apply Kd.R_alloc | apply Kd.R_drewN | apply Kd.R_drew)); exact HO_1.out⟩, ⟨by repeat (first | (with_reducible first | exact HK.out | apply Kept.alloc | apply Kept.drewN | apply Kept.drew) | exact HK.out)⟩, ⟨by repeat (first | (with_reducible first | exact HB.out | apply below_alloc | apply pw_below_drewN | apply below_drew1) | exact HB.out)⟩⟩
                                  · rw [if_neg c27] at H
                                    exact absurd H (by simp)
                                · rw [if_neg c26] at H
                                  exact absurd H (by simp)
                              · rw [if_neg c25] at H
                                have c25b0 : decide (0 < x9_3) = false := decide_eq_false c25
                                clear c25
                                obtain ⟨ji31, hji31⟩ : ∃ j_ : Int, (wrap64 (-x9_3)) = j_ := ⟨_, rfl⟩
                                replace H : (if 0 ≤ (ji31) then (if (ji31) < (x1_2.length : Int) then (chalklinelaw16_forced.l1 k3 l0 (x1_2.set ((ji31) : Int).toNat (-1)) true N_ x18_1 l0 (l0.length : Int) (wrap64 (x22_2 + 1))) else (none)) else (none)) = some (r1, r2) := by first | (rw [hji31] at H; exact H) | (simp only [hji31] at H ⊢; exact H)
                                have hji31w : (IntKind.i64.wrap (-x9_3)) = ji31 := (i64_w _).trans hji31
                                by_cases c32 : 0 ≤ (ji31)
                                · rw [if_pos c32] at H
                                  have c32b0 : decide (0 ≤ (ji31)) = true := decide_eq_true c32
                                  clear c32
                                  by_cases c33 : (ji31) < (x1_2.length : Int)
                                  · rw [if_pos c33] at H
                                    have c33b0 : decide ((ji31) < (x1_2.length : Int)) = true := decide_eq_true c33
                                    clear c33
                                    obtain ⟨y105, hy105⟩ : ∃ y_ : List Int, y_ = (x1_2.set ((ji31) : Int).toNat (-1)) := ⟨_, rfl⟩
                                    replace H : (chalklinelaw16_forced.l1 k3 l0 y105 true N_ x18_1 l0 (l0.length : Int) (wrap64 (x22_2 + 1))) = some (r1, r2) := by first | (rw [hy105]; with_reducible exact H) | (have H2_ := (Option.bind_some _ _).symm.trans H; rw [hy105]; with_reducible exact H2_) | (have H2_ := (Option.bind_some _ _).symm.trans H; with_reducible exact H2_) | with_reducible exact H | (rw [hy105]; exact H) | exact H
                                    have Ny105 := Aside0.mk hy105
                                    clear hy105
                                    have H' := Aside0.mk H
                                    clear H
                                    have p34 : 0 ≤ ((ji31) : Int) := of_decide_eq_true (by first | (with_reducible assumption) | assumption)
                                    have q34 : ((ji31) : Int) < ((x1_2.length : Int) : Int) := of_decide_eq_true (by first | (with_reducible assumption) | assumption)
                                    obtain ⟨go34, co34, eo34, gb34, gl34, cl34, HG34⟩ := Kd.R_form HO_1.out (by omega)
                                    (first | cases eo34 | (injection eo34 with ea_ en_ ec_; (first | subst ea_ | (injection ea_ with ea_; subst ea_)); subst ec_; clear en_))
                                    have GB34 := Aside0.mk gb34
                                    have GG34 := Aside0.mk HG34
                                    clear gb34 gl34 HG34
                                    have HMgo34 := Aside0.mk (show (P1_ go34 ∨ w.heap.size ≤ go34) from (HO_1.out.1 _ rfl))
                                    obtain ⟨hx34_0, hf34_0⟩ := Kd.R_celln 0 HO_1.out ((ji31) : Int) p34 q34
                                    replace p34 := eq_true p34
                                    replace q34 := eq_true q34
                                    have HP35 := Kd.R_putg HO_1.out ((ji31) : Int) (-1)
                                    go_wp2_with (first | ((with_reducible refine gate_store (t := 3) (p := 72) rfl ?_); refine store_event (t := 3) (p := 72) (v := ?vo_w36) (w1 := (wr.setCell ⟨go34, ((ji31) : Int).toNat, none⟩ (.int .i64 (-1)))) ?hg ?ho ?hn ?hr ?_; (case ho => rfl); (case hg => rfl); (case hn => rfl); (case hr => first | (go_simp; done) | (go_simp; rfl)); intro w36 hw; have hg : wr.grownBy w36 (some go34) := (by rw [hw]; exact HP35.2); have hp_ : Kd.R (Kd.int .i64) 3 w36 w0.heap.size (fun k_ => (P1_ k_ ∨ w.heap.size ≤ k_)) (.slice (some ⟨go34, 0, none⟩) x1_2.length co3) y105 := (by rw [hw, Ny105.out]; exact HP35.1); clear HP35; have n0_ := Aside0.mk (hp_); have n1_ := Aside0.mk ((by rw [hw]; exact below_set (HB.out) GB34.out : Below w0.heap.size w0 w36)); have n2_ := Aside0.mk (Kept.of_grown (S := (fun k_ => P1_ k_)) hg (by repeat (first | (with_reducible first | exact HK.out | apply Kept.alloc | apply Kept.drewN | apply Kept.drew) | exact HK.out)) (fun k_ e_ => (HO_1.out.1 k_ e_))); clear HO_1; clear HB; clear HK; have HO_1 := n0_; have HB := n1_; have HK := n2_; clear n0_ n1_ n2_; clear hg hw hp_))
                                    (try simp only [← hl1_2])
                                    go_roundg k3
                                    case measure => have := HK1.out; have := HK2.out; have := HK3.out; omega
                                    case rel => exact ⟨(y105), (true), (wrap64 (x22_2 + 1)), (by first | rfl | (simp; done) | (simp [*]; done)), (by first | rfl | (simp; done) | (simp [*]; done)), H', ⟨by have := HK1.out; have := HK2.out; have := HK3.out; omega⟩, ⟨by (try simp only [hl1_1]); (try simp only [hl1_2]); (with_reducible repeat (first | apply Kd.R_alloc | apply Kd.R_drewN | apply Kd.R_drew)); exact HO_1.out⟩, ⟨by repeat (first | (with_reducible first | exact HK.out | apply Kept.alloc | apply Kept.drewN | apply Kept.drew) | exact HK.out)⟩, ⟨by repeat (first | (with_reducible first | exact HB.out | apply below_alloc | apply pw_below_drewN | apply below_drew1) | exact HB.out)⟩⟩
                                  · rw [if_neg c33] at H
                                    exact absurd H (by simp)
                                · rw [if_neg c32] at H
                                  exact absurd H (by simp)
                            · rw [if_neg c24] at H
                              have c24b0 : (x8_3 == 1) = false := beq_eq_false_iff_ne.mpr c24
                              have c24b1 : (x8_3 != 1) = true := bne_iff_ne.mpr c24
                              have H' := Aside0.mk H
                              clear H
                              go_wp2
                              (try simp only [← hl1_2])
                              go_roundg k3
                              case measure => have := HK1.out; have := HK2.out; have := HK3.out; omega
                              case rel => exact ⟨(x1_2), (x5_2), (wrap64 (x22_2 + 1)), (by first | rfl | (simp; done) | (simp [*]; done)), (by first | rfl | (simp; done) | (simp [*]; done)), H', ⟨by have := HK1.out; have := HK2.out; have := HK3.out; omega⟩, ⟨by (try simp only [hl1_1]); (try simp only [hl1_2]); (with_reducible repeat (first | apply Kd.R_alloc | apply Kd.R_drewN | apply Kd.R_drew)); exact HO_1.out⟩, ⟨by repeat (first | (with_reducible first | exact HK.out | apply Kept.alloc | apply Kept.drewN | apply Kept.drew) | exact HK.out)⟩, ⟨by repeat (first | (with_reducible first | exact HB.out | apply below_alloc | apply pw_below_drewN | apply below_drew1) | exact HB.out)⟩⟩
                · rw [if_neg c7] at H
                  exact absurd H (by simp)
              · rw [if_neg c6] at H
                exact absurd H (by simp)
            · rw [if_neg c5] at H
              have c5b0 : decide (x22_2 < (l0.length : Int)) = false := decide_eq_false c5
              clear c5
              by_cases c37 : x5_2 = true
              · subst c37
                have H1 : (chalklinelaw16_forced.l0 k2 l0 x1_2 N_ (wrap64 (x18_1 + 1))) = some (r1, r2) := by rw [if_pos rfl] at H; exact H
                clear H
                have H := H1
                clear H1
                have H' := Aside0.mk H
                clear H
                go_wp2
                (try simp only [← hl1_1, ← hl1_2])
                go_roundg k2
                case measure => have := HK1.out; have := HK2.out; omega
                case rel => exact ⟨(x1_2), (wrap64 (x18_1 + 1)), (by first | rfl | (simp; done) | (simp [*]; done)), H', ⟨by have := HK1.out; have := HK2.out; omega⟩, ⟨by (try simp only [hl1_1]); (try simp only [hl1_2]); (with_reducible repeat (first | apply Kd.R_alloc | apply Kd.R_drewN | apply Kd.R_drew)); exact HO_1.out⟩, ⟨by repeat (first | (with_reducible first | exact HK.out | apply Kept.alloc | apply Kept.drewN | apply Kept.drew) | exact HK.out)⟩, ⟨by repeat (first | (with_reducible first | exact HB.out | apply below_alloc | apply pw_below_drewN | apply below_drew1) | exact HB.out)⟩⟩
              · replace c37 := Bool.eq_false_iff.mpr c37
                subst c37
                have H1 : (some (false, x1_2)) = some (r1, r2) := by rw [if_neg (show ¬ (false = true) by decide)] at H; exact H
                clear H
                have H := H1
                clear H1
                simp only [Option.some.injEq, Prod.mk.injEq] at H
                obtain ⟨rfl, rfl⟩ := H
                go_wp2
                go_ret
                exact ⟨by first | rfl | (simp [errW_none, errW_some] <;> rfl) | (simp [*, errW_none, errW_some] <;> rfl), (by first | exact (by (with_reducible repeat (first | apply Kd.R_alloc | apply Kd.R_drewN | apply Kd.R_drew)); exact HO_1.out) | (simp only [hl1_1, hl1_2]; exact (by (with_reducible repeat (first | apply Kd.R_alloc | apply Kd.R_drewN | apply Kd.R_drew)); exact HO_1.out))), by repeat (first | (with_reducible first | exact HB.out | apply below_alloc | apply pw_below_drewN | apply below_drew1) | exact HB.out), by repeat (first | (with_reducible first | exact HK.out | apply Kept.alloc | apply Kept.drewN | apply Kept.drew) | exact HK.out)⟩
      · rw [if_neg c4] at H
        have c4b0 : decide (x18_1 < N_) = false := decide_eq_false c4
        clear c4
        simp only [Option.some.injEq, Prod.mk.injEq] at H
        obtain ⟨rfl, rfl⟩ := H
        go_wp2
        go_ret
        exact ⟨by first | rfl | (simp [errW_none, errW_some] <;> rfl) | (simp [*, errW_none, errW_some] <;> rfl), (by first | exact (by (with_reducible repeat (first | apply Kd.R_alloc | apply Kd.R_drewN | apply Kd.R_drew)); exact HO_1.out) | (simp only [hl1_1]; exact (by (with_reducible repeat (first | apply Kd.R_alloc | apply Kd.R_drewN | apply Kd.R_drew)); exact HO_1.out))), by repeat (first | (with_reducible first | exact HB.out | apply below_alloc | apply pw_below_drewN | apply below_drew1) | exact HB.out), by repeat (first | (with_reducible first | exact HK.out | apply Kept.alloc | apply Kept.drewN | apply Kept.drew) | exact HK.out)⟩

end Go.Proofs.Ytpadmbpopjmdjaa.QFo
