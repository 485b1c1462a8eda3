/-
  slices.Clone and count.Most: the walks.
-/
import Derived.Test.YtpadmbpopjmdjaaGLeastC
import Derived.Carry
namespace Go.Proofs.Ytpadmbpopjmdjaa.G
set_option linter.unusedVariables false
set_option linter.unusedSimpArgs false
open Go.RowKit Go.Proofs.YtpadmbpopjmdjaaW.PrintWords Go.Proofs.YtpadmbpopjmdjaaW.PrintLast Go.Proofs.YtpadmbpopjmdjaaW.PrintMore
attribute [local go_sem] max2_int min2_int max_two min_two max_three min_three max_four min_four

def ClonePost (l : List Int) (w : World) (e : Ending) (w' : World) : Prop := ∃ v, e = .returned v ∧ (Kd.int .i64).R 3 w' w.heap.size (fun k => w.heap.size ≤ k) v l ∧ Below w.heap.size w w'

set_option maxHeartbeats 400000 in
theorem clone_calls (A0 : Option Addr) (c0 : Nat) (l : List Int) (w : World) (hr : Kd.C (Kd.int .i64) w A0 l.length l) (hl : l.length ≤ 4096) :
    Calls Try.prog 31 #[.slice A0 l.length c0] w (ClonePost l w) := by
  have heq := Lib.run_eql_slice_nil (P := Try.prog) w 22 3 A0 l.length c0 0 0 Try.underlying22
  cases A0 with
  | none =>
    have h0 : l = [] := by
      cases l with
      | nil => rfl
      | cons x r =>
        obtain ⟨ad, e0, _⟩ := Kd.at_int hr 0 (by omega) (by simp)
        cases e0
    subst h0
    rw [show (none : Option Addr).isNone = true from rfl] at heq
    simp only [List.length_nil] at heq ⊢
    clear hr
    go_enter Try.func31, Try.ntmps31
    go_wp2
    go_ret
    exact ⟨_, rfl, Kd.R_nil _ _ _ _ _, Below.refl _ _⟩
  | some ad =>
    rw [show (some ad : Option Addr).isNone = false from rfl] at heq
    have HROW := Aside0.mk (Kd.C_below hr (below_alloc (Below.refl w.heap.size w) (.cells #[] 3 (0, 0))))
    have HL := Aside0.mk (show (Kd.int .i64).R 3 (w.alloc (.cells #[] 3 (0, 0))) w.heap.size (fun k => w.heap.size ≤ k) (.slice (some ⟨w.heap.size, 0, none⟩) 0 0) [] from
      Kd.R_of_own (own_lit_of (enc := Value.int .i64) w w.heap.size 3 [] (Nat.le_refl _) (by simp)) (fun k hk => by simp [Value.ownBlock] at hk; omega))
    have HB := Aside0.mk (below_alloc (Below.refl w.heap.size w) (.cells #[] 3 (0, 0)))
    have HSZ := Aside0.mk HB.out.size
    clear hr
    go_enter Try.func31, Try.ntmps31
    go_wp2_with (first | ((with_reducible refine gate_dst (N := 7) rfl ?_); refine Kd.R_append_row (Value.int .i64) (0 : Int) (h1 := fun _ => rfl) (w0 := w) w.heap.size rfl _ _ 22 3 (.int .i64 0) 8 rfl Try.underlying22 infoT3 rfl (by decide) _ [] l (some ad) l.length c0 (fun k => w.heap.size ≤ k) rfl rfl (fun k hk => Nat.le_trans HSZ.out hk) HL.out HROW.out HB.out HSZ.out (by simp; omega) ?_; intro v1 w1 ho hb hg hat; have HO1 := Aside0.mk ho; have HB1 := Aside0.mk hb; clear ho hb hg hat))
    go_ret
    exact ⟨_, rfl, HO1.out, HB1.out⟩

/-- The first i elements negated. -/
def negTo (l : List Int) (i : Nat) : List Int := (l.take i).map (fun x => wrap64 (-x)) ++ l.drop i
theorem negTo_len (l : List Int) (i : Nat) : (negTo l i).length = l.length := by unfold negTo; simp; omega
theorem negTo_all (l : List Int) : negTo l l.length = l.map (fun x => wrap64 (-x)) := by unfold negTo; simp
theorem negTo_get {l : List Int} {i : Nat} (h : i < l.length) : rdOf (0 : Int) (negTo l i) (i : Int) = l.getD i 0 := by
  unfold negTo
  simp [rdOf, List.getD_eq_getElem?_getD, List.getElem?_append_right, h, Nat.min_eq_left (Nat.le_of_lt h)]
theorem negTo_set {l : List Int} {i : Nat} (h : i < l.length) : (negTo l i).set i (wrap64 (-(l.getD i 0))) = negTo l (i + 1) := by
  apply List.ext_getElem?
  intro j
  unfold negTo
  rw [List.getElem?_set]
  by_cases hj : i = j
  · subst hj
    simp [List.getElem?_append, h, List.getD_eq_getElem?_getD, List.getElem?_take, Nat.min_eq_left (Nat.succ_le_of_lt h)]
    omega
  · rw [if_neg hj]
    simp only [List.getElem?_append, List.length_map, List.length_take, List.getElem?_map, List.getElem?_take, List.getElem?_drop]
    by_cases h1 : j < i
    · rw [if_pos (by omega), if_pos (by omega), if_pos (by omega), if_pos (by omega)]
    · rw [if_neg (by omega), if_neg (by omega)]
      congr 1
      omega

/-- What count.Most answers. -/
def mostOf (l : List Int) (k next : Int) : List (List Int) × Int × Int :=
  if rightE l next ≠ 0 then ([], 0, rightE l next) else leastOf (l.map (fun x => wrap64 (-x))) ((l.length : Int) - (if (l.length : Int) < (if k < -1 then -1 else k) then (l.length : Int) else (if k < -1 then -1 else k))) next

set_option maxRecDepth 100000 in
set_option maxHeartbeats 1600000 in
theorem most_in (A0 : Option Addr) (c0 : Nat) (l : List Int) (k next : Int) (w : World) (hr : Kd.C (Kd.int .i64) w A0 l.length l) (hc : l.length ≤ c0) (hl : l.length ≤ 4096) (hx : ∀ x ∈ l, x ≠ 0 ∧ -65537 < x ∧ x < 65537) (hr0 : Calls Try.prog 27 #[.slice A0 l.length c0, .int .i64 next] w fun e w' => e = .returned (.int .i64 0) ∧ Below w.heap.size w w') (kk : Int) (hkk : (l.length : Int) - (if (l.length : Int) < (if k < -1 then -1 else k) then (l.length : Int) else (if k < -1 then -1 else k)) = kk) :
    Calls Try.prog 16 #[.slice A0 l.length c0, .int .i64 k, .int .i64 next] w (LeastPost (leastOf (l.map (fun x => wrap64 (-x))) kk next) w) := by
  have HC := Aside0.mk hr0
  have HR := Aside0.mk hr
  have HX := Aside0.mk hx
  obtain ⟨mx1, hmx⟩ : ∃ m, (if k < -1 then -1 else k) = m := ⟨_, rfl⟩
  obtain ⟨mn1, hmn⟩ : ∃ m, (if (l.length : Int) < mx1 then (l.length : Int) else mx1) = m := ⟨_, rfl⟩
  rw [hmx, hmn] at hkk
  have b1 : -1 ≤ mn1 := by rw [← hmn, ← hmx]; split <;> split <;> omega
  have b2 : mn1 ≤ l.length := by rw [← hmn]; split <;> omega
  subst hkk
  clear hr0 hr hx
  go_enter Try.func16, Try.ntmps16
  go_wp2_with (first | (go_at_call 27; refine HC.out.mono ?_; rintro e w1 ⟨rfl, hd⟩; have HD := Aside0.mk hd; clear hd) | (go_at_call 31; refine (clone_calls A0 c0 l _ (Kd.C_below HR.out HD.out) hl).mono ?_; rintro e w2 ⟨v2, rfl, hR2, hB2⟩; obtain ⟨A2, c2, e2⟩ := Kd.R_slice hR2; rw [e2]; rw [e2] at hR2; have HR2 := Aside0.mk (Kd.R_mono (Kd.R_lower hR2 HD.out.size) (fun k hk => Nat.le_trans HD.out.size hk)); have HB2 := Aside0.mk (HD.out.trans (hB2.mono HD.out.size)); clear hR2 hB2 e2))
  go_loopg [23] l.length (fun kq v23 wr => ∃ i : Nat, i ≤ l.length ∧ v23 = .int .i64 i ∧ Aside0 (kq + i = l.length) ∧ Aside0 ((Kd.int .i64).R 3 wr w.heap.size (fun k => w.heap.size ≤ k) (.slice A2 l.length c2) (negTo l i)) ∧ Aside0 (Below w.heap.size w wr))
  case atStart => exact ⟨0, by omega, rfl, ⟨by omega⟩, ⟨by have h := HR2.out; unfold negTo; simpa using h⟩, HB2⟩
  case round =>
    obtain ⟨i, hi, rfl, HN, HO, HB⟩ := hrel
    by_cases hlt : i < l.length
    · obtain ⟨g, cap, e5, hg5, _, _⟩ := Kd.R_form HO.out (by rw [negTo_len]; omega)
      rw [negTo_len] at e5
      injection e5 with e6 e7 e8
      subst e6
      subst e8
      obtain ⟨hx1, hx2⟩ := Kd.R_celln (0 : Int) HO.out (i : Int) (by omega) (by omega)
      obtain ⟨x, hxe⟩ : ∃ x, l.getD i 0 = x := ⟨_, rfl⟩
      rw [negTo_get hlt, hxe, Int.toNat_natCast] at hx1
      rw [Int.toNat_natCast] at hx2
      have hxm := HX.out x (by rw [← hxe]; simp [List.getD_eq_getElem?_getD, hlt])
      have hxa := hxm.2.1
      have hxb := hxm.2.2
      have HP := Aside0.mk (Kd.R_putg HO.out (i : Int) (-x))
      have hset := negTo_set hlt
      rw [hxe, show wrap64 (-x) = -x from by unfold wrap64; omega] at hset
      have HSET := Aside0.mk hset
      have HG := Aside0.mk hg5
      clear hxm hxe hset hg5 e7
      go_wp2
      go_roundg (gk - 1)
      case measure => have := HN.out; omega
      case rel => exact ⟨i + 1, by omega, by go_num, ⟨by have := HN.out; omega⟩, ⟨by rw [← HSET.out]; exact HP.out.1⟩, ⟨HB.out.setCell (p := ⟨g, i, none⟩) HG.out _⟩⟩
    · have hii : i = l.length := by omega
      subst hii
      have HO2 := HO.out
      rw [negTo_all] at HO2
      obtain ⟨nl, hnl⟩ : ∃ nl, l.map (fun x => wrap64 (-x)) = nl := ⟨_, rfl⟩
      have hlen : nl.length = l.length := by rw [← hnl, List.length_map]
      rw [hnl] at HO2
      obtain ⟨hn1, hc2, hC2⟩ := Kd.R_reads' HO2
      have hwf : ∀ x ∈ nl, (Lit.int .i64 x).wf = true := by
        intro x hx
        rw [← hnl] at hx
        obtain ⟨y, hy, rfl⟩ := List.mem_map.1 hx
        have := HX.out y hy
        have e : wrap64 (-y) = -y := by unfold wrap64; omega
        rw [e]
        have hmin : IntKind.i64.min = -9223372036854775808 := rfl
        have hmax : IntKind.i64.max = 9223372036854775807 := rfl
        simp only [Lit.wf, Bool.and_eq_true, decide_eq_true_eq]
        omega
      have HL := Aside0.mk (fun W (hW : Below wr.heap.size wr W) => least_calls A2 c2 nl ((l.length : Int) - mn1) next W (Kd.C_below hC2 hW) (by omega) (by omega) hwf)
      rw [hlen] at HL
      have HNL := Aside0.mk hnl
      clear hlen hn1 hc2 hC2 hwf HO2 hnl
      go_wp2_with fail
      refine (HL.out _ (Below.refl _ _)).mono ?_
      rintro e w4 ⟨v4, rfl, hR4, hB4⟩
      have HR4 := Aside0.mk hR4
      have HB4 := Aside0.mk hB4
      clear hR4 hB4
      go_wp2
      go_ret3
      have hs := HB.out.size
      refine ⟨v4, by rw [HNL.out]; rfl, ?_, HB.out.trans (HB4.out.mono hs)⟩
      rw [HNL.out]
      exact Kd.R_mono (Kd.R_lower HR4.out hs) (fun k hk => Nat.le_trans hs hk)

set_option maxHeartbeats 400000 in
theorem most_err (A0 : Option Addr) (c0 : Nat) (l : List Int) (k next : Int) (w : World) (r : Int) (hr0 : Calls Try.prog 27 #[.slice A0 l.length c0, .int .i64 next] w fun e w' => e = .returned (.int .i64 r) ∧ Below w.heap.size w w') (hr : (r != 0) = true) :
    Calls Try.prog 16 #[.slice A0 l.length c0, .int .i64 k, .int .i64 next] w (LeastPost ([], 0, r) w) := by
  have HC := Aside0.mk hr0
  clear hr0
  go_enter Try.func16, Try.ntmps16
  go_wp2_with ((go_at_call 27; refine HC.out.mono ?_; rintro e w1 ⟨rfl, hd⟩; have HD := Aside0.mk hd; clear hd))
  go_ret3
  exact ⟨_, rfl, Kd.R_nil _ _ _ _ _, HD.out⟩

theorem most_calls (A0 : Option Addr) (c0 : Nat) (l : List Int) (k next : Int) (w : World) (hr : Kd.C (Kd.int .i64) w A0 l.length l) (hc : l.length ≤ c0) (hm : l.length < 140737488355328) (hl : ∀ x ∈ l, (Lit.int .i64 x).wf = true) :
    Calls Try.prog 16 #[.slice A0 l.length c0, .int .i64 k, .int .i64 next] w (LeastPost (mostOf l k next) w) := by
  have hr0 := right_calls A0 c0 l next w hr hc hm hl
  unfold mostOf
  by_cases h0 : rightE l next = 0
  · rw [if_neg (by simpa using h0)]
    rw [h0] at hr0
    obtain ⟨hn1, hn2, hl1, _⟩ := rightE_ok h0
    exact most_in A0 c0 l k next w hr hc hl1 (fun x hx => by have := rightE_mem h0 hl x hx; omega) hr0 _ rfl
  · rw [if_pos h0]
    exact most_err A0 c0 l k next w _ hr0 (by simpa using h0)

#print axioms most_calls

end Go.Proofs.Ytpadmbpopjmdjaa.G
