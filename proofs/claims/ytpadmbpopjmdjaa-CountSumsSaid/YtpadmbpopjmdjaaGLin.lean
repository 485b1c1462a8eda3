/-
  lin.Value: the walk, for coefficients and a bound that are small and literals of the variables that there are.
-/
import Derived.Test.YtpadmbpopjmdjaaGCheck
import Derived.Test.YtpadmbpopjmdjaaGLeastC
import Derived.Deep.RegionWith
import Derived.Deep.RegionHeld3
namespace Go.Proofs.Ytpadmbpopjmdjaa.G
set_option linter.unusedVariables false
set_option linter.unusedSimpArgs false
open Go.RowKit Go.Proofs.YtpadmbpopjmdjaaW.PrintWords Go.Proofs.YtpadmbpopjmdjaaW.PrintLast Go.Proofs.YtpadmbpopjmdjaaW.PrintMore
attribute [local go_sem] max2_int min2_int max_two min_two max_three min_three max_four min_four

def SmallC (x : Int) : Prop := -1000 ≤ x ∧ x ≤ 1000
def LitV (x : Int) : Prop := x ≠ 0 ∧ -65536 ≤ x ∧ x ≤ 65536

theorem within_calls (x : Int) (w : World) (h : SmallC x) :
    Calls Try.prog 54 #[.int .i64 x] w fun e w' => e = .returned (.bool true) ∧ Below w.heap.size w w' := by
  obtain ⟨h1, h2⟩ := h
  have a1 : (-1099511627776 : Int) ≤ x := by omega
  have a2 : x ≤ (1099511627776 : Int) := by omega
  go_enter Try.func54, Try.ntmps54
  go_wp2
  go_ret
  exact ⟨by simp [a1, a2], Below.refl _ _⟩

theorem odd_calls (x : Int) (w : World) (h : SmallC x) :
    Calls Try.prog 53 #[.int .i64 x] w fun e w' => e = .returned (.bool false) ∧ Below w.heap.size w w' := by
  have HC := Aside0.mk (fun W => within_calls x W h)
  clear h
  go_enter Try.func53, Try.ntmps53
  go_wp2_with ((go_at_call 54; refine (HC.out _).mono ?_; rintro e w1 ⟨rfl, hd⟩; have HD := Aside0.mk hd; clear hd))
  go_ret
  exact ⟨rfl, HD.out⟩

structure NBx (g : Nat) (w : World) : Prop where
  box : w.heap[g]? = some (.cells #[.int .i64 65536] 3 (0, 0))
theorem NBx.below {g : Nat} {w w' : World} (h : NBx g w) (hb : Below w.heap.size w w') : NBx g w' := ⟨blk_below h.box hb⟩

theorem wrong_calls (g : Nat) (x : Int) (w : World) (h : NBx g w) (hx : LitV x) :
    Calls Try.prog 55 #[.int .i64 x, .pointer (some ⟨g, 0, none⟩)] w fun e w' => e = .returned (.bool false) ∧ Below w.heap.size w w' := by
  have hcell := blk_cell h.box 0
  obtain ⟨h0, h1, h2⟩ := hx
  clear h
  have a1 : ¬ (65536 : Int) < x := by omega
  have a2 : ¬ x < (-65536 : Int) := by omega
  go_enter Try.func55, Try.ntmps55
  go_wp2
  go_ret
  exact ⟨by first | rfl | simp [h0, a1, a2] | (simp [h0, a1, a2]; omega), Below.refl _ _⟩

set_option maxHeartbeats 800000 in
theorem index_odd (B : Option Addr) (cb : Nat) (l : List Int) (w : World) (hr : (Kd.int .i64).C w B l.length l) (hl : l.length ≤ 140737488355328) (hw : ∀ x ∈ l, SmallC x) :
    Calls Try.prog 50 #[.slice B l.length cb, .func (.func 53) #[] #[]] w fun e w' => e = .returned (.int .i64 (-1)) ∧ Below w.heap.size w w' := by
  have HR := Aside0.mk hr
  have HW := Aside0.mk hw
  clear hr hw
  go_enter Try.func50, Try.ntmps50
  go_wp2
  go_loopg [8] l.length (fun kq v8 wr => ∃ i : Nat, i ≤ l.length ∧ v8 = .int .i64 i ∧ Aside0 (kq + i = l.length) ∧ Aside0 (Below w.heap.size w wr))
  case atStart => exact ⟨0, by omega, rfl, ⟨by omega⟩, ⟨Below.refl _ _⟩⟩
  case round =>
    obtain ⟨i, hi, rfl, HN, HB⟩ := hrel
    by_cases hlt : i < l.length
    · obtain ⟨ad, e0, hcell⟩ := Kd.at_int (Kd.C_below HR.out HB.out) (i : Int) (by omega) (by omega)
      cases e0
      obtain ⟨x, hx⟩ : ∃ x, l.getD i 0 = x := ⟨_, rfl⟩
      rw [show rd l (i : Int) = x from by simpa [rd] using hx, Int.toNat_natCast] at hcell
      have hxw : SmallC x := HW.out x (by rw [← hx]; simp [List.getD_eq_getElem?_getD, hlt])
      have HC := Aside0.mk (fun W (hb : Below w.heap.size w W) => odd_calls x W hxw)
      clear hxw hx
      go_wp2_with ((go_at_call 53; refine (HC.out _ HB.out).mono ?_; rintro e w1 ⟨rfl, hd⟩; have HD := Aside0.mk (below_chain' HB.out hd); clear hd))
      go_roundg (gk - 1)
      case measure => have := HN.out; omega
      case rel => exact ⟨i + 1, by omega, by go_num, ⟨by have := HN.out; omega⟩, HD⟩
    · have hii : i = l.length := by omega
      go_wp2
      go_ret
      exact ⟨rfl, HB.out⟩

theorem contains_odd (B : Option Addr) (cb : Nat) (l : List Int) (w : World) (hr : (Kd.int .i64).C w B l.length l) (hl : l.length ≤ 140737488355328) (hw : ∀ x ∈ l, SmallC x) :
    Calls Try.prog 38 #[.slice B l.length cb, .func (.func 53) #[] #[]] w fun e w' => e = .returned (.bool false) ∧ Below w.heap.size w w' := by
  have HC := Aside0.mk (index_odd B cb l w hr hl hw)
  clear hr hw
  go_enter Try.func38, Try.ntmps38
  go_wp2_with ((go_at_call 50; refine HC.out.mono ?_; rintro e w1 ⟨rfl, hd⟩; have HD := Aside0.mk hd; clear hd))
  go_ret
  exact ⟨rfl, HD.out⟩

set_option maxHeartbeats 800000 in
theorem index_wrong (g : Nat) (B : Option Addr) (cb : Nat) (l : List Int) (w : World) (h : NBx g w) (hr : (Kd.int .i64).C w B l.length l) (hl : l.length ≤ 140737488355328) (hw : ∀ x ∈ l, LitV x) :
    Calls Try.prog 50 #[.slice B l.length cb, .func (.func 55) #[] #[.pointer (some ⟨g, 0, none⟩)]] w fun e w' => e = .returned (.int .i64 (-1)) ∧ Below w.heap.size w w' := by
  have HH := Aside0.mk h
  have HR := Aside0.mk hr
  have HW := Aside0.mk hw
  clear h hr hw
  go_enter Try.func50, Try.ntmps50
  go_wp2
  go_loopg [8] l.length (fun kq v8 wr => ∃ i : Nat, i ≤ l.length ∧ v8 = .int .i64 i ∧ Aside0 (kq + i = l.length) ∧ Aside0 (Below w.heap.size w wr))
  case atStart => exact ⟨0, by omega, rfl, ⟨by omega⟩, ⟨Below.refl _ _⟩⟩
  case round =>
    obtain ⟨i, hi, rfl, HN, HB⟩ := hrel
    by_cases hlt : i < l.length
    · obtain ⟨ad, e0, hcell⟩ := Kd.at_int (Kd.C_below HR.out HB.out) (i : Int) (by omega) (by omega)
      cases e0
      obtain ⟨x, hx⟩ : ∃ x, l.getD i 0 = x := ⟨_, rfl⟩
      rw [show rd l (i : Int) = x from by simpa [rd] using hx, Int.toNat_natCast] at hcell
      have hxw : LitV x := HW.out x (by rw [← hx]; simp [List.getD_eq_getElem?_getD, hlt])
      have HC := Aside0.mk (fun W (hb : Below w.heap.size w W) => wrong_calls g x W (HH.out.below hb) hxw)
      clear hxw hx
      go_wp2_with ((go_at_call 55; refine (HC.out _ HB.out).mono ?_; rintro e w1 ⟨rfl, hd⟩; have HD := Aside0.mk (below_chain' HB.out hd); clear hd))
      go_roundg (gk - 1)
      case measure => have := HN.out; omega
      case rel => exact ⟨i + 1, by omega, by go_num, ⟨by have := HN.out; omega⟩, HD⟩
    · have hii : i = l.length := by omega
      go_wp2
      go_ret
      exact ⟨rfl, HB.out⟩

theorem contains_wrong (g : Nat) (B : Option Addr) (cb : Nat) (l : List Int) (w : World) (h : NBx g w) (hr : (Kd.int .i64).C w B l.length l) (hl : l.length ≤ 140737488355328) (hw : ∀ x ∈ l, LitV x) :
    Calls Try.prog 38 #[.slice B l.length cb, .func (.func 55) #[] #[.pointer (some ⟨g, 0, none⟩)]] w fun e w' => e = .returned (.bool false) ∧ Below w.heap.size w w' := by
  have HC := Aside0.mk (index_wrong g B cb l w h hr hl hw)
  clear h hr hw
  go_enter Try.func38, Try.ntmps38
  go_wp2_with ((go_at_call 50; refine HC.out.mono ?_; rintro e w1 ⟨rfl, hd⟩; have HD := Aside0.mk hd; clear hd))
  go_ret
  exact ⟨rfl, HD.out⟩

/-- A constraint in a box. -/
structure LBx (g : Nat) (A B : Option Addr) (n m ca cb : Nat) (k : Int) (w : World) : Prop where
  box : w.heap[g]? = some (.cells #[.slice A n ca, .slice B m cb, .int .i64 k] 45 (0, 0))
theorem LBx.below {g : Nat} {A B : Option Addr} {n m ca cb : Nat} {k : Int} {w w' : World} (h : LBx g A B n m ca cb k w) (hb : Below w.heap.size w w') : LBx g A B n m ca cb k w' := ⟨blk_below h.box hb⟩

set_option maxHeartbeats 1600000 in
theorem lcheck_calls (A B : Option Addr) (ca cb : Nat) (n : Nat) (C L : List Int) (k : Int) (w : World) (hC : (Kd.int .i64).C w A n C) (hL : (Kd.int .i64).C w B n L) (hCn : C.length = n) (hLn : L.length = n) (hl : n ≤ 4096) (hk : SmallC k) (hc : ∀ x ∈ C, SmallC x) (hx : ∀ x ∈ L, LitV x) :
    Calls Try.prog 52 #[.agg #[.slice A n ca, .slice B n cb, .int .i64 k], .int .i64 65536] w fun e w' => e = .returned (.int .i64 0) ∧ Below w.heap.size w w' := by
  have hb1 := below_alloc (Below.refl w.heap.size w) (Obj.cells #[.slice A n ca, .slice B n cb, .int .i64 k] 45)
  obtain ⟨w1, hw1⟩ : ∃ w1, w.alloc (Obj.cells #[.slice A n ca, .slice B n cb, .int .i64 k] 45) = w1 := ⟨_, rfl⟩
  have hl1 : LBx w.heap.size A B n n ca cb k w1 := ⟨by rw [← hw1]; exact blk_new w _⟩
  rw [hw1] at hb1
  have hb2 := below_alloc (Below.refl w1.heap.size w1) (Obj.cells #[.int .i64 65536] 3)
  obtain ⟨w2, hw2⟩ : ∃ w2, w1.alloc (Obj.cells #[.int .i64 65536] 3) = w2 := ⟨_, rfl⟩
  have hn2 : NBx w1.heap.size w2 := ⟨by rw [← hw2]; exact blk_new w1 _⟩
  rw [hw2] at hb2
  have hl2 := hl1.below hb2
  have hB := below_chain' hb1 hb2
  have HB := Aside0.mk hB
  have HLB := Aside0.mk hl2
  have HNB := Aside0.mk hn2
  have d0 := blk_cell hl2.box 0
  have d1 := blk_cell hl2.box 1
  have d2 := blk_cell hl2.box 2
  have dn := blk_cell hn2.box 0
  have HO := Aside0.mk (fun W (hb : Below w2.heap.size w2 W) => odd_calls k W hk)
  have hs1 : w1.heap.size = w.heap.size + 1 := by rw [← hw1]; simp
  have HA := Aside0.mk (fun W (hb : Below w2.heap.size w2 W) => (show Calls Try.prog 38 #[.slice A n ca, .func (.func 53) #[] #[]] W fun e w' => e = .returned (.bool false) ∧ Below W.heap.size W w' from by have h := contains_odd A ca C W (by rw [hCn]; exact Kd.C_below hC (below_chain' hB hb)) (by omega) hc; rw [hCn] at h; exact h))
  have HX := Aside0.mk (fun W (hb : Below w2.heap.size w2 W) => (show Calls Try.prog 38 #[.slice B n cb, .func (.func 55) #[] #[.pointer (some ⟨w1.heap.size, 0, none⟩)]] W fun e w' => e = .returned (.bool false) ∧ Below W.heap.size W w' from by have h := contains_wrong w1.heap.size B cb L W (hn2.below hb) (by rw [hLn]; exact Kd.C_below hL (below_chain' hB hb)) (by omega) hx; rw [hLn] at h; exact h))
  rw [hs1] at HX dn
  clear hC hL hk hc hx hb1 hb2 hl1 hl2 hn2 hB hCn hLn
  go_enter Try.func52, Try.ntmps52
  go_wp2_with (first
    | (go_at_call 53; refine (HO.out _ (Below.refl _ _)).mono ?_; rintro e wo ⟨rfl, hdo⟩; have HDO := Aside0.mk hdo; have do0 := blk_cell (HLB.out.below hdo).box 0; have do1 := blk_cell (HLB.out.below hdo).box 1; clear HO hdo)
    | (go_at_call 38; refine (HA.out _ HDO.out).mono ?_; rintro e wa ⟨rfl, hda⟩; have HDA := Aside0.mk (below_chain' HDO.out hda); have da0 := blk_cell (HLB.out.below HDA.out).box 0; have da1 := blk_cell (HLB.out.below HDA.out).box 1; clear HA hda)
    | (go_at_call 38; refine (HX.out _ HDA.out).mono ?_; rintro e wb ⟨rfl, hdb⟩; have HDB := Aside0.mk (below_chain' HDA.out hdb); have db1 := blk_cell (HLB.out.below HDB.out).box 1; clear hdb))
  go_ret
  exact ⟨rfl, below_chain' HB.out HDB.out⟩

set_option maxHeartbeats 1600000 in
theorem lright_calls (A B : Option Addr) (ca cb : Nat) (n : Nat) (C L : List Int) (k : Int) (w : World) (hC : (Kd.int .i64).C w A n C) (hL : (Kd.int .i64).C w B n L) (hCn : C.length = n) (hLn : L.length = n) (hl : n ≤ 4096) (hk : SmallC k) (hc : ∀ x ∈ C, SmallC x) (hx : ∀ x ∈ L, LitV x) :
    Calls Try.prog 43 #[.agg #[.slice A n ca, .slice B n cb, .int .i64 k]] w fun e w' => e = .returned (.int .i64 0) ∧ Below w.heap.size w w' := by
  have hb1 := below_alloc (Below.refl w.heap.size w) (Obj.cells #[.slice A n ca, .slice B n cb, .int .i64 k] 45)
  obtain ⟨w1, hw1⟩ : ∃ w1, w.alloc (Obj.cells #[.slice A n ca, .slice B n cb, .int .i64 k] 45) = w1 := ⟨_, rfl⟩
  have hl1 : LBx w.heap.size A B n n ca cb k w1 := ⟨by rw [← hw1]; exact blk_new w _⟩
  rw [hw1] at hb1
  have HB := Aside0.mk hb1
  have d0 := blk_cell hl1.box 0
  have d1 := blk_cell hl1.box 1
  have d2 := blk_cell hl1.box 2
  have HC := Aside0.mk (lcheck_calls A B ca cb n C L k w1 (Kd.C_below hC hb1) (Kd.C_below hL hb1) hCn hLn hl hk hc hx)
  clear hC hL hk hc hx hb1 hl1 hCn hLn
  go_enter Try.func43, Try.ntmps43
  go_wp2_with ((go_at_call 52; refine HC.out.mono ?_; rintro e wa ⟨rfl, hda⟩; have HDA := Aside0.mk (below_chain' HB.out hda); clear hda))
  go_ret
  exact ⟨rfl, HDA.out⟩

/-! The sum. -/
def vstep (a : List Bool) (n c x : Int) : Int := if ((decide (vabs x < (a.length : Int)) && a.getD (vabs x).toNat false) == decide (0 < x)) = true then wrap64 (n + c) else n
def vfold (a : List Bool) (C L : List Int) : Nat → Int
  | 0 => 0
  | i + 1 => vstep a (vfold a C L i) (C.getD i 0) (L.getD i 0)

theorem lof_calls (x : Int) (w : World) (h : LitV x) :
    Calls Try.prog 46 #[.int .i64 x] w fun e w' => e = .returned (.int .i64 (vabs x)) ∧ Below w.heap.size w w' := by
  obtain ⟨h0, h1, h2⟩ := h
  go_enter Try.func46, Try.ntmps46
  go_wp2
  all_goals go_ret
  all_goals refine ⟨congrArg (fun z => Ending.returned (Value.int .i64 z)) (?_ : _ = vabs x), Below.refl _ _⟩
  all_goals unfold vabs wrap64
  all_goals (split <;> omega)

/-- The assignment in a box. -/
structure ABx (g : Nat) (A : Option Addr) (n c : Nat) (w : World) : Prop where
  box : w.heap[g]? = some (.cells #[.slice A n c] 30 (0, 0))
theorem ABx.below {g : Nat} {A : Option Addr} {n c : Nat} {w w' : World} (h : ABx g A n c w) (hb : Below w.heap.size w w') : ABx g A n c w' := ⟨blk_below h.box hb⟩

set_option maxHeartbeats 1600000 in
theorem vstep_calls (g : Nat) (A : Option Addr) (ca : Nat) (a : List Bool) (n c x : Int) (w : World) (h : ABx g A a.length ca w) (hr : Kd.bool.C w A a.length a) (hx : LitV x) :
    Calls Try.prog 45 #[.int .i64 n, .int .i64 c, .int .i64 x, .pointer (some ⟨g, 0, none⟩)] w fun e w' => e = .returned (.int .i64 (vstep a n c x)) ∧ Below w.heap.size w w' := by
  have HC := Aside0.mk (fun W => lof_calls x W hx)
  have hvp : 0 < vabs x ∧ vabs x ≤ 65536 := by
    obtain ⟨h0, h1, h2⟩ := hx
    unfold vabs wrap64; split <;> omega
  obtain ⟨v, hv⟩ : ∃ v, vabs x = v := ⟨_, rfl⟩
  unfold vstep
  rw [hv] at HC hvp ⊢
  clear hv hx
  have HH := Aside0.mk h
  have HR := Aside0.mk hr
  clear h hr
  have hv1 := hvp.1
  have hv2 := hvp.2
  clear hvp
  have hbx := blk_cell HH.out.box 0
  by_cases hlt : v < (a.length : Int)
  · obtain ⟨ad, e0, hcell⟩ := Kd.at_bool HR.out v (by omega) hlt
    cases e0
    obtain ⟨b, hb⟩ : ∃ b, a.getD v.toNat false = b := ⟨_, rfl⟩
    rw [show rdOf false a v = b from hb] at hcell
    rw [hb, decide_eq_true hlt, Bool.true_and]
    clear hb
    have hbx1 : ∀ w1, Below w.heap.size w w1 → w1.cell? ⟨g, 0, none⟩ = some (.slice (some ad) a.length ca) := fun w1 h => blk_cell (HH.out.below h).box 0
    have hcl1 : ∀ w1, Below w.heap.size w w1 → w1.cell? (ad.add v.toNat) = some (.bool b) := fun w1 h => (h.cell (World.block_lt_of_cell? _ _ hcell)).trans hcell
    have HB1 := Aside0.mk hbx1
    have HB2 := Aside0.mk hcl1
    clear hbx1 hcl1 hbx hcell
    obtain ⟨p, hp⟩ : ∃ p, decide (0 < x) = p := ⟨_, rfl⟩
    rw [hp]
    cases p <;> cases b
    all_goals go_enter Try.func45, Try.ntmps45
    all_goals go_wp2_with ((go_at_call 46; refine (HC.out _).mono ?_; rintro e w1 ⟨rfl, hd⟩; have HD := Aside0.mk hd; have hq1 := HB1.out _ hd; have hq2 := HB2.out _ hd; clear hd))
    all_goals go_ret
    all_goals first | exact ⟨rfl, HD.out⟩ | (exfalso; simp_all; done)
  · rw [decide_eq_false hlt, Bool.false_and]
    have hbx1 : ∀ w1, Below w.heap.size w w1 → w1.cell? ⟨g, 0, none⟩ = some (.slice A a.length ca) := fun w1 h => blk_cell (HH.out.below h).box 0
    have HB1 := Aside0.mk hbx1
    clear hbx1 hbx
    obtain ⟨p, hp⟩ : ∃ p, decide (0 < x) = p := ⟨_, rfl⟩
    rw [hp]
    cases p
    all_goals go_enter Try.func45, Try.ntmps45
    all_goals go_wp2_with ((go_at_call 46; refine (HC.out _).mono ?_; rintro e w1 ⟨rfl, hd⟩; have HD := Aside0.mk hd; have hq1 := HB1.out _ hd; clear hd))
    all_goals go_ret
    all_goals first | exact ⟨rfl, HD.out⟩ | (exfalso; simp_all; done)

set_option maxHeartbeats 1600000 in
theorem lfold_calls (g : Nat) (Aa : Option Addr) (caa : Nat) (a : List Bool) (A B : Option Addr) (ca cb n : Nat) (C L : List Int) (k : Int) (w : World) (h : ABx g Aa a.length caa w) (hr : Kd.bool.C w Aa a.length a) (hC : (Kd.int .i64).C w A n C) (hL : (Kd.int .i64).C w B n L) (hCn : C.length = n) (hLn : L.length = n) (hl : n ≤ 4096) (hx : ∀ x ∈ L, LitV x) :
    Calls Try.prog 44 #[.agg #[.slice A n ca, .slice B n cb, .int .i64 k], .int .i64 0, .func (.func 45) #[] #[.pointer (some ⟨g, 0, none⟩)]] w fun e w' => e = .returned (.int .i64 (vfold a C L n)) ∧ Below w.heap.size w w' := by
  have hb1 := below_alloc (Below.refl w.heap.size w) (Obj.cells #[.slice A n ca, .slice B n cb, .int .i64 k] 45)
  obtain ⟨w1, hw1⟩ : ∃ w1, w.alloc (Obj.cells #[.slice A n ca, .slice B n cb, .int .i64 k] 45) = w1 := ⟨_, rfl⟩
  have hl1 : LBx w.heap.size A B n n ca cb k w1 := ⟨by rw [← hw1]; exact blk_new w _⟩
  rw [hw1] at hb1
  have HB1 := Aside0.mk hb1
  have HLB := Aside0.mk hl1
  have HA := Aside0.mk (h.below hb1)
  have HR := Aside0.mk (Kd.C_below hr hb1)
  have HCC := Aside0.mk (Kd.C_below hC hb1)
  have HCL := Aside0.mk (Kd.C_below hL hb1)
  have HX := Aside0.mk hx
  have HN1 := Aside0.mk hCn
  have HN2 := Aside0.mk hLn
  have d1 := blk_cell hl1.box 1
  clear hC hL hr h hb1 hl1 hx hCn hLn
  go_enter Try.func44, Try.ntmps44
  go_wp2
  clear hw1 d1
  go_loopg [1, 12] n (fun kq v1 v12 wr => ∃ i : Nat, i ≤ n ∧ v12 = .int .i64 i ∧ v1 = .int .i64 (vfold a C L i) ∧ Aside0 (kq + i = n) ∧ Aside0 (Below w1.heap.size w1 wr))
  case atStart => exact ⟨0, by omega, rfl, rfl, ⟨by omega⟩, ⟨Below.refl _ _⟩⟩
  case round =>
    obtain ⟨i, hi, rfl, rfl, HN, HB⟩ := hrel
    by_cases hlt : i < n
    · obtain ⟨ad, e0, hcell⟩ := Kd.at_int (Kd.C_below HCL.out HB.out) (i : Int) (by omega) (by omega)
      cases e0
      obtain ⟨ad2, e2, hcell2⟩ := Kd.at_int (Kd.C_below HCC.out HB.out) (i : Int) (by omega) (by omega)
      cases e2
      obtain ⟨x, hx⟩ : ∃ x, L.getD i 0 = x := ⟨_, rfl⟩
      obtain ⟨c, hc⟩ : ∃ c, C.getD i 0 = c := ⟨_, rfl⟩
      rw [show rd L (i : Int) = x from by simpa [rd] using hx, Int.toNat_natCast] at hcell
      rw [show rd C (i : Int) = c from by simpa [rd] using hc, Int.toNat_natCast] at hcell2
      have d0 := blk_cell (HLB.out.below HB.out).box 0
      have hxw : LitV x := HX.out x (by rw [← hx]; simp [List.getD_eq_getElem?_getD, show i < L.length by rw [HN2.out]; exact hlt])
      obtain ⟨m, hm⟩ : ∃ m, vfold a C L i = m := ⟨_, rfl⟩
      have hnext : vfold a C L (i + 1) = vstep a m c x := by show vstep a (vfold a C L i) (C.getD i 0) (L.getD i 0) = _; rw [hm, hc, hx]
      rw [hm]
      have HV := Aside0.mk (fun W (hb : Below w1.heap.size w1 W) => vstep_calls g Aa caa a m c x W (HA.out.below hb) (Kd.C_below HR.out hb) hxw)
      have HNX := Aside0.mk hnext
      clear hxw hx hc hm hnext
      go_wp2_with ((go_at_call 45; refine (HV.out _ HB.out).mono ?_; rintro e w2 ⟨rfl, hd⟩; have HD := Aside0.mk (below_chain' HB.out hd); clear hd))
      go_roundg (gk - 1)
      case measure => have := HN.out; omega
      case rel => exact ⟨i + 1, by omega, by go_num, by rw [HNX.out], ⟨by have := HN.out; omega⟩, HD⟩
    · obtain rfl : i = n := by omega
      go_wp2
      go_ret
      exact ⟨rfl, below_chain' HB1.out HB.out⟩

set_option maxHeartbeats 1600000 in
theorem lvalue_calls (Aa : Option Addr) (caa : Nat) (a : List Bool) (A B : Option Addr) (ca cb n : Nat) (C L : List Int) (k : Int) (w : World) (hr : Kd.bool.C w Aa a.length a) (hC : (Kd.int .i64).C w A n C) (hL : (Kd.int .i64).C w B n L) (hCn : C.length = n) (hLn : L.length = n) (hl : n ≤ 4096) (hk : SmallC k) (hc : ∀ x ∈ C, SmallC x) (hx : ∀ x ∈ L, LitV x) :
    Calls Try.prog 26 #[.agg #[.slice A n ca, .slice B n cb, .int .i64 k], .slice Aa a.length caa] w fun e w' => e = .returned (.bool (decide (vfold a C L n ≥ k))) ∧ Below w.heap.size w w' := by
  have hb1 := below_alloc (Below.refl w.heap.size w) (Obj.cells #[.slice A n ca, .slice B n cb, .int .i64 k] 45)
  obtain ⟨w1, hw1⟩ : ∃ w1, w.alloc (Obj.cells #[.slice A n ca, .slice B n cb, .int .i64 k] 45) = w1 := ⟨_, rfl⟩
  have hl1 : LBx w.heap.size A B n n ca cb k w1 := ⟨by rw [← hw1]; exact blk_new w _⟩
  have hs1 : w1.heap.size = w.heap.size + 1 := by rw [← hw1]; simp
  rw [hw1] at hb1
  have hb2 := below_alloc (Below.refl w1.heap.size w1) (Obj.cells #[.slice Aa a.length caa] 30)
  obtain ⟨w2, hw2⟩ : ∃ w2, w1.alloc (Obj.cells #[.slice Aa a.length caa] 30) = w2 := ⟨_, rfl⟩
  have ha2 : ABx (w.heap.size + 1) Aa a.length caa w2 := ⟨by rw [← hw2, ← hs1]; exact blk_new w1 _⟩
  rw [hw2] at hb2
  have hl2 := hl1.below hb2
  have hB := below_chain' hb1 hb2
  have HB := Aside0.mk hB
  have HLB := Aside0.mk hl2
  have HRR := Aside0.mk (lright_calls A B ca cb n C L k w2 (Kd.C_below hC hB) (Kd.C_below hL hB) hCn hLn hl hk hc hx)
  have HF := Aside0.mk (fun W (hb : Below w2.heap.size w2 W) => lfold_calls (w.heap.size + 1) Aa caa a A B ca cb n C L k W (ha2.below hb) (Kd.C_below hr (below_chain' hB hb)) (Kd.C_below hC (below_chain' hB hb)) (Kd.C_below hL (below_chain' hB hb)) hCn hLn hl hx)
  obtain ⟨m, hm⟩ : ∃ m, vfold a C L n = m := ⟨_, rfl⟩
  rw [hm] at HF ⊢
  have d0 := blk_cell hl2.box 0
  have d1 := blk_cell hl2.box 1
  have d2 := blk_cell hl2.box 2
  clear hC hL hr hk hc hx hb1 hb2 hl1 hl2 ha2 hB hCn hLn hm
  go_enter Try.func26, Try.ntmps26
  go_wp2_with ((go_at_call 43; refine HRR.out.mono ?_; rintro e w3 ⟨rfl, hd⟩; have HD := Aside0.mk hd; have e0 := blk_cell (HLB.out.below hd).box 0; have e1 := blk_cell (HLB.out.below hd).box 1; have e2 := blk_cell (HLB.out.below hd).box 2; clear hd))
  have e2d : w3.drew.cell? ⟨w.heap.size, 2, none⟩ = some (.int .i64 k) := e2
  have HDD := Aside0.mk (below_drew1 HD.out)
  go_region_with ((go_at_call 44; refine (HF.out _ HDD.out).mono ?_; rintro e w4 ⟨rfl, hd⟩; have HE := Aside0.mk (below_chain' HDD.out hd); have f2 := blk_cell (HLB.out.below HE.out).box 2; clear hd))
  all_goals go_wp2
  all_goals go_ret
  all_goals exact ⟨rfl, below_chain' HB.out HE.out⟩

def smallB (x : Int) : Bool := decide (-1000 ≤ x ∧ x ≤ 1000)
def litVB (x : Int) : Bool := decide (x ≠ 0 ∧ -65536 ≤ x ∧ x ≤ 65536)
theorem smallB_of {x : Int} (h : smallB x = true) : SmallC x := by unfold smallB at h; rw [decide_eq_true_eq] at h; exact h
theorem litVB_of {x : Int} (h : litVB x = true) : LitV x := by unfold litVB at h; rw [decide_eq_true_eq] at h; exact h
def lin_Value.f (C L : List Int) (k : Int) (a : List Bool) : Option Bool := if C.length = L.length ∧ L.length ≤ 4096 ∧ smallB k = true ∧ C.all smallB = true ∧ L.all litVB = true then some (decide (vfold a C L L.length ≥ k)) else none
theorem lin_Value.calls (A0_0 : Option Addr) (c0_0 : Nat) (l0_0 : List Int) (A0_1 : Option Addr) (c0_1 : Nat) (l0_1 : List Int) (a0_2 : Int) (A1 : Option Addr) (c1 : Nat) (l1 : List Bool) (r : Bool) (w : World) (hr0_0 : Kd.C (Kd.int .i64) w A0_0 l0_0.length l0_0) (hc0_0 : l0_0.length ≤ c0_0) (hr0_1 : Kd.C (Kd.int .i64) w A0_1 l0_1.length l0_1) (hc0_1 : l0_1.length ≤ c0_1) (hr1 : Kd.C Kd.bool w A1 l1.length l1) (hc1 : l1.length ≤ c1) (h : lin_Value.f l0_0 l0_1 a0_2 l1 = some r) :
    Calls Try.prog 26 #[.agg #[.slice A0_0 l0_0.length c0_0, .slice A0_1 l0_1.length c0_1, .int .i64 a0_2], .slice A1 l1.length c1] w fun e w' => e = .returned (.bool r) ∧ Below w.heap.size w w' := by
  unfold lin_Value.f at h
  split at h
  · rename_i hc
    obtain ⟨he, hl, hk, hC, hL⟩ := hc
    injection h with h
    subst h
    have h := lvalue_calls A1 c1 l1 A0_0 A0_1 c0_0 c0_1 l0_1.length l0_0 l0_1 a0_2 w hr1 (by rw [← he]; exact hr0_0) hr0_1 he rfl hl (smallB_of hk) (fun x hx => smallB_of (List.all_eq_true.1 hC x hx)) (fun x hx => litVB_of (List.all_eq_true.1 hL x hx))
    rw [he]
    exact h
  · cases h

#print axioms lin_Value.calls

end Go.Proofs.Ytpadmbpopjmdjaa.G
