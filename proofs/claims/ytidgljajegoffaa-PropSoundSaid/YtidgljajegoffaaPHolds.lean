/-
  cnf.Holds: the walk, with slices.IndexFunc and slices.ContainsFunc over its closure.
-/
import Derived.Test.YtidgljajegoffaaQSmallx1
import Derived.Test.YtidgljajegoffaaWGuard
import Derived.Test.YtidgljajegoffaaPBase
import Derived.Outline
import Derived.Deep.DeepMust
import Derived.Deep.LoopGhost
import Derived.WalkKit
namespace Go.Proofs.Ytidgljajegoffaa.G
set_option linter.unusedVariables false
set_option linter.unusedSimpArgs false
open Go.RowKit Go.Proofs.YtidgljajegoffaaW.PrintWords Go.Proofs.YtidgljajegoffaaW.PrintLast Go.Proofs.YtidgljajegoffaaW.PrintMore
attribute [local go_sem] max2_int min2_int max_two min_two max_three min_three max_four min_four

/-- Is the literal true under a? -/
def litB (a : List Bool) (x : Int) : Bool := (QSmall.cnf_lit_true.f x a).getD false
theorem litB_some {a : List Bool} {x : Int} (h : (Lit.int .i64 x).wf = true) : QSmall.cnf_lit_true.f x a = some (litB a x) := by
  have hmin : IntKind.i64.min = -9223372036854775808 := rfl
  have hmax : IntKind.i64.max = 9223372036854775807 := rfl
  simp only [Lit.wf, Bool.and_eq_true, decide_eq_true_eq] at h
  have : ∃ b, QSmall.cnf_lit_true.f x a = some b := by
    unfold QSmall.cnf_lit_true.f QSmall.cnf_lit_may.f QSmall.cnf_lit_of.f
    have e : wrap64 (-65536) = -65536 := by decide +kernel
    rw [e]
    by_cases h0 : x = 0
    · rw [if_pos h0]; exact ⟨_, rfl⟩
    rw [if_neg h0]
    by_cases h1 : -65536 ≤ x
    · rw [if_pos h1]
      simp only [Option.bind_some]
      by_cases h2 : x ≤ 65536
      · rw [if_pos (by simpa using h2)]
        have h3 : 0 ≤ mx x (wrap64 (-x)) := by unfold mx wrap64; split <;> omega
        repeat' split
        all_goals first | exact ⟨_, rfl⟩ | omega
      · rw [if_neg (by simpa using h2)]; exact ⟨_, rfl⟩
    · rw [if_neg h1]; exact ⟨_, rfl⟩
  obtain ⟨b, hb⟩ := this
  rw [hb]
  simp [litB, hb]


/-- a in the variable that the closure has caught. -/
structure HB (g : Nat) (A : Option Addr) (ca : Nat) (a : List Bool) (w : World) : Prop where
  box : w.heap[g]? = some (.cells #[.slice A a.length ca] 25 (0, 0))
  row : Kd.bool.C w A a.length a
  cap : a.length ≤ ca
theorem HB.below {g : Nat} {A : Option Addr} {ca : Nat} {a : List Bool} {w w' : World} (h : HB g A ca a w) (hb : Below w.heap.size w w') : HB g A ca a w' := ⟨blk_below h.box hb, Kd.C_below h.row hb, h.cap⟩

set_option maxHeartbeats 400000 in
theorem holds1_calls (g : Nat) (A : Option Addr) (ca : Nat) (a : List Bool) (x : Int) (w : World) (h : HB g A ca a w) (hx : (Lit.int .i64 x).wf = true) :
    Calls Try.prog 47 #[.int .i64 x, .pointer (some ⟨g, 0, none⟩)] w fun e w' => e = .returned (.bool (litB a x)) ∧ Below w.heap.size w w' := by
  have HC := Aside0.mk (fun W (hb : Below w.heap.size w W) => QSmall.cnf_lit_true.calls x A ca a _ W (h.below hb).row h.cap (litB_some hx))
  have hcell := blk_cell h.box 0
  clear h hx
  go_enter Try.func47, Try.ntmps47
  go_wp2_with ((go_at_call 48; refine (HC.out _ (Below.refl _ _)).mono ?_; rintro e w1 ⟨rfl, hd⟩; have HD := Aside0.mk hd; clear hd))
  go_ret
  exact ⟨rfl, HD.out⟩

theorem take_all {p : Int → Bool} {l : List Int} {i : Nat} (h : i < l.length) (h1 : (l.take i).any p = false) (h2 : p (l.getD i 0) = false) : (l.take (i + 1)).any p = false := by
  rw [List.take_succ_eq_append_getElem h, List.any_append, h1]
  simpa [List.getD_eq_getElem?_getD, h] using h2
theorem any_of_getD {p : Int → Bool} {l : List Int} {i : Nat} (h : i < l.length) (h2 : p (l.getD i 0) = true) : l.any p = true := by
  rw [List.any_eq_true]
  exact ⟨l.getD i 0, by simp [List.getD_eq_getElem?_getD, h], h2⟩

set_option maxHeartbeats 800000 in
theorem index_holds (g : Nat) (A : Option Addr) (ca : Nat) (a : List Bool) (B : Option Addr) (cb : Nat) (l : List Int) (w : World) (h : HB g A ca a w) (hr : (Kd.int .i64).C w B l.length l) (hl : l.length ≤ 140737488355328) (hw : ∀ x ∈ l, (Lit.int .i64 x).wf = true) :
    Calls Try.prog 49 #[.slice B l.length cb, .func (.func 47) #[] #[.pointer (some ⟨g, 0, none⟩)]] w fun e w' => ∃ r : Int, e = .returned (.int .i64 r) ∧ (decide (0 ≤ r) = l.any (litB a)) ∧ Below w.heap.size w w' := by
  have HH := Aside0.mk h
  have HR := Aside0.mk hr
  have HW := Aside0.mk hw
  clear h hr hw
  go_enter Try.func49, Try.ntmps49
  go_wp2
  go_loopg [8] l.length (fun kq v8 wr => ∃ i : Nat, i ≤ l.length ∧ v8 = .int .i64 i ∧ Aside0 (kq + i = l.length) ∧ Aside0 (Below w.heap.size w wr) ∧ Aside0 ((l.take i).any (litB a) = false))
  case atStart => exact ⟨0, by omega, rfl, ⟨by omega⟩, ⟨Below.refl _ _⟩, ⟨by simp⟩⟩
  case round =>
    obtain ⟨i, hi, rfl, HN, HB, HA⟩ := hrel
    by_cases hlt : i < l.length
    · obtain ⟨ad, e0, hcell⟩ := Kd.at_int (Kd.C_below HR.out HB.out) (i : Int) (by omega) (by omega)
      cases e0
      obtain ⟨x, hx⟩ : ∃ x, l.getD i 0 = x := ⟨_, rfl⟩
      rw [show rd l (i : Int) = x from by simpa [rd] using hx, Int.toNat_natCast] at hcell
      have hxw : (Lit.int .i64 x).wf = true := HW.out x (by rw [← hx]; simp [List.getD_eq_getElem?_getD, hlt])
      have HC := Aside0.mk (fun W (hb : Below w.heap.size w W) => holds1_calls g A ca a x W (HH.out.below hb) hxw)
      have HX := Aside0.mk hx
      clear hxw hx
      obtain ⟨b, hb⟩ : ∃ b, litB a x = b := ⟨_, rfl⟩
      rw [hb] at HC
      have HBB := Aside0.mk hb
      clear hb
      cases b with
      | true =>
        go_wp2_with ((go_at_call 47; refine (HC.out _ HB.out).mono ?_; rintro e w1 ⟨rfl, hd⟩; have HD := Aside0.mk (below_chain' HB.out hd); clear hd))
        go_ret
        exact ⟨_, rfl, by rw [any_of_getD hlt (by rw [HX.out]; exact HBB.out)]; simp, HD.out⟩
      | false =>
        go_wp2_with ((go_at_call 47; refine (HC.out _ HB.out).mono ?_; rintro e w1 ⟨rfl, hd⟩; have HD := Aside0.mk (below_chain' HB.out hd); clear hd))
        go_roundg (gk - 1)
        case measure => have := HN.out; omega
        case rel => exact ⟨i + 1, by omega, by go_num, ⟨by have := HN.out; omega⟩, HD, ⟨take_all hlt HA.out (by rw [HX.out]; exact HBB.out)⟩⟩
    · have hii : i = l.length := by omega
      have h1 := HA.out
      rw [hii, List.take_length] at h1
      have H1 := Aside0.mk h1
      clear h1
      go_wp2
      go_ret
      exact ⟨_, rfl, by rw [H1.out]; simp, HB.out⟩

set_option maxHeartbeats 800000 in
theorem contains_holds (g : Nat) (A : Option Addr) (ca : Nat) (a : List Bool) (B : Option Addr) (cb : Nat) (l : List Int) (w : World) (h : HB g A ca a w) (hr : (Kd.int .i64).C w B l.length l) (hl : l.length ≤ 140737488355328) (hw : ∀ x ∈ l, (Lit.int .i64 x).wf = true) :
    Calls Try.prog 33 #[.slice B l.length cb, .func (.func 47) #[] #[.pointer (some ⟨g, 0, none⟩)]] w fun e w' => e = .returned (.bool (l.any (litB a))) ∧ Below w.heap.size w w' := by
  have HC := Aside0.mk (index_holds g A ca a B cb l w h hr hl hw)
  clear h hr hw
  go_enter Try.func33, Try.ntmps33
  go_wp2_with ((go_at_call 49; refine HC.out.mono ?_; rintro e w1 ⟨r, rfl, hr, hd⟩; have HD := Aside0.mk hd; have HV := Aside0.mk hr; clear hd hr))
  go_ret
  exact ⟨by rw [← HV.out]; rfl, HD.out⟩

/-- Does the clause hold under a? -/
def holdsB (l : List Int) (a : List Bool) : Bool := l.any (litB a)

set_option maxHeartbeats 800000 in
theorem holds_calls (A : Option Addr) (ca : Nat) (a : List Bool) (B : Option Addr) (cb : Nat) (l : List Int) (w : World) (ha : Kd.bool.C w A a.length a) (hca : a.length ≤ ca) (hr : (Kd.int .i64).C w B l.length l) (hl : l.length ≤ 140737488355328) (hw : ∀ x ∈ l, (Lit.int .i64 x).wf = true) :
    Calls Try.prog 32 #[.slice B l.length cb, .slice A a.length ca] w fun e w' => e = .returned (.bool (holdsB l a)) ∧ Below w.heap.size w w' := by
  have hb := below_alloc (Below.refl w.heap.size w) (Obj.cells #[.slice A a.length ca] 25)
  have HC := Aside0.mk (contains_holds w.heap.size A ca a B cb l (w.alloc (Obj.cells #[.slice A a.length ca] 25)) ⟨blk_new w _, Kd.C_below ha hb, hca⟩ (Kd.C_below hr hb) hl hw)
  have HBB := Aside0.mk hb
  clear ha hr hw hb
  go_enter Try.func32, Try.ntmps32
  go_wp2_with ((go_at_call 33; refine HC.out.mono ?_; rintro e w1 ⟨rfl, hd⟩; have HD := Aside0.mk (below_chain' HBB.out hd); clear hd))
  go_ret
  exact ⟨rfl, HD.out⟩

#print axioms holds_calls

end Go.Proofs.Ytidgljajegoffaa.G
