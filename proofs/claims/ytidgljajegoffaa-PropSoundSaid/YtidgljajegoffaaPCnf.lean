/-
  cnf.Check: the walk, with slices.IndexFunc and slices.ContainsFunc over its closure.
-/
import Derived.Test.YtidgljajegoffaaPHolds
namespace Go.Proofs.Ytidgljajegoffaa.G
set_option linter.unusedVariables false
set_option linter.unusedSimpArgs false
open Go.RowKit Go.Proofs.YtidgljajegoffaaW.PrintWords Go.Proofs.YtidgljajegoffaaW.PrintLast Go.Proofs.YtidgljajegoffaaW.PrintMore
attribute [local go_sem] max2_int min2_int max_two min_two max_three min_three max_four min_four

/-- Is x a literal of one of the variables 1 to n? -/
def mayB (n x : Int) : Bool := (QSmall.cnf_lit_may.f x n).getD false
theorem mayB_some (n x : Int) : QSmall.cnf_lit_may.f x n = some (mayB n x) := by
  unfold mayB QSmall.cnf_lit_may.f
  split
  · rfl
  · split <;> rfl

/-- c in the variable that the closure has caught. -/
structure CB (g : Nat) (n : Int) (v : Value) (w : World) : Prop where
  box : w.heap[g]? = some (.cells #[.int .i64 n, v] 24 (0, 0))
theorem CB.below {g : Nat} {n : Int} {v : Value} {w w' : World} (h : CB g n v w) (hb : Below w.heap.size w w') : CB g n v w' := ⟨blk_below h.box hb⟩

set_option maxHeartbeats 400000 in
theorem check1_calls (g : Nat) (n : Int) (v : Value) (x : Int) (w : World) (h : CB g n v w) :
    Calls Try.prog 34 #[.int .i64 x, .pointer (some ⟨g, 0, none⟩)] w fun e w' => e = .returned (.bool (!(mayB n x))) ∧ Below w.heap.size w w' := by
  have HC := Aside0.mk (fun W => QSmall.cnf_lit_may.calls x n _ W (mayB_some n x))
  have hcell := blk_cell h.box 0
  clear h
  obtain ⟨b, hb⟩ : ∃ b, mayB n x = b := ⟨_, rfl⟩
  rw [hb] at HC ⊢
  clear hb
  go_enter Try.func34, Try.ntmps34
  go_wp2_with ((go_at_call 35; refine (HC.out _).mono ?_; rintro e w1 ⟨rfl, hd⟩; have HD := Aside0.mk hd.below; clear hd))
  go_ret
  exact ⟨rfl, HD.out⟩

set_option maxHeartbeats 800000 in
theorem index_check (g : Nat) (n : Int) (v : Value) (B : Option Addr) (cb : Nat) (l : List Int) (w : World) (h : CB g n v w) (hr : (Kd.int .i64).C w B l.length l) (hl : l.length ≤ 140737488355328) (hw : ∀ x ∈ l, (Lit.int .i64 x).wf = true) :
    Calls Try.prog 49 #[.slice B l.length cb, .func (.func 34) #[] #[.pointer (some ⟨g, 0, none⟩)]] w fun e w' => ∃ r : Int, e = .returned (.int .i64 r) ∧ (decide (0 ≤ r) = l.any (fun x => !(mayB n x))) ∧ Below w.heap.size w w' := by
  have HH := Aside0.mk h
  have HR := Aside0.mk hr
  have HW := Aside0.mk hw
  clear h hr hw
  go_enter Try.func49, Try.ntmps49
  go_wp2
  go_loopg [8] l.length (fun kq v8 wr => ∃ i : Nat, i ≤ l.length ∧ v8 = .int .i64 i ∧ Aside0 (kq + i = l.length) ∧ Aside0 (Below w.heap.size w wr) ∧ Aside0 ((l.take i).any (fun x => !(mayB n x)) = false))
  case atStart => exact ⟨0, by omega, rfl, ⟨by omega⟩, ⟨Below.refl _ _⟩, ⟨by simp⟩⟩
  case round =>
    obtain ⟨i, hi, rfl, HN, HB, HA⟩ := hrel
    by_cases hlt : i < l.length
    · obtain ⟨ad, e0, hcell⟩ := Kd.at_int (Kd.C_below HR.out HB.out) (i : Int) (by omega) (by omega)
      cases e0
      obtain ⟨x, hx⟩ : ∃ x, l.getD i 0 = x := ⟨_, rfl⟩
      rw [show rd l (i : Int) = x from by simpa [rd] using hx, Int.toNat_natCast] at hcell
      have hxw : (Lit.int .i64 x).wf = true := HW.out x (by rw [← hx]; simp [List.getD_eq_getElem?_getD, hlt])
      have HC := Aside0.mk (fun W (hb : Below w.heap.size w W) => check1_calls g n v x W (HH.out.below hb))
      have HX := Aside0.mk hx
      clear hxw hx
      obtain ⟨b, hb⟩ : ∃ b, (!(mayB n x)) = b := ⟨_, rfl⟩
      rw [hb] at HC
      have HBB := Aside0.mk hb
      clear hb
      cases b with
      | true =>
        go_wp2_with ((go_at_call 34; refine (HC.out _ HB.out).mono ?_; rintro e w1 ⟨rfl, hd⟩; have HD := Aside0.mk (below_chain' HB.out hd); clear hd))
        go_ret
        exact ⟨_, rfl, by rw [any_of_getD hlt (by rw [HX.out]; exact HBB.out)]; simp, HD.out⟩
      | false =>
        go_wp2_with ((go_at_call 34; refine (HC.out _ HB.out).mono ?_; rintro e w1 ⟨rfl, hd⟩; have HD := Aside0.mk (below_chain' HB.out hd); clear hd))
        go_roundg (gk - 1)
        case measure => have := HN.out; omega
        case rel => exact ⟨i + 1, by omega, by go_num, ⟨by have := HN.out; omega⟩, HD, ⟨take_all hlt HA.out (by rw [HX.out]; exact HBB.out)⟩⟩
    · have hii : i = l.length := by omega
      have h1 := HA.out
      rw [hii, List.take_length] at h1
      have H1 := Aside0.mk h1
      clear h1
      go_wp2
      go_ret
      exact ⟨_, rfl, by rw [H1.out]; simp, HB.out⟩

set_option maxHeartbeats 800000 in
theorem contains_check (g : Nat) (n : Int) (v : Value) (B : Option Addr) (cb : Nat) (l : List Int) (w : World) (h : CB g n v w) (hr : (Kd.int .i64).C w B l.length l) (hl : l.length ≤ 140737488355328) (hw : ∀ x ∈ l, (Lit.int .i64 x).wf = true) :
    Calls Try.prog 33 #[.slice B l.length cb, .func (.func 34) #[] #[.pointer (some ⟨g, 0, none⟩)]] w fun e w' => e = .returned (.bool (l.any (fun x => !(mayB n x)))) ∧ Below w.heap.size w w' := by
  have HC := Aside0.mk (index_check g n v B cb l w h hr hl hw)
  clear h hr hw
  go_enter Try.func33, Try.ntmps33
  go_wp2_with ((go_at_call 49; refine HC.out.mono ?_; rintro e w1 ⟨r, rfl, hr, hd⟩; have HD := Aside0.mk hd; have HV := Aside0.mk hr; clear hd hr))
  go_ret
  exact ⟨by rw [← HV.out]; rfl, HD.out⟩


/-- What cnf.Check answers. -/
def checkB (n : Int) (L : List (List Int)) : Int := if n < 0 ∨ 65536 < n then 1 else if L.any (fun l => l.any (fun x => !(mayB n x))) = true then 1 else if 65536 < L.length then 2 else 0

theorem take_any {p : List Int → Bool} {L : List (List Int)} {i : Nat} (h : i < L.length) (h1 : (L.take i).any p = false) (h2 : p (L.getD i []) = false) : (L.take (i + 1)).any p = false := by
  rw [List.take_succ_eq_append_getElem h, List.any_append, h1]
  simpa [List.getD_eq_getElem?_getD, h] using h2
theorem any_getD {p : List Int → Bool} {L : List (List Int)} {i : Nat} (h : i < L.length) (h2 : p (L.getD i []) = true) : L.any p = true := by
  rw [List.any_eq_true]
  exact ⟨L.getD i [], by simp [List.getD_eq_getElem?_getD, h], h2⟩

set_option maxHeartbeats 1600000 in
theorem check_calls (n : Int) (A : Option Addr) (cL : Nat) (L : List (List Int)) (w : World) (hr : KRows.C w A L.length L) (hc : L.length ≤ cL) (hl : ∀ l ∈ L, l.length ≤ 1000000) (hL : L.length ≤ 65536) (h1 : ¬ (n < 0 ∨ 65536 < n)) (hw : ∀ l ∈ L, ∀ x ∈ l, (Lit.int .i64 x).wf = true) :
    Calls Try.prog 13 #[.agg #[.int .i64 n, .slice A L.length cL]] w fun e w' => e = .returned (.int .i64 (checkB n L)) ∧ Below w.heap.size w w' := by
  have hb0 := below_alloc (Below.refl w.heap.size w) (Obj.cells #[.int .i64 n, .slice A L.length cL] 24)
  obtain ⟨wb, hwb⟩ : ∃ wb, w.alloc (Obj.cells #[.int .i64 n, .slice A L.length cL] 24) = wb := ⟨_, rfl⟩
  have hcb : CB w.heap.size n (.slice A L.length cL) wb := ⟨by rw [← hwb]; exact blk_new w _⟩
  rw [hwb] at hb0
  have HB0 := Aside0.mk hb0
  have HCB := Aside0.mk hcb
  have d0 := blk_cell hcb.box 0
  have d1 := blk_cell hcb.box 1
  have HR := Aside0.mk (Kd.C_below hr hb0)
  have HW := Aside0.mk hw
  have HL := Aside0.mk hl
  have hn0 : 0 ≤ n := by omega
  have hn1 : n ≤ 65536 := by omega
  clear hr hw hl hb0 hcb
  go_enter Try.func13, Try.ntmps13
  go_wp2
  clear hwb d0 d1
  obtain ⟨g, hg⟩ : ∃ g, w.heap.size = g := ⟨_, rfl⟩
  rw [hg] at HCB ⊢
  clear hg
  go_loopg [16] L.length (fun kq v16 wr => ∃ i : Nat, i ≤ L.length ∧ v16 = .int .i64 i ∧ Aside0 (kq + i = L.length) ∧ Aside0 (Below wb.heap.size wb wr) ∧ Aside0 ((L.take i).any (fun l => l.any (fun x => !(mayB n x))) = false))
  case atStart => exact ⟨0, by omega, rfl, ⟨by omega⟩, ⟨Below.refl _ _⟩, ⟨by simp⟩⟩
  case round =>
    obtain ⟨i, hi, rfl, HN, HB, HA⟩ := hrel
    by_cases hlt : i < L.length
    · obtain ⟨ad, A0, c0, e0, hcell, hl0, hrow⟩ := at_rows (Kd.C_below HR.out HB.out) i hlt
      cases e0
      have hmem : L.getD i [] ∈ L := by simp [List.getD_eq_getElem?_getD, hlt]
      have HC := Aside0.mk (contains_check g n _ A0 c0 (L.getD i []) wr (HCB.out.below HB.out) hrow (by have := HL.out _ hmem; omega) (HW.out _ hmem))
      obtain ⟨l, hle⟩ : ∃ l, L.getD i [] = l := ⟨_, rfl⟩
      rw [hle] at hcell HC
      have HX := Aside0.mk hle
      clear hle hrow hmem hl0
      obtain ⟨b, hb⟩ : ∃ b, l.any (fun x => !(mayB n x)) = b := ⟨_, rfl⟩
      rw [hb] at HC
      have HBB := Aside0.mk hb
      clear hb
      cases b with
      | true =>
        go_wp2_with ((go_at_call 33; refine HC.out.mono ?_; rintro e w1 ⟨rfl, hd⟩; have HD := Aside0.mk (below_chain' HB.out hd); clear hd))
        go_ret
        refine ⟨?_, below_chain' HB0.out HD.out⟩
        have : L.any (fun l => l.any (fun x => !(mayB n x))) = true := any_getD hlt (by rw [HX.out]; exact HBB.out)
        unfold checkB
        rw [if_neg h1, if_pos this]
        rfl
      | false =>
        go_wp2_with ((go_at_call 33; refine HC.out.mono ?_; rintro e w1 ⟨rfl, hd⟩; have HD := Aside0.mk (below_chain' HB.out hd); clear hd))
        go_roundg (gk - 1)
        case measure => have := HN.out; omega
        case rel => exact ⟨i + 1, by omega, by go_num, ⟨by have := HN.out; omega⟩, HD, ⟨take_any hlt HA.out (by rw [HX.out]; exact HBB.out)⟩⟩
    · have hii : i = L.length := by omega
      have h2 := HA.out
      rw [hii, List.take_length] at h2
      have H2 := Aside0.mk h2
      clear h2
      have hcell := blk_cell (HCB.out.below HB.out).box 1
      go_wp2
      go_ret
      refine ⟨?_, below_chain' HB0.out HB.out⟩
      unfold checkB
      rw [if_neg h1, if_neg (by rw [H2.out]; decide), if_neg (by omega)]
      rfl

#print axioms check_calls

end Go.Proofs.Ytidgljajegoffaa.G
