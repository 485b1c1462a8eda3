/-
  cnf.Value: the walk, with slices.IndexFunc and slices.ContainsFunc over its closure; cnf.Value and cnf.Holds as the print wants them.
-/
import Derived.Test.YtidgljajegoffaaPGive
namespace Go.Proofs.Ytidgljajegoffaa.G
set_option linter.unusedVariables false
set_option linter.unusedSimpArgs false
open Go.RowKit Go.Proofs.YtidgljajegoffaaW.PrintWords Go.Proofs.YtidgljajegoffaaW.PrintLast Go.Proofs.YtidgljajegoffaaW.PrintMore

set_option maxHeartbeats 400000 in
theorem value1_calls (g : Nat) (A : Option Addr) (ca : Nat) (a : List Bool) (B : Option Addr) (cb : Nat) (l : List Int) (w : World) (h : HB g A ca a w) (hr : (Kd.int .i64).C w B l.length l) (hl : l.length ≤ 140737488355328) (hw : ∀ x ∈ l, (Lit.int .i64 x).wf = true) :
    Calls Try.prog 39 #[.slice B l.length cb, .pointer (some ⟨g, 0, none⟩)] w fun e w' => e = .returned (.bool (!(holdsB l a))) ∧ Below w.heap.size w w' := by
  have HC := Aside0.mk (fun W (hb : Below w.heap.size w W) => holds_calls A ca a B cb l W (h.below hb).row h.cap (Kd.C_below hr hb) hl hw)
  have hcell := blk_cell h.box 0
  clear h hr hw
  obtain ⟨b, hb⟩ : ∃ b, holdsB l a = b := ⟨_, rfl⟩
  rw [hb] at HC ⊢
  clear hb
  go_enter Try.func39, Try.ntmps39
  go_wp2_with ((go_at_call 32; refine (HC.out _ (Below.refl _ _)).mono ?_; rintro e w1 ⟨rfl, hd⟩; have HD := Aside0.mk hd; clear hd))
  go_ret
  exact ⟨rfl, HD.out⟩

set_option maxHeartbeats 1600000 in
theorem index_value (g : Nat) (Aa : Option Addr) (ca : Nat) (a : List Bool) (A : Option Addr) (cL : Nat) (L : List (List Int)) (w : World) (h : HB g Aa ca a w) (hr : KRows.C w A L.length L) (hl : ∀ l ∈ L, l.length ≤ 1000000) (hL : L.length ≤ 65536) (hw : ∀ l ∈ L, ∀ x ∈ l, (Lit.int .i64 x).wf = true) :
    Calls Try.prog 51 #[.slice A L.length cL, .func (.func 39) #[] #[.pointer (some ⟨g, 0, none⟩)]] w fun e w' => ∃ r : Int, e = .returned (.int .i64 r) ∧ (decide (0 ≤ r) = L.any (fun l => !(holdsB l a))) ∧ Below w.heap.size w w' := by
  have HH := Aside0.mk h
  have HR := Aside0.mk hr
  have HW := Aside0.mk hw
  have HL := Aside0.mk hl
  clear h hr hw hl
  go_enter Try.func51, Try.ntmps51
  go_wp2
  go_loopg [8] L.length (fun kq v8 wr => ∃ i : Nat, i ≤ L.length ∧ v8 = .int .i64 i ∧ Aside0 (kq + i = L.length) ∧ Aside0 (Below w.heap.size w wr) ∧ Aside0 ((L.take i).any (fun l => !(holdsB l a)) = false))
  case atStart => exact ⟨0, by omega, rfl, ⟨by omega⟩, ⟨Below.refl _ _⟩, ⟨by simp⟩⟩
  case round =>
    obtain ⟨i, hi, rfl, HN, HB, HA⟩ := hrel
    by_cases hlt : i < L.length
    · obtain ⟨ad, A0, c0, e0, hcell, hl0, hrow⟩ := at_rows (Kd.C_below HR.out HB.out) i hlt
      cases e0
      have hmem : L.getD i [] ∈ L := by simp [List.getD_eq_getElem?_getD, hlt]
      have HC := Aside0.mk (value1_calls g Aa ca a A0 c0 (L.getD i []) wr (HH.out.below HB.out) hrow (by have := HL.out _ hmem; omega) (HW.out _ hmem))
      obtain ⟨l, hle⟩ : ∃ l, L.getD i [] = l := ⟨_, rfl⟩
      rw [hle] at hcell HC
      have HX := Aside0.mk hle
      clear hle hrow hmem hl0
      obtain ⟨b, hb⟩ : ∃ b, (!(holdsB l a)) = b := ⟨_, rfl⟩
      rw [hb] at HC
      have HBB := Aside0.mk hb
      clear hb
      cases b with
      | true =>
        go_wp2_with ((go_at_call 39; refine HC.out.mono ?_; rintro e w1 ⟨rfl, hd⟩; have HD := Aside0.mk (below_chain' HB.out hd); clear hd))
        go_ret
        exact ⟨_, rfl, by rw [any_getD hlt (by rw [HX.out]; exact HBB.out)]; simp, HD.out⟩
      | false =>
        go_wp2_with ((go_at_call 39; refine HC.out.mono ?_; rintro e w1 ⟨rfl, hd⟩; have HD := Aside0.mk (below_chain' HB.out hd); clear hd))
        go_roundg (gk - 1)
        case measure => have := HN.out; omega
        case rel => exact ⟨i + 1, by omega, by go_num, ⟨by have := HN.out; omega⟩, HD, ⟨take_any hlt HA.out (by rw [HX.out]; exact HBB.out)⟩⟩
    · have hii : i = L.length := by omega
      have h1 := HA.out
      rw [hii, List.take_length] at h1
      have H1 := Aside0.mk h1
      clear h1
      go_wp2
      go_ret
      exact ⟨_, rfl, by rw [H1.out]; simp, HB.out⟩

set_option maxHeartbeats 800000 in
theorem contains_value (g : Nat) (Aa : Option Addr) (ca : Nat) (a : List Bool) (A : Option Addr) (cL : Nat) (L : List (List Int)) (w : World) (h : HB g Aa ca a w) (hr : KRows.C w A L.length L) (hl : ∀ l ∈ L, l.length ≤ 1000000) (hL : L.length ≤ 65536) (hw : ∀ l ∈ L, ∀ x ∈ l, (Lit.int .i64 x).wf = true) :
    Calls Try.prog 40 #[.slice A L.length cL, .func (.func 39) #[] #[.pointer (some ⟨g, 0, none⟩)]] w fun e w' => e = .returned (.bool (L.any (fun l => !(holdsB l a)))) ∧ Below w.heap.size w w' := by
  have HC := Aside0.mk (index_value g Aa ca a A cL L w h hr hl hL hw)
  clear h hr hw hl
  go_enter Try.func40, Try.ntmps40
  go_wp2_with ((go_at_call 51; refine HC.out.mono ?_; rintro e w1 ⟨r, rfl, hr, hd⟩; have HD := Aside0.mk hd; have HV := Aside0.mk hr; clear hd hr))
  go_ret
  exact ⟨by rw [← HV.out]; rfl, HD.out⟩

/-- What cnf.Value answers. -/
def valueB (n : Int) (L : List (List Int)) (a : List Bool) : Bool := if checkB n L = 0 then !(L.any (fun l => !(holdsB l a))) else false

set_option maxHeartbeats 1600000 in
theorem value_calls (n : Int) (A : Option Addr) (cL : Nat) (L : List (List Int)) (Aa : Option Addr) (ca : Nat) (a : List Bool) (w : World) (hr : KRows.C w A L.length L) (hc : L.length ≤ cL) (hok : okC L = true) (ha : Kd.bool.C w Aa a.length a) (hca : a.length ≤ ca) :
    Calls Try.prog 15 #[.agg #[.int .i64 n, .slice A L.length cL], .slice Aa a.length ca] w fun e w' => e = .returned (.bool (valueB n L a)) ∧ Below w.heap.size w w' := by
  obtain ⟨o1, o2, o3⟩ := okC_mem hok
  have hb1 := below_alloc (Below.refl w.heap.size w) (Obj.cells #[.int .i64 n, .slice A L.length cL] 24)
  have hb2 := below_alloc hb1 (Obj.cells #[.slice Aa a.length ca] 25)
  obtain ⟨wb, hwb⟩ : ∃ wb, (w.alloc (Obj.cells #[.int .i64 n, .slice A L.length cL] 24)).alloc (Obj.cells #[.slice Aa a.length ca] 25) = wb := ⟨_, rfl⟩
  have hcb : CB w.heap.size n (.slice A L.length cL) wb := by
    rw [← hwb]
    exact (show CB w.heap.size n (.slice A L.length cL) (w.alloc (Obj.cells #[.int .i64 n, .slice A L.length cL] 24)) from ⟨blk_new w _⟩).below (below_alloc (Below.refl _ _) _)
  have hhb : HB (w.heap.size + 1) Aa ca a wb := by
    refine ⟨?_, ?_, hca⟩
    · rw [← hwb]
      have := blk_new (w.alloc (Obj.cells #[.int .i64 n, .slice A L.length cL] 24)) (Obj.cells #[.slice Aa a.length ca] 25)
      simpa using this
    · rw [← hwb]; exact Kd.C_below ha hb2
  rw [hwb] at hb2
  have d0 := blk_cell hcb.box 0
  have d1 := blk_cell hcb.box 1
  have HCB := Aside0.mk hcb
  have HHB := Aside0.mk hhb
  have HB0 := Aside0.mk hb2
  have HR := Aside0.mk (Kd.C_below hr hb2)
  have HK := Aside0.mk (cnfcheck_calls n A cL L wb (Kd.C_below hr hb2) hc hok)
  have HC := Aside0.mk (fun W (hb : Below wb.heap.size wb W) => contains_value (w.heap.size + 1) Aa ca a A cL L W (hhb.below hb) (Kd.C_below (Kd.C_below hr hb2) hb) o2 o1 o3)
  clear hr ha hb1 hb2 hcb hhb o2 o3 hok
  unfold valueB
  by_cases h0 : checkB n L = 0
  · rw [if_pos h0]
    rw [h0] at HK
    clear h0
    obtain ⟨b, hb⟩ : ∃ b, L.any (fun l => !(holdsB l a)) = b := ⟨_, rfl⟩
    rw [hb] at HC ⊢
    clear hb
    go_enter Try.func15, Try.ntmps15
    go_wp2_with (first | (go_at_call 13; refine HK.out.mono ?_; rintro e w1 ⟨rfl, hd⟩; have HD := Aside0.mk hd; have d2 := blk_cell (HCB.out.below hd).box 1; clear hd) | (go_at_call 40; refine (HC.out _ HD.out).mono ?_; rintro e w2 ⟨rfl, hd⟩; have HE := Aside0.mk (below_chain' HD.out hd); clear hd))
    go_ret
    exact ⟨rfl, below_chain' HB0.out HE.out⟩
  · rw [if_neg h0]
    obtain ⟨r, hr⟩ : ∃ r, checkB n L = r := ⟨_, rfl⟩
    rw [hr] at HK h0
    clear hr
    go_enter Try.func15, Try.ntmps15
    go_wp2_with ((go_at_call 13; refine HK.out.mono ?_; rintro e w1 ⟨rfl, hd⟩; have HD := Aside0.mk hd; clear hd))
    go_ret
    exact ⟨rfl, below_chain' HB0.out HD.out⟩

def cnf_Value.f (n : Int) (L : List (List Int)) (a : List Bool) : Option Bool := if okC L = true then some (valueB n L a) else none
theorem cnf_Value.calls (a0_0 : Int) (A0_1 : Option Addr) (c0_1 : Nat) (l0_1 : List (List Int)) (A1 : Option Addr) (c1 : Nat) (l1 : List Bool) (r : Bool) (w : World) (hr0_1 : Kd.C (Kd.slice 3 (Kd.int .i64)) w A0_1 l0_1.length l0_1) (hc0_1 : l0_1.length ≤ c0_1) (hr1 : Kd.C Kd.bool w A1 l1.length l1) (hc1 : l1.length ≤ c1) (h : cnf_Value.f a0_0 l0_1 l1 = some r) :
    Calls Try.prog 15 #[.agg #[.int .i64 a0_0, .slice A0_1 l0_1.length c0_1], .slice A1 l1.length c1] w fun e w' => e = .returned (.bool r) ∧ Below w.heap.size w w' := by
  unfold cnf_Value.f at h
  split at h
  · rename_i hc
    have := Option.some.inj h
    subst this
    exact value_calls a0_0 A0_1 c0_1 l0_1 A1 c1 l1 w hr0_1 hc0_1 hc hr1 hc1
  · cases h

def cnf_Holds.f (l : List Int) (a : List Bool) : Option Bool := if l.length ≤ 1000000 ∧ wfL l = true then some (holdsB l a) else none
theorem cnf_Holds.calls (A0 : Option Addr) (c0 : Nat) (l0 : List Int) (A1 : Option Addr) (c1 : Nat) (l1 : List Bool) (r : Bool) (w : World) (hr0 : Kd.C (Kd.int .i64) w A0 l0.length l0) (hc0 : l0.length ≤ c0) (hr1 : Kd.C Kd.bool w A1 l1.length l1) (hc1 : l1.length ≤ c1) (h : cnf_Holds.f l0 l1 = some r) :
    Calls Try.prog 32 #[.slice A0 l0.length c0, .slice A1 l1.length c1] w fun e w' => e = .returned (.bool r) ∧ Below w.heap.size w w' := by
  unfold cnf_Holds.f at h
  split at h
  · rename_i hc
    injection h with h
    subst h
    exact holds_calls A1 c1 l1 A0 c0 l0 w hr1 hc1 hr0 (by omega) (wfL_mem hc.2)
  · cases h

#print axioms cnf_Value.calls
#print axioms cnf_Holds.calls
end Go.Proofs.Ytidgljajegoffaa.G
