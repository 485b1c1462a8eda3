/-
  prop: truths.step and known, slices.Contains, engine.look: the walks.
-/
import Derived.Test.YtidgljajegoffaaPMap
import Derived.Test.YtidgljajegoffaaPBase
import Derived.Test.YtidgljajegoffaaWGuard
import Derived.Test.YtidgljajegoffaaWRepsOne
import Derived.Outline
import Derived.Deep.DeepMust
import Derived.Deep.LoopGhost
import Derived.WalkKit
namespace Go.Proofs.Ytidgljajegoffaa.G
set_option linter.unusedVariables false
set_option linter.unusedSimpArgs false
open Go.RowKit Go.Proofs.YtidgljajegoffaaW.PrintWords Go.Proofs.YtidgljajegoffaaW.PrintLast Go.Proofs.YtidgljajegoffaaW.PrintMore

/-- A literal in reach. -/
def LitP (x : Int) : Prop := x ≠ 0 ∧ -65536 ≤ x ∧ x ≤ 65536
theorem LitP.wf {x : Int} (h : LitP x) : (Lit.int .i64 x).wf = true := by obtain ⟨_, h1, h2⟩ := h; exact WalkArith.wf_i64 (by omega)
theorem LitP.neg {x : Int} (h : LitP x) : LitP (-x) := by obtain ⟨h0, h1, h2⟩ := h; exact ⟨by omega, by omega, by omega⟩

/-- The truths: a map in block tb. -/
abbrev TM (w : World) (tb n : Nat) (T : Int → Bool) : Prop := BMap Try.prog 3 4 w tb n T

/-- A literal made true. -/
def updT (T : Int → Bool) (x : Int) : Int → Bool := fun y => if y = x then true else T y

theorem step_calls (tb n : Nat) (T : Int → Bool) (x : Int) (w : World) (h : TM w tb n T) (hn : n < maxLen) (hx : (Lit.int .i64 x).wf = true) :
    Calls Try.prog 37 #[.map (some tb), .int .i64 x] w fun e w' => e = .returned (.tuple #[]) ∧ TM w' tb (n + 1) (updT T x) ∧ w.grownBy w' (some tb) := by
  have HT := Aside0.mk h
  clear h
  go_enter Try.func37, Try.ntmps37
  go_wp2_with (at_mapUpdate; refine wpList_put_bool _ rfl _ _ _ 57 rfl 3 4 Try.underlying3 Try.underlying57 Try.underlying4 tb n T rfl HT.out hn x rfl hx true rfl ?_; intro w2 hb2 hg2; have HB2 := Aside0.mk (show TM w2 tb (n + 1) (updT T x) from hb2); have HG2 := Aside0.mk hg2; clear hb2 hg2)
  go_end0
  exact ⟨rfl, HB2.out, HG2.out⟩

theorem known_calls (tb n : Nat) (T : Int → Bool) (x : Int) (w : World) (h : TM w tb n T) (hx : LitP x) :
    Calls Try.prog 41 #[.map (some tb), .int .i64 x] w fun e w' => e = .returned (.bool (T x || T (-x))) ∧ w' = w := by
  have hw1 := hx.wf
  have hw2 := hx.neg.wf
  have hneg : wrap64 (-x) = -x := by obtain ⟨_, h1, h2⟩ := hx; unfold wrap64; omega
  have l1 := fun (W : World) (hW : TM W tb n T) => hW.look (t := 57) Try.underlying3 Try.underlying57 Try.underlying4 (zeroB _) x hw1
  have l2 := fun (W : World) (hW : TM W tb n T) => hW.look (t := 57) Try.underlying3 Try.underlying57 Try.underlying4 (zeroB _) (-x) hw2
  have e1 := l1 w h
  have e2 := l2 w h
  clear l1 l2 h hw1 hw2
  obtain ⟨b1, hb1⟩ : ∃ b, T x = b := ⟨_, rfl⟩
  obtain ⟨b2, hb2⟩ : ∃ b, T (-x) = b := ⟨_, rfl⟩
  rw [hb1] at e1 ⊢
  rw [hb2] at e2 ⊢
  obtain ⟨h0, h1, h2⟩ := hx
  clear hb1 hb2
  cases b1
  all_goals go_enter Try.func41, Try.ntmps41
  all_goals go_wp2
  all_goals go_ret
  all_goals exact ⟨rfl, rfl⟩

theorem index_calls (B : Option Addr) (cb : Nat) (l : List Int) (x : Int) (w : World) (hr : (Kd.int .i64).C w B l.length l) (hl : l.length ≤ 140737488355328) :
    Calls Try.prog 52 #[.slice B l.length cb, .int .i64 x] w fun e w' => ∃ r : Int, e = .returned (.int .i64 r) ∧ (decide (0 ≤ r) = l.contains x) ∧ w' = w := by
  have HR := Aside0.mk hr
  clear hr
  go_enter Try.func52, Try.ntmps52
  go_wp2
  go_loopg [8] l.length (fun kq v8 wr => ∃ i : Nat, i ≤ l.length ∧ v8 = .int .i64 i ∧ Aside0 (kq + i = l.length) ∧ Aside0 (w = wr) ∧ Aside0 ((l.take i).contains x = false))
  case atStart => exact ⟨0, by omega, rfl, ⟨by omega⟩, ⟨rfl⟩, ⟨by simp⟩⟩
  case round =>
    obtain ⟨i, hi, rfl, HN, HB, HA⟩ := hrel
    obtain rfl := HB.out
    by_cases hlt : i < l.length
    · obtain ⟨ad, e0, hcell⟩ := Kd.at_int HR.out (i : Int) (by omega) (by omega)
      cases e0
      obtain ⟨y, hy⟩ : ∃ y, l.getD i 0 = y := ⟨_, rfl⟩
      rw [show rd l (i : Int) = y from by simpa [rd] using hy, Int.toNat_natCast] at hcell
      have hyi : l[i] = y := by rw [← hy]; simp [List.getD_eq_getElem?_getD, hlt]
      have HY := Aside0.mk hyi
      clear hy hyi
      by_cases hxy : x = y
      · go_wp2
        go_ret
        refine ⟨_, rfl, ?_, rfl⟩
        have hm : x ∈ l := by rw [hxy, ← HY.out]; exact List.getElem_mem _
        subst hxy
        simp [hm]
      · go_wp2
        go_roundg (gk - 1)
        case measure => have := HN.out; omega
        case rel => exact ⟨i + 1, by omega, by go_num, ⟨by have := HN.out; omega⟩, ⟨rfl⟩, ⟨by
          rw [List.take_succ_eq_append_getElem hlt, HY.out]
          have := HA.out
          simp only [List.contains_eq_mem, List.mem_append, List.mem_singleton, decide_eq_false_iff_not] at this ⊢
          rintro (h | h)
          · exact this h
          · exact hxy h⟩⟩
    · have hii : i = l.length := by omega
      have h1 := HA.out
      rw [hii, List.take_length] at h1
      have H1 := Aside0.mk h1
      clear h1
      go_wp2
      go_ret
      exact ⟨_, rfl, by have hm : ¬ x ∈ l := by simpa using H1.out
                        simp [hm], rfl⟩

theorem scontains_calls (B : Option Addr) (cb : Nat) (l : List Int) (x : Int) (w : World) (hr : (Kd.int .i64).C w B l.length l) (hl : l.length ≤ 140737488355328) :
    Calls Try.prog 43 #[.slice B l.length cb, .int .i64 x] w fun e w' => e = .returned (.bool (l.contains x)) ∧ w' = w := by
  have HC := Aside0.mk (index_calls B cb l x w hr hl)
  clear hr
  go_enter Try.func43, Try.ntmps43
  go_wp2_with ((go_at_call 52; refine HC.out.mono ?_; rintro e w1 ⟨r, rfl, hr, rfl⟩; have HV := Aside0.mk hr; clear hr))
  go_ret
  exact ⟨by rw [← HV.out]; rfl, rfl⟩

/-- The engine's own box. -/
structure EB (g tb wb : Nat) (Ac : Option Addr) (nc cc : Nat) (vo : Value) (hd : Int) (w : World) : Prop where
  box : w.heap[g]? = some (.cells #[.map (some tb), .slice Ac nc cc, .map (some wb), vo, .int .i64 hd] 61 (0, 0))
theorem EB.below {g tb wb : Nat} {Ac : Option Addr} {nc cc : Nat} {vo : Value} {hd : Int} {w w' : World} (h : EB g tb wb Ac nc cc vo hd w) (hb : Below w.heap.size w w') : EB g tb wb Ac nc cc vo hd w' := ⟨blk_below h.box hb⟩
theorem TM.below {w w' : World} {tb n : Nat} {T : Int → Bool} (h : TM w tb n T) (hb : Below w.heap.size w w') : TM w' tb n T := by
  obtain ⟨D, h1, h2⟩ := h
  refine ⟨D, ?_, h2⟩
  obtain ⟨es, clock, e1, e2⟩ := h1
  exact ⟨es, clock, (hb.block tb (Array.getElem?_eq_some_iff.1 e1).1).trans e1, e2⟩

/-- A slice of one number, made of a literal. -/
theorem lit_one (w0 w : World) (x : Int) (hb : Below w0.heap.size w0 w) : (Kd.int .i64).R 3 (w.alloc (.cells #[.int .i64 x] 3)) w0.heap.size (fun k => w0.heap.size ≤ k) (.slice (some ⟨w.heap.size, 0, none⟩) 1 1) [x] ∧ Below w0.heap.size w0 (w.alloc (.cells #[.int .i64 x] 3)) := by
  refine ⟨⟨fun k hk => ?_, [.int .i64 x], ?_, ?_⟩, hb.alloc hb.size _⟩
  · have : w.heap.size = k := by simpa [Value.ownBlock] using hk
    subst this
    exact hb.size
  · have h2 := World.ownsRow_lit (base := w0.heap.size) (e := 3) (size := 1) w #[.int .i64 x] 1 hb.size (by decide) (by simp)
    have h3 : (w.alloc (.cells #[.int .i64 x] 3)).ownsRow w0.heap.size 3 1 (.slice (some ⟨w.heap.size, 0, none⟩) 1 1) 1 [.int .i64 x] := by simpa using h2
    exact h3
  · exact Reps.one (show Kd.M (Kd.int .i64) _ _ _ x [.int .i64 x] from rfl) (Reps.none _ _)

/-- What look answers from the literals c on. -/
def lookF (T : Int → Bool) : List Int → List Int → List Int × Bool
  | [], o => (o, false)
  | x :: c, o => if T x = true then ([x], true) else if T (-x) = true then lookF T c o else if 2 ≤ o.length then lookF T c o else if o.contains x = true then lookF T c o else lookF T c (o ++ [x])

set_option maxHeartbeats 3200000 in
theorem look_calls (g tb wb : Nat) (Ac : Option Addr) (cc : Nat) (vo : Value) (hd : Int) (cs : List (List Int)) (nT : Nat) (T : Int → Bool) (i : Nat) (w : World) (h : EB g tb wb Ac cs.length cc vo hd w) (hT : TM w tb nT T) (hc : KRows.C w Ac cs.length cs) (hi : i < cs.length) (hx : ∀ x ∈ cs.getD i [], LitP x) (hl : (cs.getD i []).length ≤ 1000000) :
    Calls Try.prog 50 #[.pointer (some ⟨g, 0, none⟩), .int .i64 i] w fun e w' => ∃ v, e = .returned (.tuple #[v, .bool (lookF T (cs.getD i []) []).2]) ∧ (Kd.int .i64).R 3 w' w.heap.size (fun k => w.heap.size ≤ k) v (lookF T (cs.getD i []) []).1 ∧ Below w.heap.size w w' := by
  obtain ⟨ad, A0, c0, e0, hcell, hl0, hrow⟩ := at_rows hc i hi
  cases e0
  obtain ⟨c, hcq⟩ : ∃ c, cs.getD i [] = c := ⟨_, rfl⟩
  rw [hcq] at hx hl hcell hl0 hrow ⊢
  obtain ⟨r, hr⟩ : ∃ r, lookF T c [] = r := ⟨_, rfl⟩
  rw [hr]
  have HE := Aside0.mk h
  have HT := Aside0.mk hT
  have HX := Aside0.mk hx
  have HROW := Aside0.mk hrow
  have HRES := Aside0.mk hr
  have d1 := blk_cell h.box 1
  have hmi : (i : Int) < (cs.length : Int) := by omega
  clear h hT hx hrow hr hcq hc
  go_enter Try.func50, Try.ntmps50
  go_wp2
  clear hcell d1
  go_loopg [4, 16] c.length (fun kq v4 v16 wr => ∃ (j : Nat) (o : List Int), j ≤ c.length ∧ v16 = .int .i64 j ∧ Aside0 (kq + j = c.length) ∧ Aside0 (Below w.heap.size w wr) ∧ Aside0 ((Kd.int .i64).R 3 wr w.heap.size (fun k => w.heap.size ≤ k) v4 o) ∧ Aside0 (o.length ≤ 2) ∧ Aside0 (lookF T (c.drop j) o = r))
  case atStart => exact ⟨0, [], by omega, rfl, ⟨by omega⟩, ⟨Below.refl _ _⟩, ⟨Kd.R_nil _ _ _ _ _⟩, ⟨by simp⟩, ⟨by rw [List.drop_zero]; exact HRES.out⟩⟩
  case round =>
    obtain ⟨j, o, hj, rfl, HN, HB, HO, HL, HA⟩ := hrel
    by_cases hlt : j < c.length
    · obtain ⟨ad2, e2, hcell⟩ := Kd.at_int (Kd.C_below HROW.out HB.out) (j : Int) (by omega) (by omega)
      cases e2
      obtain ⟨x, hx⟩ : ∃ x, c.getD j 0 = x := ⟨_, rfl⟩
      rw [show rd c (j : Int) = x from by simpa [rd] using hx, Int.toNat_natCast] at hcell
      have hxl : LitP x := HX.out x (by rw [← hx]; simp [List.getD_eq_getElem?_getD, hlt])
      have hres := HA.out
      rw [drop_rd hlt, hx] at hres
      have hlen := HL.out
      have d0 := blk_cell (HE.out.below HB.out).box 0
      have hTw : TM wr tb nT T := HT.out.below HB.out
      have hw1 := hxl.wf
      have hw2 := hxl.neg.wf
      have e1 := hTw.look (t := 57) Try.underlying3 Try.underlying57 Try.underlying4 (zeroB _) x hw1
      have e3 := hTw.look (t := 57) Try.underlying3 Try.underlying57 Try.underlying4 (zeroB _) (-x) hw2
      obtain ⟨b1, hb1⟩ : ∃ b, T x = b := ⟨_, rfl⟩
      obtain ⟨b2, hb2⟩ : ∃ b, T (-x) = b := ⟨_, rfl⟩
      unfold lookF at hres
      rw [hb1] at e1 hres
      rw [hb2] at e3 hres
      obtain ⟨x0, x1, x2⟩ := hxl
      clear hb1 hb2 hTw hw1 hw2 hx
      cases b1 with
      | true =>
        rw [if_pos rfl] at hres
        have HR := Aside0.mk hres
        clear hres e3
        have hlo := lit_one w wr x HB.out
        go_wp2
        go_ret2
        exact ⟨_, (by rw [← HR.out]; rfl), (by rw [← HR.out]; exact hlo.1), hlo.2⟩
      | false =>
        rw [if_neg (by decide)] at hres
        cases b2 with
        | true =>
          rw [if_pos rfl] at hres
          have HR := Aside0.mk hres
          clear hres
          go_wp2
          go_roundg (gk - 1)
          case measure => have := HN.out; omega
          case rel => exact ⟨j + 1, o, by omega, by go_num, ⟨by have := HN.out; omega⟩, HB, HO, HL, HR⟩
        | false =>
          rw [if_neg (by decide)] at hres
          obtain ⟨Ao, co, eo⟩ := Kd.R_slice HO.out
          subst eo
          by_cases h2 : 2 ≤ o.length
          · rw [if_pos h2] at hres
            have HR := Aside0.mk hres
            clear hres
            go_wp2
            go_roundg (gk - 1)
            case measure => have := HN.out; omega
            case rel => exact ⟨j + 1, o, by omega, by go_num, ⟨by have := HN.out; omega⟩, HB, HO, HL, HR⟩
          · rw [if_neg h2] at hres
            have HS := Aside0.mk (scontains_calls Ao co o x wr (Kd.R_reads' HO.out).2.2 (by omega))
            obtain ⟨b4, hb4⟩ : ∃ b, o.contains x = b := ⟨_, rfl⟩
            rw [hb4] at HS hres
            clear hb4
            cases b4 with
            | true =>
              rw [if_pos rfl] at hres
              have HR := Aside0.mk hres
              clear hres
              go_wp2_with ((go_at_call 43; refine HS.out.mono ?_; rintro e w1 ⟨rfl, rfl⟩))
              go_roundg (gk - 1)
              case measure => have := HN.out; omega
              case rel => exact ⟨j + 1, o, by omega, by go_num, ⟨by have := HN.out; omega⟩, HB, HO, HL, HR⟩
            | false =>
              rw [if_neg (by decide)] at hres
              have HR := Aside0.mk hres
              clear hres
              go_wp2_with (first | (go_at_call 43; refine HS.out.mono ?_; rintro e w1 ⟨rfl, rfl⟩) | ((with_reducible refine gate_dst (N := 52) rfl ?_); go_must (refine Kd.R_append (Kd.int .i64) (w0 := w) w.heap.size rfl _ _ 37 3 (.int .i64 0) 8 rfl Try.underlying37 infoT3 rfl (by decide) (by decide) (.slice Ao o.length co) o x [.int .i64 x] (fun k => w.heap.size ≤ k) (fun _ => False) rfl rfl rfl (fun _ h => h.elim) (fun k hk => Nat.le_trans HB.out.size hk) HO.out HB.out HB.out.size (by omega) ?_); intro v1 w1 ho hb hg hat; have HO1 := Aside0.mk ho; have HB1 := Aside0.mk hb; clear ho hb hg hat))
              go_roundg (gk - 1)
              case measure => have := HN.out; omega
              case rel => exact ⟨j + 1, o ++ [x], by omega, by go_num, ⟨by have := HN.out; omega⟩, HB1, HO1, ⟨by rw [List.length_append, List.length_singleton]; omega⟩, HR⟩
    · obtain rfl : j = c.length := by omega
      have h1 := HA.out
      rw [List.drop_length] at h1
      have H1 := Aside0.mk (show (o, false) = r from h1)
      clear h1
      go_wp2
      go_ret2
      exact ⟨_, (by rw [← H1.out]; rfl), (by rw [← H1.out]; exact HO.out), HB.out⟩

#print axioms step_calls
#print axioms known_calls
#print axioms scontains_calls
#print axioms look_calls

end Go.Proofs.Ytidgljajegoffaa.G
