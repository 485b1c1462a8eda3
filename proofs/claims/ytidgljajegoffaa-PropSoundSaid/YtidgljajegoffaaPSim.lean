/-
  prop.Prop: what it computes, in plain Lean; the engine at its start, and its head.
-/
import Derived.Test.YtidgljajegoffaaPVisit
import Derived.Test.YtidgljajegoffaaPClone
namespace Go.Proofs.Ytidgljajegoffaa.G
set_option linter.unusedVariables false
open Go.RowKit Go.Proofs.YtidgljajegoffaaW.PrintWords Go.Proofs.YtidgljajegoffaaW.PrintLast Go.Proofs.YtidgljajegoffaaW.PrintMore
open Go.Proofs.Ytidgljajegoffaa.QRef (S32 k32 k32_mkM rd_T32 at_T32 z32)

/-- Visits in a row: the first that fails ends them. -/
def visL (cs : List (List Int)) : List Int → PS → PS × Option Int
  | [], s => (s, none)
  | i :: l, s => if (vis cs s i).1 = true then visL cs l (vis cs s i).2 else ((vis cs s i).2, some i)
/-- The trail is gone through from hd on. -/
def todoF (cs : List (List Int)) : Nat → Nat → Nat → PS → Option (PS × Int)
  | 0, _, _, _ => none
  | f + 1, B, hd, s => if hd < s.out.length then
      if 1099511627776 < B + 2 * (s.W (s.out.getD hd z32).f0).length + 1 then none
      else match (visL cs (s.W (s.out.getD hd z32).f0) ⟨s.T, updW s.W (s.out.getD hd z32).f0 [], s.out⟩).2 with
        | some i => some ((visL cs (s.W (s.out.getD hd z32).f0) ⟨s.T, updW s.W (s.out.getD hd z32).f0 [], s.out⟩).1, i)
        | none => todoF cs f (B + 2 * (s.W (s.out.getD hd z32).f0).length + 1) (hd + 1) (visL cs (s.W (s.out.getD hd z32).f0) ⟨s.T, updW s.W (s.out.getD hd z32).f0 [], s.out⟩).1
    else some (s, -1)
def stepsT : (Int → Bool) → List S32 → (Int → Bool)
  | T, [] => T
  | T, s :: t => stepsT (updT T s.f0) t
theorem stepsT_snoc (T : Int → Bool) (t : List S32) (s : S32) : stepsT T (t ++ [s]) = updT (stepsT T t) s.f0 := by
  induction t generalizing T with
  | nil => rfl
  | cons x t ih => exact ih _
def idxL (i m : Nat) : List Int := (List.range' i m).map (fun (k : Nat) => (k : Int))
theorem idxL_succ (i m : Nat) : idxL i (m + 1) = (i : Int) :: idxL (i + 1) m := by unfold idxL; rw [List.range'_succ, List.map_cons]
/-- The engine when all steps are told and no clause has been looked at. -/
def startS (t : List S32) : PS := ⟨stepsT (fun _ => false) t, fun _ => [], t⟩
/-- What comes behind the check. -/
def mainP (cs : List (List Int)) (t : List S32) : Option (List S32 × Int × Int) :=
  match (visL cs (idxL 0 cs.length) (startS t)).2 with
  | some i => some ((visL cs (idxL 0 cs.length) (startS t)).1.out, i, 0)
  | none => (todoF cs 30 (2 * t.length + 2 * cs.length) t.length (visL cs (idxL 0 cs.length) (startS t)).1).map (fun r => (r.1.out, r.2, 0))
def prop_Prop.f (n : Int) (cs : List (List Int)) (t : List S32) : Option (List S32 × Int × Int) :=
  if okC cs = true ∧ t.length ≤ 1000000 then (if checkP n cs t ≠ 0 then some ([], 0, checkP n cs t) else mainP cs t) else none

variable {bs g tb wb : Nat} {Ac : Option Addr} {nc cc : Nat} {vo : Value} {hd : Int} {B : Nat} {T : Int → Bool} {V : Int → Value} {W : Int → List Int} {out : List S32} {vX : Value} {xs : List Int} {w w1 w2 : World}

theorem EI.start {t : List S32} (hbox : w.heap[g]? = some (.cells #[.map (some tb), .slice Ac nc cc, .map (some wb), vo, .int .i64 hd] 61 (0, 0))) (hT : TM w tb 0 (fun _ => false)) (hV : VM w wb 0 (fun _ => .slice none 0 0)) (hne : tb ≠ wb)
    (ho : k32.R 32 w bs (fun k => bs ≤ k) vo t) (hl : ∀ s ∈ t, LitP s.f0) (hlo : bs ≤ g ∧ bs ≤ tb ∧ bs ≤ wb ∧ bs ≤ w.heap.size) : EI bs g tb wb Ac nc cc vo hd t.length (fun _ => false) (fun _ => .slice none 0 0) (fun _ => []) t (.slice none 0 0) [] w where
  eb := ⟨hbox⟩
  tm := ⟨0, Nat.zero_le _, hT⟩
  vm := ⟨0, Nat.zero_le _, hV⟩
  rows := fun _ _ => Kd.R_nil _ _ _ _ _
  apart := fun _ _ _ _ _ => .inl rfl
  len := fun _ _ => Nat.zero_le _
  idx := fun _ _ i hi => by cases hi
  own := ho
  olen := Nat.le_refl _
  olit := hl
  xr := Kd.R_nil _ _ _ _ _
  xa := fun _ _ => .inl rfl
  ne := hne
  lo := hlo

/-- The head moves on. -/
theorem EI.head (h : EI bs g tb wb Ac nc cc vo hd B T V W out vX xs w) (hd' : Int) : EI bs g tb wb Ac nc cc vo hd' B T V W out vX xs (w.setCell ⟨g, 4, none⟩ (.int .i64 hd')) ∧ Below bs w (w.setCell ⟨g, 4, none⟩ (.int .i64 hd')) := by
  obtain ⟨n0, hn0, ht0⟩ := h.tm
  obtain ⟨m, hm, hv⟩ := h.vm
  obtain ⟨es, clock, hb⟩ := ht0.block
  obtain ⟨es2, clock2, hb2⟩ := VMap.block hv
  have hgt : g ≠ tb := h.eb.not_map hb
  have hgw : g ≠ wb := h.eb.not_map hb2
  have hsz : (w.setCell ⟨g, 4, none⟩ (.int .i64 hd')).heap.size = w.heap.size := by simp [World.setCell]
  have hgs : w.grownBy (w.setCell ⟨g, 4, none⟩ (.int .i64 hd')) (some g) := ⟨rfl, rfl, rfl, by rw [hsz]; exact Nat.le_refl _, fun k hk hne => Below.heap_setCell w ⟨g, 4, none⟩ _ k (fun e => hne (by rw [e]))⟩
  refine ⟨{ h with
    eb := ⟨by have := blk_set h.eb.box 4 (.int .i64 hd'); simpa using this⟩
    tm := ⟨n0, hn0, ht0.kept hgs (fun e => hgt (Option.some.inj e).symm)⟩
    vm := ⟨m, hm, hv.kept hgs (fun e => hgw (Option.some.inj e).symm)⟩
    rows := fun x hx => Kd.R_set (h.rows x hx) h.eb.box (by decide) 4 _
    own := Kd.R_set h.own h.eb.box (by decide) 4 _
    xr := Kd.R_set h.xr h.eb.box (by decide) 4 _
    lo := ⟨h.lo.1, h.lo.2.1, h.lo.2.2.1, by rw [hsz]; exact h.lo.2.2.2⟩ }, ?_⟩
  exact (Below.refl bs w).setCell (by exact h.lo.1) _

/-- An empty list taken out is no change. -/
theorem EI.emptyW (h : EI bs g tb wb Ac nc cc vo hd B T V W out vX xs w) {x : Int} (hW : W x = []) : EI bs g tb wb Ac nc cc vo hd B T V (updW W x []) out vX xs w := by
  have e : updW W x [] = W := by
    funext y
    unfold updW
    by_cases hy : y = x
    · rw [if_pos hy, hy, hW]
    · rw [if_neg hy]
  rw [e]
  exact h

#print axioms EI.head
end Go.Proofs.Ytidgljajegoffaa.G
