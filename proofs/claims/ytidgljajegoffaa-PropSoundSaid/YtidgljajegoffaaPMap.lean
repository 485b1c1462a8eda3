/-
  Words for a map from int to slices that a call makes itself: what value a key holds, told by a Lean function V.
-/
import Derived.Test.YtidgljajegoffaaGMap
namespace Go.Proofs.Ytidgljajegoffaa.G
open Go.RowKit Go.Maps

/-- Each value as itself. -/
def selfElem (v : Value) : Option (DataW Value × List MemPlace) := some (.held v, [])
/-- Block b is a map from int (key type k), of at most n entries, where key x holds V x (nil where there is none). -/
def VMap (P : Program) (k : TypeId) (w : World) (b n : Nat) (V : Int → Value) : Prop :=
  ∃ D : DataW Value, w.ownsMap P k selfElem b n D ∧ ∀ x, (Lit.int .i64 x).wf = true → D.atKey (.int .i64 x) (.held (.slice none 0 0)) = .held (V x)

theorem VMap.made (P : Program) (k : TypeId) (w : World) : VMap P k (w.alloc (.map #[] 0)) w.heap.size 0 (fun _ => .slice none 0 0) :=
  ⟨_, World.ownsMap_made _ _ _ _, fun _ _ => rfl⟩
theorem VMap.kept {P : Program} {k : TypeId} {w w' : World} {b n : Nat} {V : Int → Value} {row : Option Nat} (h : VMap P k w b n V) (hg : w.grownBy w' row) (hne : some b ≠ row) : VMap P k w' b n V := by
  obtain ⟨D, h1, h2⟩ := h
  exact ⟨D, h1.kept hg hne, h2⟩
theorem VMap.lt {P : Program} {k : TypeId} {w : World} {b n : Nat} {V : Int → Value} (h : VMap P k w b n V) : b < w.heap.size := by
  obtain ⟨D, h1, h2⟩ := h
  exact h1.lt
theorem VMap.drewN {P : Program} {k : TypeId} {w : World} {b n : Nat} {V : Int → Value} (h : VMap P k w b n V) (m : Nat) : VMap P k (w.drewN m) b n V := h

theorem VMap.look {P : Program} {k e t : TypeId} {w : World} {b n : Nat} {V : Int → Value} (h : VMap P k w b n V) (hk : P.underlying k = some (.int .i64)) (ht : P.underlying t = some (.map k e))
    (hz : (zeroValue e).run P w = .ok (.slice none 0 0) w) (x : Int) (hx : (Lit.int .i64 x).wf = true) : (Instr.lookup t (.map (some b)) (.int .i64 x) false).run P w = .ok (V x) w := by
  obtain ⟨D, h1, h2⟩ := h
  obtain ⟨v, ps, hrun, hv⟩ := h1.lookup (int_keyed hk) ht hz (zd := .held (.slice none 0 0)) (zp := []) rfl (keyOf_int_mk hk hx)
  unfold selfElem at hv
  simp only [Option.some.injEq, Prod.mk.injEq] at hv
  rw [h2 x hx] at hv
  have : v = V x := by simpa using hv.1
  rw [hrun, this]

theorem VMap.put {P : Program} {k e t : TypeId} {w : World} {b n : Nat} {V : Int → Value} (h : VMap P k w b n V) (hk : P.underlying k = some (.int .i64)) (ht : P.underlying t = some (.map k e))
    (hn : n < maxLen) (x : Int) (hx : (Lit.int .i64 x).wf = true) (v : Value) : ∃ w', (Instr.mapUpdate t (.map (some b)) (.int .i64 x) v).run P w = .ok () w' ∧ VMap P k w' b (n + 1) (fun y => if y = x then v else V y) ∧ w.grownBy w' (some b) := by
  obtain ⟨D, h1, h2⟩ := h
  obtain ⟨w', hrun, r1, r2⟩ := h1.update (d := .held v) (ps := []) (int_keyed hk) ht hn (keyOf_int_mk hk hx) rfl
  refine ⟨w', hrun, ⟨_, r1, fun y hy => ?_⟩, r2⟩
  by_cases hyx : y = x
  · subst hyx
    rw [atKey_put_same h1.isMap (show WideAt.IsKeyLit (.int .i64 y) from trivial)]
    simp
  · rw [atKey_put_other (by simpa using hyx), h2 y hy]
    simp [hyx]

/-- A look-up at the operation. -/
theorem wpList_look_v {P : Program} (w : World) {ops : Array Oper} {rest : List Oper} {o : Oper} {a : Act} {Q : Exit → Act → World → Prop}
    (hg : o.guard = none) (m x : Operand) (t : TypeId) (hop : o.op = Op.lookup t m x false) (k e : TypeId) (hk : P.underlying k = some (.int .i64)) (ht : P.underlying t = some (.map k e))
    (hz : (zeroValue e).run P w = .ok (.slice none 0 0) w) (b n : Nat) (V : Int → Value) (hm : a.eval m = .map (some b)) (h : VMap P k w b n V) (y : Int) (hx : a.eval x = .int .i64 y) (hy : (Lit.int .i64 y).wf = true)
    (hK : wpList P ops Q rest (a.put o.dst (V y)) w) : wpList P ops Q (o :: rest) a w := by
  refine wpList_plain hg fun K' hK' => ?_
  have hrun := h.look hk ht hz y hy
  unfold Oper.wp
  simp [execOp, hop, hm, hx, hrun, Result.andThen]
  exact hK' _ _ hK

/-- A store at the operation. -/
theorem wpList_put_v {P : Program} (w : World) {ops : Array Oper} {rest : List Oper} {o : Oper} {a : Act} {Q : Exit → Act → World → Prop}
    (hg : o.guard = none) (m x v : Operand) (t : TypeId) (hop : o.op = Op.mapUpdate t m x v) (k e : TypeId) (hk : P.underlying k = some (.int .i64)) (ht : P.underlying t = some (.map k e))
    (b n : Nat) (V : Int → Value) (hm : a.eval m = .map (some b)) (h : VMap P k w b n V) (hn : n < maxLen) (y : Int) (hx : a.eval x = .int .i64 y) (hy : (Lit.int .i64 y).wf = true) (u : Value) (hv : a.eval v = u)
    (hK : ∀ w', VMap P k w' b (n + 1) (fun z => if z = y then u else V z) → w.grownBy w' (some b) → wpList P ops Q rest (a.put o.dst undef) w') : wpList P ops Q (o :: rest) a w := by
  refine wpList_plain hg fun K' hK' => ?_
  obtain ⟨w', hrun, r1, r2⟩ := h.put hk ht hn y hy u
  unfold Oper.wp
  simp [execOp, hop, hm, hx, hv, hrun, Result.andThen]
  exact hK' _ _ (hK w' r1 r2)

end Go.Proofs.Ytidgljajegoffaa.G
