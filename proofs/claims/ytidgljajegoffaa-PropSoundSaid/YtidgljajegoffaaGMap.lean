/-
  Words for maps from int to bool that a call makes itself: what a key reads as, told by a Lean function S.
-/
import Derived.Test.YtidgljajegoffaaProg
import Derived.Maps.OwnSet
import Derived.Maps.Views
import Derived.WalkKit
import Derived.Deep.Draws
namespace Go.Proofs.Ytidgljajegoffaa.G
open Go.RowKit Go.Maps

/-- Block b is a map from int (key type k) to bool (element type e), of at most n entries, where key x reads as S x. -/
def BMap (P : Program) (k e : TypeId) (w : World) (b n : Nat) (S : Int → Bool) : Prop :=
  ∃ D : DataW Unit, w.ownsMap P k (plainElem P e) b n D ∧ ∀ x, (Lit.int .i64 x).wf = true → D.atKey (.int .i64 x) (.lit (.bool false)) = .lit (.bool (S x))

theorem BMap.made (P : Program) (k e : TypeId) (w : World) : BMap P k e (w.alloc (.map #[] 0)) w.heap.size 0 (fun _ => false) :=
  ⟨_, World.ownsMap_made _ _ _ _, fun _ _ => rfl⟩
theorem BMap.kept {P : Program} {k e : TypeId} {w w' : World} {b n : Nat} {S : Int → Bool} {row : Option Nat} (h : BMap P k e w b n S) (hg : w.grownBy w' row) (hne : some b ≠ row) : BMap P k e w' b n S := by
  obtain ⟨D, h1, h2⟩ := h
  exact ⟨D, h1.kept hg hne, h2⟩
theorem BMap.lt {P : Program} {k e : TypeId} {w : World} {b n : Nat} {S : Int → Bool} (h : BMap P k e w b n S) : b < w.heap.size := by
  obtain ⟨D, h1, h2⟩ := h
  exact h1.lt
theorem BMap.drewN {P : Program} {k e : TypeId} {w : World} {b n : Nat} {S : Int → Bool} (h : BMap P k e w b n S) (m : Nat) : BMap P k e (w.drewN m) b n S := h
theorem BMap.setCell {P : Program} {k e : TypeId} {w : World} {b n : Nat} {S : Int → Bool} (h : BMap P k e w b n S) {a : Addr} (ha : b ≠ a.block) (u : Value) : BMap P k e (w.setCell a u) b n S := by
  obtain ⟨D, h1, h2⟩ := h
  exact ⟨D, h1.setCell ha u, h2⟩

theorem plainElem_bool_inv {H : Type} {P : Program} {e : TypeId} (he : P.underlying e = some .bool) {v : Value} {z : DataW H × List MemPlace} (h : plainElem P e v = some z) : ∃ x, v = .bool x ∧ z = (.lit (.bool x), []) := by
  unfold plainElem at h
  rw [he] at h
  cases v <;> simp at h
  exact ⟨_, rfl, h.symm⟩

theorem BMap.look {P : Program} {k e t : TypeId} {w : World} {b n : Nat} {S : Int → Bool} (h : BMap P k e w b n S) (hk : P.underlying k = some (.int .i64)) (ht : P.underlying t = some (.map k e)) (he : P.underlying e = some .bool)
    (hz : (zeroValue e).run P w = .ok (.bool false) w) (x : Int) (hx : (Lit.int .i64 x).wf = true) : (Instr.lookup t (.map (some b)) (.int .i64 x) false).run P w = .ok (.bool (S x)) w := by
  obtain ⟨D, h1, h2⟩ := h
  obtain ⟨v, ps, hrun, hv⟩ := h1.lookup (int_keyed hk) ht hz (plainElem_bool he false) (keyOf_int_mk hk hx)
  obtain ⟨c, rfl, hc⟩ := plainElem_bool_inv he hv
  simp only [Prod.mk.injEq] at hc
  rw [h2 x hx] at hc
  have : c = S x := by simpa using hc.1.symm
  rw [hrun, this]

theorem BMap.put {P : Program} {k e t : TypeId} {w : World} {b n : Nat} {S : Int → Bool} (h : BMap P k e w b n S) (hk : P.underlying k = some (.int .i64)) (ht : P.underlying t = some (.map k e)) (he : P.underlying e = some .bool)
    (hn : n < maxLen) (x : Int) (hx : (Lit.int .i64 x).wf = true) (v : Bool) : ∃ w', (Instr.mapUpdate t (.map (some b)) (.int .i64 x) (.bool v)).run P w = .ok () w' ∧ BMap P k e w' b (n + 1) (fun y => if y = x then v else S y) ∧ w.grownBy w' (some b) := by
  obtain ⟨D, h1, h2⟩ := h
  obtain ⟨w', hrun, r1, r2⟩ := h1.update (int_keyed hk) ht hn (keyOf_int_mk hk hx) (plainElem_bool he v)
  refine ⟨w', hrun, ⟨_, r1, fun y hy => ?_⟩, r2⟩
  by_cases hyx : y = x
  · subst hyx
    rw [atKey_put_same h1.isMap (show WideAt.IsKeyLit (.int .i64 y) from trivial)]
    simp
  · rw [atKey_put_other (by simpa using hyx), h2 y hy]
    simp [hyx]

/-- A look-up at the operation. -/
theorem wpList_look_bool {P : Program} (w : World) {ops : Array Oper} {rest : List Oper} {o : Oper} {a : Act} {Q : Exit → Act → World → Prop}
    (hg : o.guard = none) (m x : Operand) (t : TypeId) (hop : o.op = Op.lookup t m x false) (k e : TypeId) (hk : P.underlying k = some (.int .i64)) (ht : P.underlying t = some (.map k e)) (he : P.underlying e = some .bool)
    (hz : (zeroValue e).run P w = .ok (.bool false) w) (b n : Nat) (S : Int → Bool) (hm : a.eval m = .map (some b)) (h : BMap P k e w b n S) (y : Int) (hx : a.eval x = .int .i64 y) (hy : (Lit.int .i64 y).wf = true)
    (hK : wpList P ops Q rest (a.put o.dst (.bool (S y))) w) : wpList P ops Q (o :: rest) a w := by
  refine wpList_plain hg fun K' hK' => ?_
  have hrun := h.look hk ht he hz y hy
  unfold Oper.wp
  simp [execOp, hop, hm, hx, hrun, Result.andThen]
  exact hK' _ _ hK

/-- A store at the operation. -/
theorem wpList_put_bool {P : Program} (w : World) {ops : Array Oper} {rest : List Oper} {o : Oper} {a : Act} {Q : Exit → Act → World → Prop}
    (hg : o.guard = none) (m x v : Operand) (t : TypeId) (hop : o.op = Op.mapUpdate t m x v) (k e : TypeId) (hk : P.underlying k = some (.int .i64)) (ht : P.underlying t = some (.map k e)) (he : P.underlying e = some .bool)
    (b n : Nat) (S : Int → Bool) (hm : a.eval m = .map (some b)) (h : BMap P k e w b n S) (hn : n < maxLen) (y : Int) (hx : a.eval x = .int .i64 y) (hy : (Lit.int .i64 y).wf = true) (u : Bool) (hv : a.eval v = .bool u)
    (hK : ∀ w', BMap P k e w' b (n + 1) (fun z => if z = y then u else S z) → w.grownBy w' (some b) → wpList P ops Q rest (a.put o.dst undef) w') : wpList P ops Q (o :: rest) a w := by
  refine wpList_plain hg fun K' hK' => ?_
  obtain ⟨w', hrun, r1, r2⟩ := h.put hk ht he hn y hy u
  unfold Oper.wp
  simp [execOp, hop, hm, hx, hv, hrun, Result.andThen]
  exact hK' _ _ (hK w' r1 r2)

end Go.Proofs.Ytidgljajegoffaa.G
