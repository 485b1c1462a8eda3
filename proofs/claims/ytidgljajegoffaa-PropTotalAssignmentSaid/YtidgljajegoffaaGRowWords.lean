/-
  A row of bools that comes in, as the walks read it.
-/
import Derived.Test.YtidgljajegoffaaWMore
import Derived.Test.YtidgljajegoffaaProg
import Derived.Deep.Grids
import Derived.RowKit
namespace Go.Proofs.Ytidgljajegoffaa.G
open Go.RowKit Go.Proofs.YtidgljajegoffaaW.PrintWords Go.Proofs.YtidgljajegoffaaW.PrintLast Go.Proofs.YtidgljajegoffaaW.PrintMore

theorem open_bool_row {H : Type} {enc : TypeId × Value → H} {P : Program} {W : World} {held : Bool} {t e : TypeId} {A : Option Addr} {len cap : Nat} {d : DataW H} {p : List MemPlace} (ht : P.underlying t = some (.slice e)) (he : P.underlying e = some .bool) (hc : P.cellsOf e = 1)
    (h : DataW.Trod enc P W 0 (fun _ => true) held t (.slice A len cap) d p) : ∃ zs : List Bool, len = zs.length ∧ Kd.bool.C W A zs.length zs ∧ zs.length ≤ cap ∧ zs.length ≤ maxLen := by
  obtain ⟨fuel, hf⟩ := h
  rcases Go.Deep.open_bools ht he hc hf with ⟨hcs, _⟩ | ⟨x, l, c, B, hcs, _, hl, hm, _, hcell⟩
  · simp [Value.cells] at hcs
    obtain ⟨rfl, rfl, rfl⟩ := hcs
    exact ⟨[], rfl, Kd.C_nil _ _, Nat.le_refl _, Nat.zero_le _⟩
  · simp [Value.cells] at hcs
    obtain ⟨rfl, rfl, rfl⟩ := hcs
    refine ⟨(List.range len).map B, by simp, ?_, by simpa using hl, by simp; omega⟩
    refine Kd.C_of_reads (enc := Value.bool) (h1 := fun _ => rfl) (d := false) ⟨rfl, by have : maxLen = 9223372036854775807 := rfl; simp; omega, fun hn => ⟨_, rfl, fun j hj => ?_⟩⟩
    have hj' : j < len := by simpa using hj
    rw [hcell j (by omega)]
    simp [List.getD_eq_getElem?_getD, hj']

end Go.Proofs.Ytidgljajegoffaa.G
