/-
  Arguments of chapter 19's rows, opened: rows of rows, formulas, trails.
-/
import Derived.Test.YtidgljajegoffaaPBase
import Derived.Test.YtidgljajegoffaaQRefx0
import Derived.Deep.Matrix
import Derived.Deep.Slices
import Derived.ChangeSame
namespace Go.Proofs.Ytidgljajegoffaa.G
set_option linter.unusedVariables false
open Go.RowKit Go.Proofs.YtidgljajegoffaaW.PrintWords Go.Proofs.YtidgljajegoffaaW.PrintLast Go.Proofs.YtidgljajegoffaaW.PrintMore

theorem ints_C {w : World} {A : Option Addr} {z : List Int} (hl : z.length ≤ 9223372036854775807) (h : 0 < z.length → ∃ a, A = some a ∧ ∀ c, c < z.length → w.cell? (a.add c) = some (.int .i64 (z.getD c 0))) : (Kd.int .i64).C w A z.length z :=
  Kd.C_of_reads (enc := Value.int .i64) (h1 := fun _ => rfl) (d := (0 : Int)) ⟨rfl, hl, fun hn => by
    obtain ⟨a, e, hc⟩ := h hn
    exact ⟨a, e, fun j hj => by simpa using hc j (by simpa using hj)⟩⟩

theorem mem_weightsAll {H : Type} {P : Program} {e : TypeId} {y : Nat} {d : DataW H} : ∀ {l : List (DataW H)}, d ∈ l → y ∈ d.weights P e → y ∈ DataW.weightsAll P e l
  | [], h, _ => by cases h
  | d0 :: l, h, hy => by
    rw [DataW.weightsAll, List.mem_append]
    rcases List.mem_cons.1 h with h | h
    · subst h; exact .inl hy
    · exact .inr (mem_weightsAll h hy)

/-- Rows of rows of ints that came in. -/
theorem open_rows {H : Type} {enc : TypeId × Value → H} {W : World} {held : Bool} {fuel : Nat} {A : Option Addr} {len cap : Nat} {x : DataW H × List MemPlace} (h : DataW.trod enc Try.prog W 0 (fun _ => true) held fuel 22 [.slice A len cap] = some x) :
    ∃ zs : List (List Int), len = zs.length ∧ KRows.C W A zs.length zs ∧ zs.length ≤ cap ∧ ((∀ y ∈ x.1.weights Try.prog 22, y ≤ reachBytes) → ∀ c ∈ zs, c.length ≤ 140737488355328) ∧ ∀ c ∈ zs, ∀ y ∈ c, (Lit.int .i64 y).wf = true := by
  rcases Go.Deep.open_int_rows Try.underlying22 Try.underlying37 Try.underlying3 (by kernel_rfl) (by kernel_rfl) h with ⟨hcs, _⟩ | ⟨a, len', cap', B, L, C, Z, hcs, _, hl, hm, hxe, hr⟩
  · simp at hcs
    obtain ⟨rfl, rfl, rfl⟩ := hcs
    exact ⟨[], rfl, ⟨rfl, by decide, fun h => by cases h⟩, Nat.le_refl _, by simp, by simp⟩
  · simp at hcs
    obtain ⟨rfl, rfl, rfl⟩ := hcs
    have hmx : maxLen ≤ 9223372036854775807 := by decide
    refine ⟨(List.range len).map (fun r => (Z r).take (L r)), by simp, ⟨rfl, by simp; omega, fun _ => ⟨a, rfl, fun j p hj => ?_⟩⟩, by simpa using hl, fun hsz c hc => ?_, fun c hc y hy => ?_⟩
    · rw [List.getElem?_map] at hj
      obtain ⟨r, hr1, hr2⟩ := Option.map_eq_some_iff.1 hj
      obtain ⟨hjl, hjr⟩ := List.getElem?_eq_some_iff.1 hr1
      have hjl' : j < len := by simpa using hjl
      obtain rfl : j = r := by simpa using hjr
      obtain ⟨c1, c2, c3, c4, c5, c6, c7⟩ := hr j (by omega)
      have hpl : p.length = L j := by rw [← hr2, List.length_take]; omega
      refine ⟨[.slice (B j) p.length (C j)], rfl, ⟨B j, C j, rfl, by omega, ?_⟩, fun i u hu => ?_⟩
      · refine ints_C (by omega) (fun h0 => ?_)
        cases hB : B j with
        | none => have := c6 hB; omega
        | some a' =>
          refine ⟨a', rfl, fun c hc => ?_⟩
          rw [(c7 a' hB).2 c (by omega), ← hr2]
          simp [List.getD_eq_getElem?_getD, show c < L j by omega]
      · obtain ⟨rfl, rfl⟩ : i = 0 ∧ u = .slice (B j) p.length (C j) := by cases i <;> simp at hu; exact ⟨rfl, hu.symm⟩
        show W.cell? (a.add (j * 1 + 0)) = _
        rw [Nat.mul_one, Nat.add_zero, c1, hpl]
    · obtain ⟨r, hr1, rfl⟩ := List.mem_map.1 hc
      have hrl := List.mem_range.1 hr1
      obtain ⟨_, c2, c3, c4, _, c6, _⟩ := hr r (by omega)
      rw [List.length_take, c4]
      cases hB : B r with
      | none => have := c6 hB; omega
      | some a' =>
        have hbe : Try.prog.bytesOf 3 = 8 := by kernel_rfl
        have hy : ((Go.Deep.intRow (H := H) .i64 (B r) (L r) (Z r))).weights Try.prog 37 = (C r) * 8 :: (DataW.weightsAll (H := H) Try.prog 3 (Go.ChangeShapes.lits .i64 ((Z r).take (L r))) ++ DataW.weightsAll (H := H) Try.prog 3 (Go.ChangeShapes.lits .i64 ((Z r).drop (L r)))) := by
          rw [hB]
          unfold Go.Deep.intRow
          rw [DataW.weights, Try.underlying37]
          simp only
          rw [hbe, show (Go.ChangeShapes.lits (H := H) .i64 ((Z r).take (L r))).length + (Go.ChangeShapes.lits (H := H) .i64 ((Z r).drop (L r))).length = C r from by simp [Go.ChangeShapes.lits]; omega]
        have h8 := hsz ((C r) * 8) (by
          rw [hxe, DataW.weights, Try.underlying22]
          refine List.mem_cons_of_mem _ (List.mem_append_left _ (mem_weightsAll (d := Go.Deep.intRow .i64 (B r) (L r) (Z r)) (List.mem_map.2 ⟨r, hr1, rfl⟩) ?_))
          rw [hy]
          exact List.mem_cons_self)
        unfold reachBytes at h8
        omega
    · obtain ⟨r, hr1, rfl⟩ := List.mem_map.1 hc
      obtain ⟨_, _, _, _, c5, _⟩ := hr r (by have := List.mem_range.1 hr1; omega)
      exact c5 y (List.mem_of_mem_take hy)

/-- A formula that came in. -/
theorem open_cnf {H : Type} {enc : TypeId × Value → H} {W : World} {held : Bool} {fuel : Nat} {cs : List Value} {x : DataW H × List MemPlace} (h : DataW.trod enc Try.prog W 0 (fun _ => true) held fuel 24 cs = some x) :
    ∃ (n : Int) (A : Option Addr) (cap : Nat) (zs : List (List Int)), cs = [.int .i64 n, .slice A zs.length cap] ∧ (Lit.int .i64 n).wf = true ∧ KRows.C W A zs.length zs ∧ zs.length ≤ cap ∧ ((∀ y ∈ x.1.weights Try.prog 24, y ≤ reachBytes) → ∀ c ∈ zs, c.length ≤ 140737488355328) ∧ ∀ c ∈ zs, ∀ y ∈ c, (Lit.int .i64 y).wf = true := by
  obtain ⟨y0, y1, m, hxe, hl, h0, h1⟩ := Go.ChangeShapes.trod_struct2 Try.underlying24 h
  have hc2 : Try.prog.cellsOf 24 = 2 := by kernel_rfl
  have hc1 : Try.prog.cellsOf 3 = 1 := by kernel_rfl
  have hc3 : Try.prog.cellsOf 22 = 1 := by kernel_rfl
  rw [hc2] at hl
  match cs, hl with
  | [v0, v1], _ =>
    have h0' : DataW.trod enc Try.prog W 0 (fun _ => true) held m 3 [v0] = some y0 := h0
    have h1' : DataW.trod enc Try.prog W 0 (fun _ => true) held m 22 [v1] = some y1 := h1
    obtain ⟨n, hn, _, hw⟩ := DataW.trod_int Try.underlying3 h0'
    have e0 : v0 = .int .i64 n := by simpa using hn
    subst e0
    have hs : ∃ A len cap, v1 = .slice A len cap := by
      rcases Go.Deep.open_slice Try.underlying22 h1' with ⟨e, _⟩ | ⟨a, len, cap, _, _, _, _, e, _⟩
      · exact ⟨_, _, _, by simpa using e⟩
      · exact ⟨_, _, _, by simpa using e⟩
    obtain ⟨A, len, cap, rfl⟩ := hs
    obtain ⟨zs, rfl, z1, z2, z3, z4⟩ := open_rows h1'
    exact ⟨n, A, cap, zs, rfl, hw, z1, z2, fun hsz => z3 (fun y hy => hsz y (by
      rw [hxe, DataW.weights, Try.underlying24]
      simp [DataW.weightsEach, hy])), z4⟩

open Go.Proofs.Ytidgljajegoffaa.QRef (S32 k32 k32_mk z32)
/-- A trail that came in. -/
theorem open_steps {H : Type} {enc : TypeId × Value → H} {W : World} {held : Bool} {fuel : Nat} {A : Option Addr} {len cap : Nat} {x : DataW H × List MemPlace} (h : DataW.trod enc Try.prog W 0 (fun _ => true) held fuel 30 [.slice A len cap] = some x) :
    ∃ t : List S32, len = t.length ∧ k32.C W A t.length t ∧ t.length ≤ cap ∧ ∀ s ∈ t, (Lit.int .i64 s.f0).wf = true ∧ (Lit.int .i64 s.f1).wf = true := by
  have hce : Try.prog.cellsOf 32 = 2 := by kernel_rfl
  have hc1 : Try.prog.cellsOf 3 = 1 := by kernel_rfl
  rcases Go.Deep.open_slice Try.underlying30 h with ⟨hcs, _⟩ | ⟨a, len', cap', m, n, D, Pl, hcs, _, hl, hm, hmm, _, hr⟩
  · simp at hcs
    obtain ⟨rfl, rfl, rfl⟩ := hcs
    exact ⟨[], rfl, ⟨rfl, by decide, fun h => by cases h⟩, Nat.le_refl _, by simp⟩
  · simp at hcs
    obtain ⟨rfl, rfl, rfl⟩ := hcs
    rw [if_pos rfl] at hmm
    subst hmm
    have hmx : maxLen ≤ 9223372036854775807 := by decide
    have each : ∀ i, i < len → ∃ s : Int × Int, W.cell? (a.add (i * 2)) = some (.int .i64 s.1) ∧ W.cell? (a.add (i * 2 + 1)) = some (.int .i64 s.2) ∧ (Lit.int .i64 s.1).wf = true ∧ (Lit.int .i64 s.2).wf = true := by
      intro i hi
      obtain ⟨cs', h1, h2⟩ := hr i (by omega)
      rw [hce] at h1
      obtain ⟨y0, y1, k, _, hl2, g0, g1⟩ := Go.ChangeShapes.trod_struct2 Try.underlying32 h2
      rw [hce] at hl2
      obtain ⟨_, _, hcell⟩ := World.cells?_some h1
      match cs', hl2 with
      | [v0, v1], _ =>
        have g0' : DataW.trod enc Try.prog W 0 (fun _ => true) held k 3 [v0] = some y0 := g0
        have g1' : DataW.trod enc Try.prog W 0 (fun _ => true) held k 3 [v1] = some y1 := g1
        obtain ⟨n0, e0, _, w0⟩ := DataW.trod_int Try.underlying3 g0'
        obtain ⟨n1, e1, _, w1⟩ := DataW.trod_int Try.underlying3 g1'
        have e0' : v0 = .int .i64 n0 := by simpa using e0
        have e1' : v1 = .int .i64 n1 := by simpa using e1
        subst e0'
        subst e1'
        refine ⟨(n0, n1), ?_, ?_, w0, w1⟩
        · have := hcell 0 (by omega); simpa [Addr.add] using this
        · have := hcell 1 (by omega)
          have e : (a.add (i * 2)).add 1 = a.add (i * 2 + 1) := by
            rcases Nat.eq_zero_or_pos i with q | q
            · subst q; simp [Addr.add]
            · have q2 : ¬ i * 2 = 0 := by omega
              simp only [Addr.add]
              rw [if_neg q2, if_neg (by omega), if_neg (by omega)]
              simp [Nat.add_assoc]
          rw [e] at this
          simpa using this
    obtain ⟨f, hf⟩ := Go.Deep.choose_lt each
    refine ⟨(List.range len).map (fun i => ⟨(f i).1, (f i).2⟩), by simp, ⟨rfl, by simp; omega, fun _ => ⟨a, rfl, fun j p hj => ?_⟩⟩, by simpa using hl, fun s hs => ?_⟩
    · rw [List.getElem?_map] at hj
      obtain ⟨r, hr1, hr2⟩ := Option.map_eq_some_iff.1 hj
      obtain ⟨hjl, hjr⟩ := List.getElem?_eq_some_iff.1 hr1
      obtain rfl : j = r := by simpa using hjr
      obtain ⟨c1, c2, _, _⟩ := hf j (by simpa using hjl)
      subst hr2
      refine ⟨[.int .i64 (f j).1, .int .i64 (f j).2], rfl, k32_mk W _, fun i u hu => ?_⟩
      match i, hu with
      | 0, hu => have : u = .int .i64 (f j).1 := by simpa using hu.symm
                 subst this; exact c1
      | 1, hu => have : u = .int .i64 (f j).2 := by simpa using hu.symm
                 subst this; exact c2
      | i + 2, hu => simp at hu
    · obtain ⟨r, hr1, rfl⟩ := List.mem_map.1 hs
      obtain ⟨_, _, c3, c4⟩ := hf r (List.mem_range.1 hr1)
      exact ⟨c3, c4⟩

#print axioms open_cnf
#print axioms open_steps
#print axioms open_rows
end Go.Proofs.Ytidgljajegoffaa.G
